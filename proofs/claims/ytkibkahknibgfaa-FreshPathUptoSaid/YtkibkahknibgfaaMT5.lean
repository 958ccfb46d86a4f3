/-
  The order of texts; where rows of sizes are parted: plain laws; Trees that may be: their entries, their order, their sizes; mending keeps them: plain laws; Mending, putting and deleting keep trees that may be, and their entries: plain laws; Putting and deleting keep trees that may be; their entries are the old ones with one more, or less: plain laws; Trees marked as laid, and as the program has them; walked; A row that a statement builds, as one that grows; Trees of the program, and the iterator over their nodes; How many pages a tree takes, and which it has: the program; The end of a growing slice, cleared; Which pages a tree has lost: the program; Trees as the program has them; the laws of marked ones; Numbers put together, in order; Numbers in order, as the document has them; the plain laws of order; What the reference tells of a tree's pages. By an AI agent.
-/
import Derived.Test.YtkibkahknibgfaaMT4
import Derived.Test.YtkibkahknibgfaaMT3
namespace Go.Proofs.Ytkibkahknibgfaa
open Aml Go
set_option linter.unusedVariables false
set_option linter.unusedSimpArgs false
set_option maxRecDepth 100000

theorem bl_irrefl : ∀ (a : List UInt8), Op.bytesLess a a = false
  | [] => rfl
  | x :: a => by simp [Op.bytesLess, bl_irrefl a]
theorem bl_trans : ∀ {a b c : List UInt8}, Op.bytesLess a b = true → Op.bytesLess b c = true → Op.bytesLess a c = true
  | [], [], _, h, _ => by simp [Op.bytesLess] at h
  | [], _ :: _, [], _, h => by simp [Op.bytesLess] at h
  | [], _ :: _, _ :: _, _, _ => by simp [Op.bytesLess]
  | _ :: _, [], _, h, _ => by simp [Op.bytesLess] at h
  | _ :: _, _ :: _, [], _, h => by simp [Op.bytesLess] at h
  | x :: a, y :: b, z :: c, h1, h2 => by
    simp only [Op.bytesLess, Bool.or_eq_true, decide_eq_true_eq, Bool.and_eq_true, beq_iff_eq] at h1 h2 ⊢
    rcases h1 with h1 | ⟨rfl, h1⟩
    · rcases h2 with h2 | ⟨rfl, h2⟩
      · exact .inl (UInt8.lt_trans h1 h2)
      · exact .inl h1
    · rcases h2 with h2 | ⟨rfl, h2⟩
      · exact .inl h2
      · exact .inr ⟨rfl, bl_trans h1 h2⟩
theorem bl_tri : ∀ (a b : List UInt8), Op.bytesLess a b = true ∨ a = b ∨ Op.bytesLess b a = true
  | [], [] => .inr (.inl rfl)
  | [], _ :: _ => .inl (by simp [Op.bytesLess])
  | _ :: _, [] => .inr (.inr (by simp [Op.bytesLess]))
  | x :: a, y :: b => by
    simp only [Op.bytesLess, Bool.or_eq_true, decide_eq_true_eq, Bool.and_eq_true, beq_iff_eq]
    rcases UInt8.lt_or_lt_of_ne (a := x) (b := y) |> fun f => Classical.em (x = y) |>.elim (fun h => Or.inr h) fun h => Or.inl (f h) with h | rfl
    · rcases h with h | h
      · exact .inl (.inl h)
      · exact .inr (.inr (.inl h))
    · rcases bl_tri a b with h | rfl | h
      · exact .inl (.inr ⟨rfl, h⟩)
      · exact .inr (.inl rfl)
      · exact .inr (.inr (.inr ⟨rfl, h⟩))
theorem ba_ext {a b : ByteArray} (h : a.data.toList = b.data.toList) : a = b := by
  cases a; cases b; simp only [ByteArray.mk.injEq]; exact Array.toList_inj.1 h
theorem eqS_iff {a b : ByteArray} : eqS a b = true ↔ a = b := by
  unfold eqS
  rw [decide_eq_true_eq]
  exact ⟨ba_ext, fun h => h ▸ rfl⟩
theorem eqS_self (a : ByteArray) : eqS a a = true := eqS_iff.2 rfl
theorem eqS_no {a b : ByteArray} : eqS a b = false ↔ a ≠ b := by rw [← Bool.not_eq_true, eqS_iff]
theorem ltS_irrefl (a : ByteArray) : ltS a a = false := bl_irrefl _
theorem ltS_trans {a b c : ByteArray} (h : ltS a b = true) (k : ltS b c = true) : ltS a c = true := bl_trans h k
theorem ltS_tri (a b : ByteArray) : ltS a b = true ∨ a = b ∨ ltS b a = true := (bl_tri a.data.toList b.data.toList).imp id (Or.imp ba_ext id)
theorem ltS_asymm {a b : ByteArray} (h : ltS a b = true) : ltS b a = false := by
  rw [← Bool.not_eq_true]; intro k
  have := ltS_trans h k
  rw [ltS_irrefl] at this; cases this
theorem ltS_ne {a b : ByteArray} (h : ltS a b = true) : a ≠ b := by rintro rfl; rw [ltS_irrefl] at h; cases h
theorem leS_eq (a b : ByteArray) : leS a b = !ltS b a := by
  unfold leS
  rcases ltS_tri a b with h | rfl | h
  · rw [ltS_asymm h, show Op.bytesLess a.data.toList b.data.toList = true from h]; rfl
  · rw [ltS_irrefl]; simp
  · have h1 := ltS_asymm h
    have h2 : ¬ a.data.toList = b.data.toList := fun e => ltS_ne h (ba_ext e).symm
    rw [h, show Op.bytesLess a.data.toList b.data.toList = false from h1, decide_eq_false h2]; rfl
theorem leS_iff {a b : ByteArray} : leS a b = true ↔ ltS b a = false := by rw [leS_eq]; simp
theorem leS_refl (a : ByteArray) : leS a a = true := leS_iff.2 (ltS_irrefl a)
theorem leS_no {a b : ByteArray} : leS a b = false ↔ ltS b a = true := by rw [leS_eq]; simp
theorem ltS_le {a b : ByteArray} (h : ltS a b = true) : leS a b = true := leS_iff.2 (ltS_asymm h)
theorem leS_lt {a b c : ByteArray} (h : leS a b = true) (k : ltS b c = true) : ltS a c = true := by
  rcases ltS_tri a b with h1 | rfl | h1
  · exact ltS_trans h1 k
  · exact k
  · rw [leS_iff.1 h] at h1; cases h1
theorem ltS_leS {a b c : ByteArray} (h : ltS a b = true) (k : leS b c = true) : ltS a c = true := by
  rcases ltS_tri b c with h1 | rfl | h1
  · exact ltS_trans h h1
  · exact h
  · rw [leS_iff.1 k] at h1; cases h1
theorem leS_trans {a b c : ByteArray} (h : leS a b = true) (k : leS b c = true) : leS a c = true := by
  rcases ltS_tri a b with h1 | rfl | h1
  · exact ltS_le (ltS_leS h1 k)
  · exact k
  · rw [leS_iff.1 h] at h1; cases h1
theorem leS_anti {a b : ByteArray} (h : leS a b = true) (k : leS b a = true) : a = b := by
  rcases ltS_tri a b with h1 | h1 | h1
  · rw [leS_iff.1 k] at h1; cases h1
  · exact h1
  · rw [leS_iff.1 h] at h1; cases h1
theorem noS_le (a : ByteArray) : leS noS a = true := by
  rw [leS_iff]; unfold ltS; show Op.bytesLess _ [] = false; cases a.data.toList <;> rfl
theorem noS_lt {a : ByteArray} (h : a ≠ noS) : ltS noS a = true := by
  rcases ltS_tri noS a with h1 | h1 | h1
  · exact h1
  · exact absurd h1.symm h
  · have := noS_le a; rw [leS_iff] at this; rw [this] at h1; cases h1

/-- One of the places is at least as good as another one. -/
theorem atF_best (l : List Int) : ∀ j p, 1 ≤ p → p ≤ j + 1 → worse l (atF l j) ≤ worse l p
  | 0, p, h1, h2 => by have : p = 1 := by omega
                       subst this; exact Int.le_refl _
  | j + 1, p, h1, h2 => by
    simp only [atF]
    split
    · rename_i h
      rcases Nat.lt_or_ge p (j + 2) with h3 | h3
      · have := atF_best l j p h1 (by omega); omega
      · have : p = j + 2 := by omega
        subst this; exact Int.le_refl _
    · rename_i h
      rcases Nat.lt_or_ge p (j + 2) with h3 | h3
      · exact atF_best l j p h1 (by omega)
      · have : p = j + 2 := by omega
        subst this; omega
theorem sum_take_drop (l : List Int) (p : Nat) : (l.take p).sum + (l.drop p).sum = l.sum := by
  rw [← List.sum_append, List.take_append_drop]
theorem sum_pos {l : List Int} (h : ∀ x, x ∈ l → 0 ≤ x) : 0 ≤ l.sum := by
  induction l with
  | nil => exact Int.le_refl _
  | cons a l ih => have := ih fun x hx => h x (List.mem_cons_of_mem _ hx); have := h a List.mem_cons_self; rw [List.sum_cons]; omega
/-- There is a place at which the parts differ by one cell at most. -/
theorem half {m : Int} (hm : 0 ≤ m) : ∀ (l : List Int), (∀ x, x ∈ l → 0 ≤ x ∧ x ≤ m) → ∀ u : Int, 0 ≤ u → u ≤ 2 * l.sum → ∃ p, p ≤ l.length ∧ 2 * (l.take p).sum ≤ u + m ∧ u ≤ 2 * (l.take p).sum + m := by
  intro l
  induction l with
  | nil => intro _ u h0 h1; exact ⟨0, Nat.le_refl _, by simp at *; omega, by simp at *; omega⟩
  | cons a l ih =>
    intro h u h0 h1
    obtain ⟨a0, am⟩ := h a List.mem_cons_self
    rw [List.sum_cons] at h1
    by_cases ht : u ≤ a
    · exact ⟨0, Nat.zero_le _, by simp; omega, by simp; omega⟩
    · by_cases hta : u ≤ 2 * a
      · exact ⟨1, by simp, by simp; omega, by simp; omega⟩
      · obtain ⟨p, p1, p2, p3⟩ := ih (fun x hx => h x (List.mem_cons_of_mem _ hx)) (u - 2 * a) (by omega) (by omega)
        exact ⟨p + 1, by simp; omega, by rw [List.take_succ_cons, List.sum_cons]; omega, by rw [List.take_succ_cons, List.sum_cons]; omega⟩
/-- Where a row is parted both parts are neither too great nor too small. -/
theorem atR_parts {l : List Int} {m : Int} (h : ∀ x, x ∈ l → 0 ≤ x ∧ x ≤ m) (h0 : 122 < l.sum) (hm0 : 0 ≤ m) (hm : m ≤ 35) :
    1 ≤ atR l ∧ atR l < l.length ∧ 2 * (l.take (atR l)).sum ≤ l.sum + m ∧ 2 * (l.drop (atR l)).sum ≤ l.sum + m := by
  obtain ⟨p, p1, p2, p3⟩ := half hm0 l h l.sum (by omega) (by omega)
  have hp0 : p ≠ 0 := by rintro rfl; simp at p3; omega
  have hpl : p ≠ l.length := by rintro rfl; rw [List.take_length] at p2; omega
  have hb := atF_best l (l.length - 2) p (by omega) (by omega)
  have hat : atR l = atF l (l.length - 2) := by unfold atR; rw [if_neg]; rintro (h | h) <;> omega
  have hle := atF_le l (l.length - 2)
  rw [hat]
  generalize atF l (l.length - 2) = q at *
  have sp := sum_take_drop l p
  have sq := sum_take_drop l q
  refine ⟨hle.1, by omega, ?_, ?_⟩
  · unfold worse at hb
    split at hb <;> split at hb <;> omega
  · unfold worse at hb
    split at hb <;> split at hb <;> omega
theorem atR_zero {l : List Int} (h : l.sum ≤ 122) : atR l = 0 := by unfold atR; rw [if_pos (.inl h)]
end Go.Proofs.Ytkibkahknibgfaa

namespace Go.Proofs.Ytkibkahknibgfaa
open Aml Go
set_option linter.unusedVariables false
set_option linter.unusedSimpArgs false
set_option maxRecDepth 100000

mutual
/-- A tree's entries, in its order. -/
def enN : N → List C
  | .mk _ b l => enCs b l
def enC (b : Bool) : C → List C
  | .mk k d ps kid => if b then [.mk k d ps kid] else enNs kid
def enCs (b : Bool) : List C → List C
  | [] => []
  | c :: l => enC b c ++ enCs b l
def enNs : List N → List C
  | [] => []
  | n :: _ => enN n
end
theorem enCs_flat (b : Bool) (l : List C) : enCs b l = l.flatMap (enC b) := by
  induction l with
  | nil => rfl
  | cons c l ih => rw [enCs, ih, List.flatMap_cons]
theorem enN_eq (n : N) : enN n = n.l.flatMap (enC n.leaf) := by cases n; rw [enN, enCs_flat]; rfl
theorem enN_mk (p : Int) (b : Bool) (l : List C) : enN (.mk p b l) = l.flatMap (enC b) := by rw [enN_eq]; rfl
theorem enC_leaf (c : C) : enC true c = [c] := by cases c; rfl
theorem enC_br {c : C} {k : N} (h : c.kid = [k]) : enC false c = enN k := by
  cases c with | mk a b d e =>
  simp only [C.kid_mk] at h
  subst h; rfl
theorem enC_cell (key : ByteArray) (k : N) : enC false (cellN key k) = enN k := enC_br rfl
theorem flat_leaf (l : List C) : l.flatMap (enC true) = l := by
  induction l with
  | nil => rfl
  | cons c l ih => rw [List.flatMap_cons, enC_leaf, ih]; rfl
theorem en_leaf {n : N} (h : n.leaf = true) : enN n = n.l := by rw [enN_eq, h, flat_leaf]

/-- An entry that may be. -/
def ShL (c : C) : Prop := c.key ≠ noS ∧ c.key.size ≤ 16 ∧ c.data.size ≤ 400 ∧ (c.pages ≠ [] → 16 < c.data.size) ∧ c.pages.length ≤ 4 ∧ c.kid = []
/-- A branch's cell. -/
def ShK (c : C) : Prop := c.key.size ≤ 16 ∧ c.data = noS ∧ c.pages = []
/-- A cell ahead of another one, in a branch. -/
def RC (c c' : C) : Prop := ltS c.key c'.key = true ∧ ∀ x, x ∈ enC false c → ltS x.key c'.key = true
def Rise (l : List C) : Prop := l.Pairwise fun a b => ltS a.key b.key = true
def Fits (n : N) : Prop := 30 ≤ (sizesN n).sum ∧ (sizesN n).sum ≤ 122
def CellG (G F : N → Prop) (c : C) : Prop := ShK c ∧ (∀ x, x ∈ enC false c → leS c.key x.key = true) ∧ ∃ k, c.kid = [k] ∧ G k ∧ F k
structure BrG (G : N → Prop) (l : List C) : Prop where
  k0 : keyOf l = noS
  pw : l.Pairwise RC
  cell : ∀ c, c ∈ l → CellG G Fits c
/-- A tree of this depth that may be, but for its root's size. -/
def Good : Nat → N → Prop
  | 0, n => n.leaf = true ∧ Rise n.l ∧ ∀ c, c ∈ n.l → ShL c
  | d + 1, n => n.leaf = false ∧ n.l ≠ [] ∧ BrG (Good d) n.l
/-- A branch of which one kid was changed. -/
structure Pre (d : Nat) (A : List C) (c : C) (B : List C) : Prop where
  k0 : keyOf (A ++ c :: B) = noS
  pw : (A ++ c :: B).Pairwise RC
  ahead : ∀ x, x ∈ A → CellG (Good d) Fits x
  behind : ∀ x, x ∈ B → CellG (Good d) Fits x
  own : CellG (Good d) (fun k => (sizesN k).sum ≤ 167) c

theorem good_leaf {d : Nat} {n : N} (h : Good d n) : n.leaf = decide (d = 0) := by
  cases d with
  | zero => exact h.1
  | succ d => exact h.1
theorem good_nd : ∀ {d : Nat} {n : N}, Good d n → Nd d n
  | 0, n, h => ⟨h.1, fun c hc => by obtain ⟨h1, h2, h3, h4, h5, h6⟩ := h.2.2 c hc; exact ⟨⟨h2, h3, h5⟩, h6⟩⟩
  | d + 1, n, h => ⟨h.1, h.2.1, fun c hc => by
      obtain ⟨⟨h1, h2, h3⟩, h4, k, h5, h6, h7⟩ := h.2.2.cell c hc
      exact ⟨⟨h1, by rw [h2, noS_size]; omega, by rw [h3]; exact Nat.le_refl _⟩, k, h5, good_nd h6⟩⟩
theorem size_br (c : C) : sizeC false c = 4 + c.key.size := rfl
theorem size_leaf {c : C} (h : c.key.size ≤ 16 ∧ c.data.size ≤ 400) : 0 ≤ sizeC true c ∧ sizeC true c ≤ 35 := by
  unfold sizeC need
  simp only [if_true]
  split
  · split <;> omega
  · split <;> omega
theorem sizes_mk (p : Int) (b : Bool) (l : List C) : sizesN (.mk p b l) = l.map (sizeC b) := rfl
theorem good_sizes : ∀ {d : Nat} {n : N}, Good d n → ∀ x, x ∈ sizesN n → 0 ≤ x ∧ x ≤ (if d = 0 then 35 else 20)
  | 0, n, h, x, hx => by
    unfold sizesN at hx
    obtain ⟨c, hc, rfl⟩ := List.mem_map.1 hx
    obtain ⟨h1, h2, h3, _⟩ := h.2.2 c hc
    rw [h.1]
    exact size_leaf ⟨h2, h3⟩
  | d + 1, n, h, x, hx => by
    unfold sizesN at hx
    obtain ⟨c, hc, rfl⟩ := List.mem_map.1 hx
    have := (h.2.2.cell c hc).1.1
    rw [h.1, size_br, if_neg (by omega)]
    omega
theorem fits_ne {n : N} (h : Fits n) : n.l ≠ [] := by
  intro e
  have := h.1
  unfold sizesN at this
  rw [e] at this
  simp at this
theorem good_ne : ∀ {d : Nat} {n : N}, Good d n → n.l ≠ [] → enN n ≠ []
  | 0, n, h, hn => by rw [en_leaf h.1]; exact hn
  | d + 1, n, h, hn => by
    obtain ⟨c, l, hl⟩ : ∃ c l, n.l = c :: l := by cases hx : n.l with | nil => exact absurd hx hn | cons c l => exact ⟨c, l, rfl⟩
    obtain ⟨_, _, k, h5, h6, h7⟩ := h.2.2.cell c (by rw [hl]; exact List.mem_cons_self)
    have := good_ne h6 (fits_ne h7)
    rw [enN_eq, h.1, hl, List.flatMap_cons, enC_br h5]
    intro e
    exact this (List.append_eq_nil_iff.1 e).1
theorem cell_ne {d : Nat} {c : C} (h : CellG (Good d) Fits c) : ∃ x, x ∈ enC false c := by
  obtain ⟨_, _, k, h5, h6, h7⟩ := h
  rw [enC_br h5]
  exact List.exists_mem_of_ne_nil _ (good_ne h6 (fits_ne h7))
theorem setKey_app (key : ByteArray) {a : C} (l : List C) : setKey key (a :: l) = .mk key a.data a.pages a.kid :: l := rfl
theorem enC_setKey (key : ByteArray) (c : C) : enC false (.mk key c.data c.pages c.kid) = enC false c := by cases c; simp [enC, C.kid]
theorem flat_setKey (key : ByteArray) (l : List C) : (setKey key l).flatMap (enC false) = l.flatMap (enC false) := by
  cases l with
  | nil => rfl
  | cons a l => rw [setKey_app, List.flatMap_cons, List.flatMap_cons, enC_setKey]
/-- A branch's first cell has another key. -/
theorem rise_of {G : N → Prop} {l : List C} (h1 : l.Pairwise RC) (h2 : ∀ c, c ∈ l → Rise (enC false c) ∧ ∀ x, x ∈ enC false c → leS c.key x.key = true) : Rise (l.flatMap (enC false)) := by
  unfold Rise
  induction l with
  | nil => exact List.Pairwise.nil
  | cons c l ih =>
    rw [List.pairwise_cons] at h1
    rw [List.flatMap_cons, List.pairwise_append]
    refine ⟨(h2 c List.mem_cons_self).1, ih h1.2 fun x hx => h2 x (List.mem_cons_of_mem _ hx), fun x hx y hy => ?_⟩
    obtain ⟨c', hc', hy⟩ := List.mem_flatMap.1 hy
    exact ltS_leS ((h1.1 c' hc').2 x hx) ((h2 c' (List.mem_cons_of_mem _ hc')).2 y hy)
theorem good_rise : ∀ {d : Nat} {n : N}, Good d n → Rise (enN n)
  | 0, n, h => by rw [en_leaf h.1]; exact h.2.1
  | d + 1, n, h => by
    rw [enN_eq, h.1]
    refine rise_of (G := Good d) h.2.2.pw fun c hc => ?_
    obtain ⟨_, h4, k, h5, h6, h7⟩ := h.2.2.cell c hc
    exact ⟨by rw [enC_br h5]; exact good_rise h6, h4⟩
theorem good_sh : ∀ {d : Nat} {n : N}, Good d n → ∀ x, x ∈ enN n → ShL x
  | 0, n, h, x, hx => by rw [en_leaf h.1] at hx; exact h.2.2 x hx
  | d + 1, n, h, x, hx => by
    rw [enN_eq, h.1] at hx
    obtain ⟨c, hc, hx⟩ := List.mem_flatMap.1 hx
    obtain ⟨_, h4, k, h5, h6, h7⟩ := h.2.2.cell c hc
    rw [enC_br h5] at hx
    exact good_sh h6 x hx
theorem pw_app {l m : List C} {R : C → C → Prop} : (l ++ m).Pairwise R ↔ l.Pairwise R ∧ m.Pairwise R ∧ ∀ a, a ∈ l → ∀ b, b ∈ m → R a b := List.pairwise_append
theorem withC_app (A : List C) (c : C) (B m : List C) : withC (A ++ c :: B) A.length m = A ++ m ++ B := by
  unfold withC
  rw [List.take_left', List.append_assoc, List.append_assoc, show A.length + 1 = (A ++ [c]).length by simp, show A ++ c :: B = (A ++ [c]) ++ B by simp, List.drop_left']
  · rfl
  · rfl
theorem keyOf_app {A B B' : List C} (h : keyOf B = keyOf B') (hB : B ≠ []) (hB' : B' ≠ []) : keyOf (A ++ B) = keyOf (A ++ B') := by
  cases A with
  | nil => exact h
  | cons a A => rfl
/-- One cell is replaced by some others. -/
theorem br_repl {d : Nat} {A B m : List C} {c : C} (h : Pre d A c B) (hm : m ≠ []) (h0 : keyOf m = c.key) (hp : m.Pairwise RC) (hcell : ∀ x, x ∈ m → CellG (Good d) Fits x) (hle : ∀ x, x ∈ m → leS c.key x.key = true)
    (hU : ∀ b, b ∈ B → ∀ x, x ∈ m → RC x b) : BrG (Good d) (A ++ m ++ B) := by
  obtain ⟨p1, p2, p3⟩ := pw_app.1 h.pw
  rw [List.pairwise_cons] at p2
  refine ⟨?_, ?_, ?_⟩
  · rw [← h.k0, List.append_assoc]
    refine keyOf_app ?_ (by simp [hm]) (by simp)
    cases m with
    | nil => exact absurd rfl hm
    | cons x m => exact h0
  · rw [List.append_assoc, pw_app, pw_app]
    refine ⟨p1, ⟨hp, p2.2, fun x hx b hb => hU b hb x hx⟩, fun a ha x hx => ?_⟩
    rcases List.mem_append.1 hx with hx | hx
    · have := p3 a ha c List.mem_cons_self
      exact ⟨ltS_leS this.1 (hle x hx), fun y hy => ltS_leS (this.2 y hy) (hle x hx)⟩
    · exact p3 a ha x (List.mem_cons_of_mem _ hx)
  · intro x hx
    rcases List.mem_append.1 hx with hx | hx
    · rcases List.mem_append.1 hx with hx | hx
      · exact h.ahead x hx
      · exact hcell x hx
    · exact h.behind x hx
theorem sizes_take (n : N) (i : Nat) : (n.l.take i).map (sizeC n.leaf) = (sizesN n).take i := by unfold sizesN; rw [List.map_take]
theorem sizes_drop (n : N) (i : Nat) : (n.l.drop i).map (sizeC n.leaf) = (sizesN n).drop i := by unfold sizesN; rw [List.map_drop]
/-- A node is parted: both parts, and the key between. -/
theorem part_ok {d : Nat} {n : N} (h : Good d n) (h0 : 122 < (sizesN n).sum) (h1 : (sizesN n).sum ≤ 167) {i : Nat} (hi : i = atR (sizesN n)) {r : List C} (hr : r = n.l.drop i) :
    i ≠ 0 ∧ Good d (.mk 0 n.leaf (n.l.take i)) ∧ Fits (.mk 0 n.leaf (n.l.take i)) ∧ Good d (.mk 0 n.leaf (if n.leaf then r else setKey noS r)) ∧ Fits (.mk 0 n.leaf (if n.leaf then r else setKey noS r)) ∧
    enN (.mk 0 n.leaf (n.l.take i)) ++ enN (.mk 0 n.leaf (if n.leaf then r else setKey noS r)) = enN n ∧ (keyOf r).size ≤ 16 ∧ (∀ x, x ∈ enN (.mk 0 n.leaf (n.l.take i)) → ltS x.key (keyOf r) = true) ∧
    (∀ x, x ∈ enN (.mk 0 n.leaf (if n.leaf then r else setKey noS r)) → leS (keyOf r) x.key = true) ∧ (∃ y, y ∈ enN n ∧ leS (keyOf r) y.key = true) := by
  have hs := good_sizes h
  have hm : ∀ x, x ∈ sizesN n → 0 ≤ x ∧ x ≤ 35 := fun x hx => by have := hs x hx; split at this <;> omega
  obtain ⟨a1, a2, a3, a4⟩ := atR_parts (m := if d = 0 then 35 else 20) hs h0 (by split <;> omega) (by split <;> omega)
  have asum := sum_take_drop (sizesN n) (atR (sizesN n))
  rw [← hi] at a1 a2 a3 a4 asum
  have hlen : (sizesN n).length = n.l.length := by unfold sizesN; rw [List.length_map]
  obtain ⟨c, r', hc⟩ : ∃ c r', r = c :: r' := by
    cases hx : r with
    | nil => have := congrArg List.length (hr.symm.trans hx); rw [List.length_drop] at this; simp at this; omega
    | cons c r' => exact ⟨c, r', rfl⟩
  have happ : n.l.take i ++ (c :: r') = n.l := by rw [← hc, hr, List.take_append_drop]
  have hcm : c ∈ n.l := by rw [← happ]; simp
  have htk : n.l.take i ≠ [] := fun e => by have := congrArg List.length e; rw [List.length_take, List.length_nil] at this; omega
  have st := congrArg List.sum (sizes_take n i)
  have sd := congrArg List.sum (sizes_drop n i)
  rw [← hr] at sd
  cases d with
  | zero =>
    have hlf := h.1
    rw [hlf] at st sd ⊢
    simp only [if_true] at *
    have hrise := h.2.1
    unfold Rise at hrise
    rw [← happ, pw_app] at hrise
    obtain ⟨q1, q2, q3⟩ := hrise
    rw [hc]
    refine ⟨by omega, ⟨rfl, q1, fun x hx => h.2.2 x (List.mem_of_mem_take hx)⟩, ⟨?_, ?_⟩, ⟨rfl, q2, fun x hx => h.2.2 x (by rw [← happ]; exact List.mem_append_right _ hx)⟩, ⟨?_, ?_⟩, ?_, (h.2.2 c hcm).2.1, ?_, ?_, c, by rw [en_leaf hlf]; exact hcm, leS_refl _⟩
    · rw [sizes_mk, st]; omega
    · rw [sizes_mk, st]; omega
    · rw [sizes_mk, ← hc, sd]; omega
    · rw [sizes_mk, ← hc, sd]; omega
    · rw [enN_mk, enN_mk, flat_leaf, flat_leaf, en_leaf hlf, happ]
    · intro x hx
      rw [enN_mk, flat_leaf] at hx
      exact q3 x hx c List.mem_cons_self
    · intro x hx
      rw [enN_mk, flat_leaf] at hx
      rcases List.mem_cons.1 hx with rfl | hx
      · exact leS_refl _
      · rw [List.pairwise_cons] at q2
        exact ltS_le (q2.1 x hx)
  | succ d =>
    have hlf := h.1
    have hB := h.2.2
    rw [hlf] at st sd ⊢
    simp only [Bool.false_eq_true, if_false, show ¬ (d + 1 = 0) by omega] at *
    have hpw := hB.pw
    rw [← happ, pw_app] at hpw
    obtain ⟨q1, q2, q3⟩ := hpw
    rw [List.pairwise_cons] at q2
    have hcG := hB.cell c hcm
    obtain ⟨x0, hx0⟩ := cell_ne hcG
    have hk : ∀ x, x ∈ (c :: r').flatMap (enC false) → leS c.key x.key = true := fun x hx => by
      obtain ⟨c', hc', hx2⟩ := List.mem_flatMap.1 hx
      rcases List.mem_cons.1 hc' with e | hc'
      · rw [e] at hx2; exact hcG.2.1 x hx2
      · exact ltS_le (ltS_leS (q2.1 c' hc').1 ((hB.cell c' (by rw [← happ]; simp [hc'])).2.1 x hx2))
    rw [hc]
    have hsz := hcG.1.1
    have e1 : ((setKey noS (c :: r')).map (sizeC false)).sum = ((c :: r').map (sizeC false)).sum - c.key.size := by
      rw [setKey_app, List.map_cons, List.sum_cons, List.map_cons, List.sum_cons, size_br, size_br, C.key_mk, noS_size]; omega
    have en : (n.l.take i).flatMap (enC false) ++ (c :: r').flatMap (enC false) = enN n := by rw [enN_eq, hlf, ← List.flatMap_append, happ]
    refine ⟨by omega, ⟨rfl, htk, ⟨?_, q1, fun x hx => hB.cell x (List.mem_of_mem_take hx)⟩⟩, ⟨?_, ?_⟩, ⟨rfl, by simp [setKey, N.l], ⟨rfl, ?_, ?_⟩⟩, ⟨?_, ?_⟩, ?_, hsz, ?_, ?_, ?_⟩
    · rw [← hB.k0]
      show keyOf (n.l.take i) = keyOf n.l
      obtain ⟨a, t, ht⟩ : ∃ a t, n.l.take i = a :: t := by cases hx : n.l.take i with | nil => exact absurd hx htk | cons a t => exact ⟨a, t, rfl⟩
      rw [ht] at happ ⊢
      rw [← happ]; rfl
    · rw [sizes_mk, st]; omega
    · rw [sizes_mk, st]; omega
    · show (setKey noS (c :: r')).Pairwise RC
      rw [setKey_app, List.pairwise_cons]
      refine ⟨fun b hb => ⟨leS_lt (noS_le _) (q2.1 b hb).1, fun x hx => ?_⟩, q2.2⟩
      rw [enC_setKey] at hx
      exact (q2.1 b hb).2 x hx
    · intro x hx
      rcases List.mem_cons.1 hx with rfl | hx
      · obtain ⟨⟨w1, w2, w3⟩, w4, w5⟩ := hcG
        exact ⟨⟨by show noS.size ≤ 16; rw [noS_size]; omega, w2, w3⟩, fun y _ => noS_le _, w5⟩
      · exact hB.cell x (by rw [← happ]; simp [hx])
    · rw [sizes_mk, e1, ← hc, sd]; omega
    · rw [sizes_mk, e1, ← hc, sd]; omega
    · rw [enN_mk, enN_mk, flat_setKey, en]
    · intro x hx
      rw [enN_mk] at hx
      obtain ⟨c', hc', hx⟩ := List.mem_flatMap.1 hx
      exact (q3 c' hc' c List.mem_cons_self).2 x hx
    · intro x hx
      rw [enN_mk, flat_setKey] at hx
      exact hk x hx
    · exact ⟨x0, by rw [← en]; exact List.mem_append_right _ (List.mem_flatMap.2 ⟨c, List.mem_cons_self, hx0⟩), hcG.2.1 x0 hx0⟩
/-- A kid is parted, if need be. -/
theorem parted_ok {d : Nat} {p : Int} {A B : List C} {c : C} {kid : N} (h : Pre d A c B) (hk : c.kid = [kid]) {m : N × Bool} (hm : m = partedN (.mk p false (A ++ c :: B)) kid A.length c.key) :
    (m.2 = false ∧ m.1 = .mk p false (A ++ c :: B) ∧ (sizesN kid).sum ≤ 122) ∨ (m.2 = true ∧ m.1.leaf = false ∧ m.1.l.length = A.length + B.length + 2 ∧ BrG (Good d) m.1.l ∧ enN m.1 = (A ++ c :: B).flatMap (enC false) ∧ m.1.page = 0 ∧ (sizesN m.1).sum ≤ ((A ++ c :: B).map (sizeC false)).sum + 20) := by
  obtain ⟨o1, o2, kid', o3, o4, o5⟩ := h.own
  rw [hk] at o3; cases o3
  rw [enC_br hk] at o2
  have hs := good_sizes o4
  rcases Int.lt_or_le 122 (sizesN kid).sum with h0 | h0
  · refine .inr ?_
    obtain ⟨i, hi⟩ : ∃ i, i = atR (sizesN kid) := ⟨_, rfl⟩
    obtain ⟨r, hr⟩ : ∃ r, r = kid.l.drop i := ⟨_, rfl⟩
    obtain ⟨q0, q1, q2, q3, q4, q5, q6, q7, q8, y, q9, q10⟩ := part_ok o4 h0 o5 hi hr
    unfold partedN at hm
    simp only [← hi, if_neg q0, ← hr] at hm
    rw [hm]
    generalize hX : (N.mk 0 kid.leaf (List.take i kid.l)) = X at *
    generalize hY : (N.mk 0 kid.leaf (if kid.leaf = true then r else setKey noS r)) = Y at *
    simp only [N.l_mk, N.leaf_mk, N.page_mk, withC_app]
    have hne : enN X ≠ [] := good_ne q1 (fits_ne q2)
    obtain ⟨x0, hx0⟩ := List.exists_mem_of_ne_nil _ hne
    have hX' : ∀ x, x ∈ enN X → x ∈ enN kid := fun x hx => by rw [← q5]; exact List.mem_append_left _ hx
    have hY' : ∀ x, x ∈ enN Y → x ∈ enN kid := fun x hx => by rw [← q5]; exact List.mem_append_right _ hx
    obtain ⟨p1, p2, p3⟩ := pw_app.1 h.pw
    rw [List.pairwise_cons] at p2
    refine ⟨trivial, trivial, by simp; omega, ?_, ?_, trivial, ?_⟩
    · have hck : ltS c.key (keyOf r) = true := leS_lt (o2 x0 (hX' x0 hx0)) (q7 x0 hx0)
      refine br_repl h (by simp) rfl ?_ ?_ ?_ ?_
      · rw [List.pairwise_cons]
        refine ⟨fun b hb => ?_, List.pairwise_singleton _ _⟩
        rw [List.mem_singleton] at hb; subst hb
        refine ⟨hck, fun x hx => ?_⟩
        rw [enC_cell] at hx
        exact q7 x hx
      · intro x hx
        rcases List.mem_cons.1 hx with rfl | hx
        · exact ⟨⟨o1.1, rfl, rfl⟩, fun x hx => by rw [enC_cell] at hx; exact o2 x (hX' x hx), X, rfl, q1, q2⟩
        · rw [List.mem_singleton] at hx; subst hx
          exact ⟨⟨q6, rfl, rfl⟩, fun x hx => by rw [enC_cell] at hx; exact q8 x hx, Y, rfl, q3, q4⟩
      · intro x hx
        rcases List.mem_cons.1 hx with rfl | hx
        · exact leS_refl _
        · rw [List.mem_singleton] at hx; subst hx
          exact ltS_le hck
      · intro b hb x hx
        have hcb := p2.1 b hb
        rw [RC, enC_br hk] at hcb
        rcases List.mem_cons.1 hx with rfl | hx
        · exact ⟨hcb.1, fun x hx => by rw [enC_cell] at hx; exact hcb.2 x (hX' x hx)⟩
        · rw [List.mem_singleton] at hx; subst hx
          exact ⟨leS_lt q10 (hcb.2 y q9), fun x hx => by rw [enC_cell] at hx; exact hcb.2 x (hY' x hx)⟩
    · rw [enN_mk, List.flatMap_append, List.flatMap_append, List.flatMap_append, List.flatMap_cons, List.flatMap_cons, List.flatMap_cons, List.flatMap_nil, enC_cell, enC_cell, enC_br hk, ← q5]
      simp
    · rw [sizes_mk]
      simp only [List.map_append, List.map_cons, List.map_nil, List.sum_append, List.sum_cons, List.sum_nil, size_br, cellN, C.key_mk]
      omega
  · refine .inl ?_
    unfold partedN at hm
    simp only [atR_zero h0, if_true] at hm
    rw [hm]
    exact ⟨rfl, rfl, h0⟩
end Go.Proofs.Ytkibkahknibgfaa

namespace Go.Proofs.Ytkibkahknibgfaa
open Aml Go
set_option linter.unusedVariables false
set_option linter.unusedSimpArgs false
set_option maxRecDepth 100000

theorem pre_good {d : Nat} {A B : List C} {c : C} {kid : N} (h : Pre d A c B) (hk : c.kid = [kid]) (h0 : 30 ≤ (sizesN kid).sum) (h1 : (sizesN kid).sum ≤ 122) : BrG (Good d) (A ++ c :: B) := by
  refine ⟨h.k0, h.pw, fun x hx => ?_⟩
  rcases List.mem_append.1 hx with hx | hx
  · exact h.ahead x hx
  · rcases List.mem_cons.1 hx with rfl | hx
    · obtain ⟨o1, o2, k, o3, o4, o5⟩ := h.own
      rw [hk] at o3; cases o3
      exact ⟨o1, o2, kid, hk, o4, h0, h1⟩
    · exact h.behind x hx
/-- Two neighbours put together. -/
theorem both_ok {d : Nat} {kx ky : N} {key : ByteArray} (hx : Good d kx) (hy : Good d ky) (h1 : ∀ e, e ∈ enN kx → ltS e.key key = true) (h2 : ∀ e, e ∈ enN ky → leS key e.key = true) (hs : key.size ≤ 16) :
    Good d (bothN kx ky key) ∧ enN (bothN kx ky key) = enN kx ++ enN ky ∧ (sizesN kx).sum + (sizesN ky).sum ≤ (sizesN (bothN kx ky key)).sum ∧ (sizesN (bothN kx ky key)).sum ≤ (sizesN kx).sum + (sizesN ky).sum + 16 := by
  cases d with
  | zero =>
    have e : bothN kx ky key = .mk 0 true (kx.l ++ ky.l) := by unfold bothN; rw [hy.1, hx.1, if_pos rfl]
    rw [e, enN_mk, flat_leaf, en_leaf hx.1, en_leaf hy.1, sizes_mk]
    rw [en_leaf hx.1] at h1
    rw [en_leaf hy.1] at h2
    have e1 : sizesN kx = kx.l.map (sizeC true) := by unfold sizesN; rw [hx.1]
    have e2 : sizesN ky = ky.l.map (sizeC true) := by unfold sizesN; rw [hy.1]
    refine ⟨⟨rfl, pw_app.2 ⟨hx.2.1, hy.2.1, fun a ha b hb => ltS_leS (h1 a ha) (h2 b hb)⟩, fun c hc => ?_⟩, rfl, ?_, ?_⟩
    · rcases List.mem_append.1 hc with hc | hc
      · exact hx.2.2 c hc
      · exact hy.2.2 c hc
    · rw [List.map_append, List.sum_append, e1, e2]; omega
    · rw [List.map_append, List.sum_append, e1, e2]; omega
  | succ d =>
    have e : bothN kx ky key = .mk 0 false (kx.l ++ setKey key ky.l) := by unfold bothN; rw [hy.1, hx.1, if_neg (by simp)]
    rw [e, enN_mk, enN_eq kx, enN_eq ky, hx.1, hy.1, sizes_mk, List.flatMap_append, flat_setKey]
    rw [enN_eq, hx.1] at h1
    rw [enN_eq, hy.1] at h2
    have e1 : sizesN kx = kx.l.map (sizeC false) := by unfold sizesN; rw [hx.1]
    have e2 : sizesN ky = ky.l.map (sizeC false) := by unfold sizesN; rw [hy.1]
    have hX := hx.2.2
    have hY := hy.2.2
    obtain ⟨c0, r, hr⟩ : ∃ c0 r, ky.l = c0 :: r := by cases hq : ky.l with | nil => exact absurd hq hy.2.1 | cons a t => exact ⟨a, t, rfl⟩
    have hc0 := hY.cell c0 (by rw [hr]; exact List.mem_cons_self)
    have hp := hY.pw
    have hk0 := hY.k0
    rw [hr, List.pairwise_cons] at hp
    rw [hr] at h2 e2 hk0
    have hk0 : c0.key = noS := hk0
    rw [hr, setKey_app]
    obtain ⟨x0, hx0⟩ := cell_ne hc0
    have hl0 := h2 x0 (List.mem_flatMap.2 ⟨c0, List.mem_cons_self, hx0⟩)
    have hkb : ∀ b, b ∈ r → ltS key b.key = true := fun b hb => leS_lt hl0 ((hp.1 b hb).2 x0 hx0)
    have hle : ∀ b, b ∈ C.mk key c0.data c0.pages c0.kid :: r → leS key b.key = true := fun b hb => by
      rcases List.mem_cons.1 hb with rfl | hb
      · exact leS_refl _
      · exact ltS_le (hkb b hb)
    refine ⟨⟨rfl, by simp [N.l], ?_, ?_, ?_⟩, rfl, ?_, ?_⟩
    · show keyOf (kx.l ++ _) = noS
      rw [← hX.k0]
      cases hq : kx.l with
      | nil => exact absurd hq hx.2.1
      | cons a t => rfl
    · refine pw_app.2 ⟨hX.pw, List.pairwise_cons.2 ⟨fun b hb => ⟨hkb b hb, fun x hx => ?_⟩, hp.2⟩, fun a ha b hb => ?_⟩
      · rw [enC_setKey] at hx
        exact (hp.1 b hb).2 x hx
      · obtain ⟨xa, hxa⟩ := cell_ne (hX.cell a ha)
        have h3 : ∀ x, x ∈ enC false a → ltS x.key key = true := fun x hx => h1 x (List.mem_flatMap.2 ⟨a, ha, hx⟩)
        exact ⟨ltS_leS (leS_lt ((hX.cell a ha).2.1 xa hxa) (h3 xa hxa)) (hle b hb), fun x hx => ltS_leS (h3 x hx) (hle b hb)⟩
    · intro c hc
      rcases List.mem_append.1 hc with hc | hc
      · exact hX.cell c hc
      · rcases List.mem_cons.1 hc with rfl | hc
        · obtain ⟨⟨w1, w2, w3⟩, w4, w5⟩ := hc0
          refine ⟨⟨hs, w2, w3⟩, fun y hy => ?_, w5⟩
          rw [enC_setKey] at hy
          exact h2 y (List.mem_flatMap.2 ⟨c0, List.mem_cons_self, hy⟩)
        · exact hY.cell c (by rw [hr]; exact List.mem_cons_of_mem _ hc)
    · rw [List.map_append, List.sum_append, e1, e2, List.map_cons, List.sum_cons, List.map_cons, List.sum_cons, size_br, size_br, C.key_mk, hk0, noS_size]; omega
    · rw [List.map_append, List.sum_append, e1, e2, List.map_cons, List.sum_cons, List.map_cons, List.sum_cons, size_br, size_br, C.key_mk, hk0, noS_size]; omega
theorem cellAt_app (A : List C) (c : C) (B : List C) : cellAt (A ++ c :: B) A.length = c := cellAt_eq (by simp)
/-- A cell and the next one become one. -/
theorem pre_both {d : Nat} {A B : List C} {x y : C} {kx ky : N} (hk0 : keyOf (A ++ x :: y :: B) = noS) (hpw : (A ++ x :: y :: B).Pairwise RC) (hA : ∀ c, c ∈ A → CellG (Good d) Fits c) (hB : ∀ c, c ∈ B → CellG (Good d) Fits c)
    (hx : CellG (Good d) (fun _ => True) x) (hy : CellG (Good d) (fun _ => True) y) (ex : x.kid = [kx]) (ey : y.kid = [ky]) (hsum : (sizesN kx).sum + (sizesN ky).sum ≤ 151) :
    Pre d A (cellN x.key (bothN kx ky y.key)) B ∧ (A ++ cellN x.key (bothN kx ky y.key) :: B).flatMap (enC false) = (A ++ x :: y :: B).flatMap (enC false) ∧ (sizesN kx).sum + (sizesN ky).sum ≤ (sizesN (bothN kx ky y.key)).sum := by
  obtain ⟨x1, x2, kx', x3, x4, _⟩ := hx
  rw [ex] at x3; cases x3
  obtain ⟨y1, y2, ky', y3, y4, _⟩ := hy
  rw [ey] at y3; cases y3
  rw [enC_br ex] at x2
  rw [enC_br ey] at y2
  obtain ⟨p1, p2, p3⟩ := pw_app.1 hpw
  rw [List.pairwise_cons, List.pairwise_cons] at p2
  obtain ⟨p2, p4, p5⟩ := p2
  have hxy := p2 y List.mem_cons_self
  rw [RC, enC_br ex] at hxy
  obtain ⟨b1, b2, b3, b4⟩ := both_ok x4 y4 hxy.2 y2 y1.1
  refine ⟨⟨?_, ?_, hA, hB, ⟨⟨x1.1, rfl, rfl⟩, fun e he => ?_, _, rfl, b1, by omega⟩⟩, ?_, b3⟩
  · rw [← hk0]; exact keyOf_app rfl (by simp) (by simp)
  · refine pw_app.2 ⟨p1, List.pairwise_cons.2 ⟨fun b hb => ⟨(p2 b (List.mem_cons_of_mem _ hb)).1, fun e he => ?_⟩, p5⟩, fun a ha b hb => ?_⟩
    · rw [enC_cell, b2] at he
      rcases List.mem_append.1 he with he | he
      · have := (p2 b (List.mem_cons_of_mem _ hb)).2
        rw [enC_br ex] at this
        exact this e he
      · have := (p4 b hb).2
        rw [enC_br ey] at this
        exact this e he
    · rcases List.mem_cons.1 hb with rfl | hb
      · exact p3 a ha x List.mem_cons_self
      · exact p3 a ha b (List.mem_cons_of_mem _ (List.mem_cons_of_mem _ hb))
  · rw [enC_cell, b2] at he
    rcases List.mem_append.1 he with he | he
    · exact x2 e he
    · exact ltS_le (ltS_leS hxy.1 (y2 e he))
  · rw [List.flatMap_append, List.flatMap_append, List.flatMap_cons, List.flatMap_cons, List.flatMap_cons, enC_cell, b2, enC_br ex, enC_br ey, List.append_assoc]
theorem cellG_any {G F : N → Prop} {c : C} (h : CellG G F c) : CellG G (fun _ => True) c := by
  obtain ⟨h1, h2, k, h3, h4, h5⟩ := h
  exact ⟨h1, h2, k, h3, h4, trivial⟩
/-- What mending makes of a branch. -/
structure Mended (d : Nat) (L : List C) (m : N) : Prop where
  leaf : m.leaf = false
  page : m.page = 0
  ne : m.l ≠ []
  br : BrG (Good d) m.l
  en : enN m = L.flatMap (enC false)
  sum : (sizesN m).sum ≤ (L.map (sizeC false)).sum + 20
theorem mend_ok {d : Nat} {A B : List C} {c : C} (h : Pre d A c B) (hAB : A ≠ [] ∨ B ≠ []) : Mended d (A ++ c :: B) (mendN (.mk 0 false (A ++ c :: B)) A.length) := by
  obtain ⟨o1, o2, kid, hkid, o4, o5⟩ := h.own
  unfold mendN
  simp only [N.l_mk, cellAt_app, kid0_eq hkid]
  generalize hP : partedN (.mk 0 false (A ++ c :: B)) kid A.length c.key = P
  rcases parted_ok h hkid hP.symm with ⟨q1, q2, q3⟩ | ⟨q1, q2, q3, q4, q5, q6, q7⟩
  · rw [q1, if_neg (by simp)]
    split
    · rename_i hlow
      have h30 : 30 ≤ (sizesN kid).sum := by
        rw [Bool.or_eq_true] at hlow
        rcases hlow with hlow | hlow
        · unfold lowR at hlow
          simp at hlow; omega
        · have h2 : (A ++ c :: B).length < 2 := of_decide_eq_true hlow
          rw [List.length_append, List.length_cons] at h2
          rcases hAB with hA | hB
          · have := List.length_pos_iff.2 hA; omega
          · have := List.length_pos_iff.2 hB; omega
      exact ⟨rfl, rfl, by simp [N.l], pre_good h hkid h30 q3, enN_mk _ _ _, by rw [sizes_mk]; omega⟩
    · rename_i hlow
      have h29 : (sizesN kid).sum ≤ 29 := by
        rw [Bool.or_eq_true, not_or] at hlow
        have := hlow.1
        unfold lowR at this
        simp at this; omega
      -- which neighbour
      have fin : ∀ (A' B' : List C) (x y : C) (kx ky : N), A ++ c :: B = A' ++ x :: y :: B' → x.kid = [kx] → y.kid = [ky] → CellG (Good d) (fun _ => True) x → CellG (Good d) (fun _ => True) y → (∀ e, e ∈ A' → CellG (Good d) Fits e) → (∀ e, e ∈ B' → CellG (Good d) Fits e) →
          30 ≤ (sizesN kx).sum + (sizesN ky).sum → (sizesN kx).sum + (sizesN ky).sum ≤ 151 →
          Mended d (A ++ c :: B) (partedN (.mk 0 false (withC (withC (A ++ c :: B) (A'.length + 1) []) A'.length [cellN (cellAt (A ++ c :: B) A'.length).key (bothN (kid0 (cellAt (A ++ c :: B) A'.length)) (kid0 (cellAt (A ++ c :: B) (A'.length + 1))) (cellAt (A ++ c :: B) (A'.length + 1)).key)])) (bothN (kid0 (cellAt (A ++ c :: B) A'.length)) (kid0 (cellAt (A ++ c :: B) (A'.length + 1))) (cellAt (A ++ c :: B) (A'.length + 1)).key) A'.length (cellAt (A ++ c :: B) A'.length).key).1 := by
        intro A' B' x y kx ky he ex ey hx hy hA' hB' s30 s151
        obtain ⟨b1, b2, b3⟩ := pre_both (by rw [← he]; exact h.k0) (by rw [← he]; exact h.pw) hA' hB' hx hy ex ey s151
        have e1 : cellAt (A' ++ x :: y :: B') (A'.length + 1) = y := by
          have := cellAt_app (A' ++ [x]) y B'
          simpa using this
        have e2 : withC (A' ++ x :: y :: B') (A'.length + 1) [] = A' ++ x :: B' := by
          have := withC_app (A' ++ [x]) y B' []
          simpa using this
        rw [he, cellAt_app, e1, e2, kid0_eq ex, kid0_eq ey, withC_app, List.append_assoc, List.singleton_append]
        generalize hQ : partedN (.mk 0 false (A' ++ cellN x.key (bothN kx ky y.key) :: B')) (bothN kx ky y.key) A'.length x.key = Q
        have hsz : ((A' ++ cellN x.key (bothN kx ky y.key) :: B').map (sizeC false)).sum ≤ ((A' ++ x :: y :: B').map (sizeC false)).sum := by
          simp only [List.map_append, List.map_cons, List.sum_append, List.sum_cons, size_br, cellN, C.key_mk]
          omega
        rcases parted_ok (p := 0) b1 (kid := bothN kx ky y.key) rfl hQ.symm with ⟨r1, r2, r3⟩ | ⟨r1, r2, r3, r4, r5, r6, r7⟩
        · rw [r2]
          exact ⟨rfl, rfl, by simp [N.l], pre_good b1 rfl (by omega) r3, by rw [enN_mk, b2], by rw [sizes_mk]; omega⟩
        · exact ⟨r2, r6, by intro e; rw [e] at r3; simp at r3, r4, by rw [r5, b2], by omega⟩
      have fs : ∀ x kx, CellG (Good d) Fits x → x.kid = [kx] → 30 ≤ (sizesN kx).sum ∧ (sizesN kx).sum ≤ 122 := fun x kx hx ex => by
        obtain ⟨_, _, k, h3, _, h5⟩ := hx
        rw [ex] at h3; cases h3; exact h5
      have s0 : 0 ≤ (sizesN kid).sum := sum_pos fun x hx => (good_sizes o4 x hx).1
      cases B with
      | cons b0 B' =>
        have hb0 := h.behind b0 List.mem_cons_self
        obtain ⟨_, _, kb, hkb, _⟩ := id hb0
        have := fs b0 kb hb0 hkb
        have hlt : A.length + 1 < (A ++ c :: b0 :: B').length := by simp
        simp only [hlt, if_true]
        exact fin A B' c b0 kid kb rfl hkid hkb (cellG_any h.own) (cellG_any hb0) h.ahead (fun e he => h.behind e (List.mem_cons_of_mem _ he)) (by omega) (by omega)
      | nil =>
        have hA : A ≠ [] := hAB.resolve_right (by simp)
        obtain ⟨A', a0, rfl⟩ : ∃ A' a0, A = A' ++ [a0] := ⟨A.dropLast, A.getLast hA, (List.dropLast_concat_getLast hA).symm⟩
        have ha0 := h.ahead a0 (by simp)
        obtain ⟨_, _, ka, hka, _⟩ := id ha0
        have := fs a0 ka ha0 hka
        have hnl : ¬ (A' ++ [a0]).length + 1 < (A' ++ [a0] ++ [c]).length := by simp
        simp only [hnl, if_false]
        have hj : (A' ++ [a0]).length - 1 = A'.length := by simp
        rw [hj]
        exact fin A' [] a0 c ka kid (by simp) hka hkid (cellG_any ha0) (cellG_any h.own) (fun e he => h.ahead e (List.mem_append_left _ he)) (fun e he => by cases he) (by omega) (by omega)
  · rw [q1, if_pos rfl]
    exact ⟨q2, q6, by intro e; rw [e] at q3; simp at q3, q4, q5, q7⟩
end Go.Proofs.Ytkibkahknibgfaa

namespace Go.Proofs.Ytkibkahknibgfaa
open Aml Go
set_option linter.unusedVariables false
set_option linter.unusedSimpArgs false
set_option maxRecDepth 100000

def insE (key val : ByteArray) (l : List C) : List C := l.filter (fun c => ltS c.key key) ++ .mk key val [] [] :: l.filter (fun c => ltS key c.key)
def delE (key : ByteArray) (l : List C) : List C := l.filter fun c => !eqS c.key key
theorem flt_all {p : C → Bool} {l : List C} (h : ∀ a, a ∈ l → p a = true) : l.filter p = l := List.filter_eq_self.2 h
theorem flt_no {p : C → Bool} {l : List C} (h : ∀ a, a ∈ l → p a = false) : l.filter p = [] := List.filter_eq_nil_iff.2 fun a ha => by rw [h a ha]; simp
/-- Entries around a key. -/
theorem cut_at (key : ByteArray) : ∀ {l : List C}, Rise l → ∃ A B, l = A ++ B ∧ (∀ a, a ∈ A → ltS a.key key = true) ∧ ∀ b, b ∈ B → ltS b.key key = false
  | [], _ => ⟨[], [], rfl, fun a h => (by cases h), fun a h => (by cases h)⟩
  | c :: l, h => by
    unfold Rise at h
    rw [List.pairwise_cons] at h
    cases hc : ltS c.key key with
    | true =>
      obtain ⟨A, B, rfl, h1, h2⟩ := cut_at key h.2
      exact ⟨c :: A, B, rfl, fun a ha => by
        rcases List.mem_cons.1 ha with rfl | ha
        · exact hc
        · exact h1 a ha, h2⟩
    | false =>
      refine ⟨[], c :: l, rfl, fun a h => (by cases h), fun b hb => ?_⟩
      rcases List.mem_cons.1 hb with rfl | hb
      · exact hc
      · cases hb2 : ltS b.key key with
        | false => rfl
        | true => rw [ltS_trans (h.1 b hb) hb2] at hc; cases hc
theorem idx_app {A B : List C} {key : ByteArray} (h1 : ∀ a, a ∈ A → ltS a.key key = true) (h2 : ∀ b, b ∈ B → ltS b.key key = false) : idxN (A ++ B) key = A.length := by
  unfold idxN
  rw [List.takeWhile_append_of_pos h1]
  cases B with
  | nil => simp
  | cons b B => rw [List.takeWhile_cons, h2 b List.mem_cons_self]; simp
/-- A key is put among a leaf's cells. -/
theorem leafPut_eq {l : List C} (h : Rise l) (key val : ByteArray) : leafPut l key val = insE key val l ∧ ((leafPut l key val).map (sizeC true)).sum ≤ (l.map (sizeC true)).sum + sizeC true (.mk key val [] []) - (if (l.any fun c => eqS c.key key) then ((l.filter fun c => eqS c.key key).map (sizeC true)).sum else 0) := by
  obtain ⟨A, B, rfl, h1, h2⟩ := cut_at key h
  have hA : (A.any fun c => eqS c.key key) = false := List.any_eq_false.2 fun a ha => by
    have := ltS_ne (h1 a ha)
    rw [← eqS_no] at this
    rw [this]; simp
  have hA2 : (A.filter fun c => eqS c.key key) = [] := flt_no fun a ha => by rw [eqS_no]; exact ltS_ne (h1 a ha)
  have hi := idx_app h1 h2
  unfold leafPut insE
  simp only [hi]
  rw [List.filter_append, List.filter_append, flt_all h1, flt_no h2, flt_no (l := A) fun a ha => ltS_asymm (h1 a ha), List.append_nil, List.nil_append, List.any_append, hA, Bool.false_or, List.filter_append, hA2, List.nil_append]
  cases B with
  | nil => simp
  | cons b B =>
    have hb : ∀ b', b' ∈ B → ltS b.key b'.key = true := by
      unfold Rise at h
      rw [pw_app, List.pairwise_cons] at h
      exact h.2.1.1
    have hge := h2 b List.mem_cons_self
    rw [List.getElem?_append_right (Nat.le_refl _), Nat.sub_self, List.getElem?_cons_zero]
    simp only
    by_cases e : b.key = key
    · rw [if_pos (eqS_iff.2 e), withC_app]
      have hB : ∀ b', b' ∈ B → ltS key b'.key = true := fun b' hb' => e ▸ hb b' hb'
      have hB2 : (B.filter fun c => eqS c.key key) = [] := flt_no fun a ha => by rw [eqS_no]; exact (ltS_ne (hB a ha)).symm
      rw [List.filter_cons, e, ltS_irrefl, if_neg (by simp), flt_all hB, List.any_cons, eqS_iff.2 e, Bool.true_or, if_pos rfl, List.filter_cons, if_pos (eqS_iff.2 e), hB2]
      refine ⟨by simp, ?_⟩
      simp only [List.map_append, List.sum_append, List.map_cons, List.map_nil, List.sum_cons, List.sum_nil]
      omega
    · rw [if_neg (by rw [eqS_iff]; exact e)]
      have hlt : ltS key b.key = true := by
        rcases ltS_tri key b.key with h | h | h
        · exact h
        · exact absurd h.symm e
        · rw [hge] at h; cases h
      have hB : ∀ b', b' ∈ b :: B → ltS key b'.key = true := fun b' hb' => by
        rcases List.mem_cons.1 hb' with rfl | hb'
        · exact hlt
        · exact ltS_trans hlt (hb b' hb')
      have hany : ((b :: B).any fun c => eqS c.key key) = false := List.any_eq_false.2 fun a ha => by
        have := (ltS_ne (hB a ha)).symm
        rw [← eqS_no] at this
        rw [this]; simp
      rw [List.take_left', List.drop_left', flt_all hB, hany]
      · refine ⟨by simp, ?_⟩
        simp only [List.map_append, List.sum_append, List.map_cons, List.map_nil, List.sum_cons, List.sum_nil, Bool.false_eq_true, if_false]
        omega
      · rfl
      · rfl
theorem rise_filter {l : List C} (h : Rise l) (p : C → Bool) : Rise (l.filter p) := List.Pairwise.filter p h
theorem rise_ins {l : List C} (h : Rise l) (key val : ByteArray) : Rise (insE key val l) := by
  unfold insE Rise
  rw [pw_app, List.pairwise_cons]
  refine ⟨rise_filter h _, ⟨fun b hb => ?_, rise_filter h _⟩, fun a ha b hb => ?_⟩
  · exact (List.mem_filter.1 hb).2
  · have h1 : ltS a.key key = true := (List.mem_filter.1 ha).2
    rcases List.mem_cons.1 hb with rfl | hb
    · exact h1
    · exact ltS_trans h1 (List.mem_filter.1 hb).2
theorem mem_ins {key val : ByteArray} {l : List C} {x : C} (h : x ∈ insE key val l) : x ∈ l ∨ x = .mk key val [] [] := by
  rcases List.mem_append.1 h with h | h
  · exact .inl (List.mem_filter.1 h).1
  · rcases List.mem_cons.1 h with h | h
    · exact .inr h
    · exact .inl (List.mem_filter.1 h).1
theorem ins_mid {key val : ByteArray} {A B M : List C} (h1 : ∀ a, a ∈ A → ltS a.key key = true) (h2 : ∀ b, b ∈ B → ltS key b.key = true) : insE key val (A ++ M ++ B) = A ++ insE key val M ++ B := by
  unfold insE
  rw [List.filter_append, List.filter_append, List.filter_append, List.filter_append, flt_all h1, flt_no (l := B) fun b hb => ltS_asymm (h2 b hb), flt_no (l := A) fun a ha => ltS_asymm (h1 a ha), flt_all h2]
  simp
theorem del_mid {key : ByteArray} {A B M : List C} (h1 : ∀ a, a ∈ A → ltS a.key key = true) (h2 : ∀ b, b ∈ B → ltS key b.key = true) : delE key (A ++ M ++ B) = A ++ delE key M ++ B := by
  unfold delE
  rw [List.filter_append, List.filter_append, flt_all (l := A) fun a ha => by rw [eqS_no.2 (ltS_ne (h1 a ha))]; rfl, flt_all (l := B) fun b hb => by rw [eqS_no.2 (ltS_ne (h2 b hb)).symm]; rfl]
theorem wayF_spec (l : List C) (key : ByteArray) : ∀ i, i < l.length → (wayF l key i = 0 ∨ ∃ c, l[wayF l key i]? = some c ∧ leS c.key key = true) ∧ ∀ j c, wayF l key i < j → j ≤ i → l[j]? = some c → leS c.key key = false
  | 0, _ => ⟨.inl rfl, fun j c h1 h2 => by simp only [wayF] at h1; omega⟩
  | i + 1, hi => by
    obtain ⟨h1, h2⟩ := wayF_spec l key i (by omega)
    have hx : l[i + 1]? = some l[i + 1] := List.getElem?_eq_getElem hi
    cases hle : leS l[i + 1].key key with
    | true =>
      have e : wayF l key (i + 1) = i + 1 := by simp only [wayF, hx, hle, if_true]
      rw [e]
      exact ⟨.inr ⟨_, hx, hle⟩, fun j c h3 h4 => by omega⟩
    | false =>
      have e : wayF l key (i + 1) = wayF l key i := by simp only [wayF, hx, hle, Bool.false_eq_true, if_false]
      rw [e]
      refine ⟨h1, fun j c h3 h4 hc => ?_⟩
      rcases Nat.lt_or_ge i j with h | h
      · have : j = i + 1 := by omega
        subst this
        rw [hx] at hc; cases hc; exact hle
      · exact h2 j c h3 h hc
/-- The kid that a key goes to. -/
theorem way_split {G : N → Prop} {l : List C} (h : BrG G l) (hn : l ≠ []) (key : ByteArray) : ∃ A c B, l = A ++ c :: B ∧ A.length = way l key ∧ (∀ a, a ∈ A → ∀ x, x ∈ enC false a → ltS x.key key = true) ∧ leS c.key key = true ∧ ∀ b, b ∈ B → ltS key b.key = true := by
  have hpos := List.length_pos_iff.2 hn
  have hw := way_lt hn key
  obtain ⟨h1, h2⟩ := wayF_spec l key (l.length - 1) (by omega)
  have hwd : way l key = wayF l key (l.length - 1) := rfl
  rw [← hwd] at h1 h2
  have hsp : l = l.take (way l key) ++ l[way l key] :: l.drop (way l key + 1) := by
    rw [← List.drop_eq_getElem_cons hw, List.take_append_drop]
  have hle : leS l[way l key].key key = true := by
    rcases h1 with h1 | ⟨c, hc, h1⟩
    · have hk := h.k0
      have : l[way l key].key = noS := by
        rw [← hk]
        cases l with
        | nil => exact absurd rfl hn
        | cons a t => simp [h1, keyOf]
      rw [this]; exact noS_le _
    · rw [List.getElem?_eq_getElem hw] at hc
      cases hc; exact h1
  have hpw := h.pw
  rw [hsp, pw_app] at hpw
  refine ⟨_, _, _, hsp, by rw [List.length_take]; omega, fun a ha x hx => ltS_leS ((hpw.2.2 a ha _ List.mem_cons_self).2 x hx) hle, hle, fun b hb => ?_⟩
  obtain ⟨j, hj⟩ := List.mem_iff_getElem?.1 hb
  rw [List.getElem?_drop] at hj
  exact leS_no.1 (h2 _ b (by omega) (by have := (List.getElem?_eq_some_iff.1 hj).1; omega) hj)
theorem brG_lt {d : Nat} {A B : List C} {c : C} (h : BrG (Good d) (A ++ c :: B)) {key : ByteArray} (hB : ∀ b, b ∈ B → ltS key b.key = true) : ∀ x, x ∈ B.flatMap (enC false) → ltS key x.key = true := fun x hx => by
  obtain ⟨b, hb, hx⟩ := List.mem_flatMap.1 hx
  exact ltS_leS (hB b hb) ((h.cell b (by simp [hb])).2.1 x hx)
theorem fits_two {d : Nat} {k : N} (h : Good d k) (hf : Fits k) : k.leaf = true ∨ 2 ≤ k.l.length := by
  cases d with
  | zero => exact .inl h.1
  | succ d =>
    refine .inr ?_
    have hs := good_sizes h
    rw [if_neg (by omega)] at hs
    have h30 := hf.1
    unfold sizesN at hs h30
    match hl : k.l, hs, h30 with
    | [], _, h30 => simp at h30
    | [c], hs, h30 =>
      have := hs (sizeC k.leaf c) (by simp)
      simp at h30; omega
    | _ :: _ :: _, _, _ => simp
/-- One kid of a branch is another one. -/
theorem pre_kid {d : Nat} {A B : List C} {c : C} {kid : N} (h : BrG (Good d) (A ++ c :: B)) (k' : N) (hg : Good d k') (hs : (sizesN k').sum ≤ 167) (hk : c.kid = [kid]) (hlo : ∀ x, x ∈ enN k' → leS c.key x.key = true) (hup : ∀ x, x ∈ enN k' → ∀ b, b ∈ B → ltS x.key b.key = true) : Pre d A (cellN c.key k') B := by
  obtain ⟨p1, p2, p3⟩ := pw_app.1 h.pw
  rw [List.pairwise_cons] at p2
  refine ⟨?_, pw_app.2 ⟨p1, List.pairwise_cons.2 ⟨fun b hb => ⟨(p2.1 b hb).1, fun x hx => ?_⟩, p2.2⟩, fun a ha b hb => ?_⟩, fun x hx => h.cell x (by simp [hx]), fun x hx => h.cell x (by simp [hx]), ⟨(h.cell c (by simp)).1.1, rfl, rfl⟩, fun x hx => ?_, k', rfl, hg, hs⟩
  · rw [← h.k0]; exact keyOf_app rfl (by simp) (by simp)
  · rw [enC_cell] at hx; exact hup x hx b hb
  · rcases List.mem_cons.1 hb with rfl | hb
    · exact p3 a ha c List.mem_cons_self
    · exact p3 a ha b (List.mem_cons_of_mem _ hb)
  · rw [enC_cell] at hx; exact hlo x hx
theorem Mended.good {d : Nat} {L : List C} {m : N} (h : Mended d L m) : Good (d + 1) m := ⟨h.leaf, h.ne, h.br⟩
theorem sizes_leaf {n : N} (h : n.leaf = true) : sizesN n = n.l.map (sizeC true) := by unfold sizesN; rw [h]
theorem sizes_branch {n : N} (h : n.leaf = false) : sizesN n = n.l.map (sizeC false) := by unfold sizesN; rw [h]
theorem ends_two {A B : List C} {c : C} (h : 2 ≤ (A ++ c :: B).length) : A ≠ [] ∨ B ≠ [] := by
  rcases A with _ | ⟨a, A⟩
  · right; rintro rfl; simp at h
  · exact .inl (by simp)
theorem put_good {key val : ByteArray} (hk0 : key ≠ noS) (hk : key.size ≤ 16) (hv : val.size ≤ 400) : ∀ {d : Nat} {n : N}, Good d n → (sizesN n).sum ≤ 122 → n.leaf = true ∨ 2 ≤ n.l.length → Good d (putN key val n) ∧ (sizesN (putN key val n)).sum ≤ 157 ∧ enN (putN key val n) = insE key val (enN n)
  | 0, n, h, hs, h2 => by
    rw [putN_leaf _ _ _ h.1, en_leaf h.1, enN_mk, flat_leaf, sizes_mk]
    rw [sizes_leaf h.1] at hs
    obtain ⟨e1, e2⟩ := leafPut_eq h.2.1 key val
    have h35 := (size_leaf (c := .mk key val [] []) ⟨hk, hv⟩).2
    refine ⟨⟨rfl, ?_, fun c hc => ?_⟩, ?_, e1⟩
    · show Rise (leafPut n.l key val)
      rw [e1]; exact rise_ins h.2.1 key val
    · rcases leafPut_mem hc with hc | rfl
      · exact h.2.2 c hc
      · exact ⟨hk0, hk, hv, fun e => absurd rfl e, by simp [C.pages], rfl⟩
    · have hpos : 0 ≤ ((n.l.filter fun c => eqS c.key key).map (sizeC true)).sum := sum_pos fun x hx => by
        obtain ⟨c, hc, rfl⟩ := List.mem_map.1 hx
        obtain ⟨_, w2, w3, _⟩ := h.2.2 c (List.mem_filter.1 hc).1
        exact (size_leaf ⟨w2, w3⟩).1
      split at e2 <;> omega
  | d + 1, n, h, hs, h2 => by
    have hB := h.2.2
    have h2 := h2.resolve_left (by rw [h.1]; simp)
    obtain ⟨A, c, B, hl, hw, hA, hc, hBk⟩ := way_split hB h.2.1 key
    have hcl : n.l[way n.l key]? = some c := by rw [← hw]; conv => lhs; rw [hl]
                                                simp
    have hcm : c ∈ n.l := List.mem_of_getElem? hcl
    obtain ⟨o1, o2, kid, hkid, o4, o5⟩ := hB.cell c hcm
    obtain ⟨g1, g2, g3⟩ := put_good hk0 hk hv o4 o5.2 (fits_two o4 o5)
    rw [putN_br _ _ _ h.1 hcl hkid, ← hw]
    rw [sizes_branch h.1] at hs
    have hen : enN n = A.flatMap (enC false) ++ enN kid ++ B.flatMap (enC false) := by rw [enN_eq, h.1, hl, List.flatMap_append, List.flatMap_cons, enC_br hkid, List.append_assoc]
    rw [hl] at hB hs h2 ⊢
    rw [withC_app, List.append_assoc, List.singleton_append]
    rw [enC_br hkid] at o2
    obtain ⟨p1, p2, p3⟩ := pw_app.1 hB.pw
    rw [List.pairwise_cons] at p2
    have hP := pre_kid hB (putN key val kid) g1 (by omega) hkid (fun x hx => by
      rw [g3] at hx
      rcases mem_ins hx with hx | rfl
      · exact o2 x hx
      · exact hc) fun x hx b hb => by
      rw [g3] at hx
      rcases mem_ins hx with hx | rfl
      · exact (p2.1 b hb).2 x (by rw [enC_br hkid]; exact hx)
      · exact hBk b hb
    have hm := mend_ok hP (ends_two h2)
    refine ⟨hm.good, ?_, ?_⟩
    · have := hm.sum
      simp only [List.map_append, List.map_cons, List.sum_append, List.sum_cons, size_br, cellN, C.key_mk] at this hs
      simp only [cellN]
      omega
    · rw [hm.en, hen, ins_mid, List.flatMap_append, List.flatMap_cons, enC_cell, g3, List.append_assoc]
      · intro a ha
        obtain ⟨a', ha', hx⟩ := List.mem_flatMap.1 ha
        exact hA a' ha' a hx
      · exact brG_lt hB hBk
theorem without_good {key : ByteArray} : ∀ {d : Nat} {n : N}, Good d n → (sizesN n).sum ≤ 122 → n.leaf = true ∨ 2 ≤ n.l.length → Good d (withoutN key n) ∧ (sizesN (withoutN key n)).sum ≤ 142 ∧ enN (withoutN key n) = delE key (enN n)
  | 0, n, h, hs, h2 => by
    rw [withoutN_leaf _ _ h.1, en_leaf h.1, enN_mk, flat_leaf, sizes_mk]
    rw [sizes_leaf h.1] at hs
    refine ⟨⟨rfl, rise_filter h.2.1 _, fun c hc => h.2.2 c (List.mem_filter.1 hc).1⟩, ?_, rfl⟩
    have : ∀ l : List C, (∀ c, c ∈ l → ShL c) → ((l.filter fun c => !eqS c.key key).map (sizeC true)).sum ≤ (l.map (sizeC true)).sum := by
      intro l
      induction l with
      | nil => intro _; exact Int.le_refl _
      | cons c l ih =>
        intro hl
        have h1 := ih fun c hc => hl c (List.mem_cons_of_mem _ hc)
        obtain ⟨_, w2, w3, _⟩ := hl c List.mem_cons_self
        have := (size_leaf ⟨w2, w3⟩).1
        rw [List.filter_cons, List.map_cons, List.sum_cons]
        split
        · rw [List.map_cons, List.sum_cons]; omega
        · omega
    have := this n.l h.2.2
    omega
  | d + 1, n, h, hs, h2 => by
    have hB := h.2.2
    have h2 := h2.resolve_left (by rw [h.1]; simp)
    obtain ⟨A, c, B, hl, hw, hA, hc, hBk⟩ := way_split hB h.2.1 key
    have hcl : n.l[way n.l key]? = some c := by rw [← hw]; conv => lhs; rw [hl]
                                                simp
    have hcm : c ∈ n.l := List.mem_of_getElem? hcl
    obtain ⟨o1, o2, kid, hkid, o4, o5⟩ := hB.cell c hcm
    obtain ⟨g1, g2, g3⟩ := without_good (key := key) o4 o5.2 (fits_two o4 o5)
    rw [withoutN_br _ _ h.1 hcl hkid, ← hw]
    rw [sizes_branch h.1] at hs
    have hen : enN n = A.flatMap (enC false) ++ enN kid ++ B.flatMap (enC false) := by rw [enN_eq, h.1, hl, List.flatMap_append, List.flatMap_cons, enC_br hkid, List.append_assoc]
    rw [hl] at hB hs h2 ⊢
    have hset : (A ++ c :: B).set A.length (.mk c.key c.data c.pages [withoutN key kid]) = A ++ cellN c.key (withoutN key kid) :: B := by
      rw [List.set_append_right _ _ (Nat.le_refl _), Nat.sub_self, List.set_cons_zero, o1.2.1, o1.2.2]; rfl
    rw [hset]
    rw [enC_br hkid] at o2
    obtain ⟨p1, p2, p3⟩ := pw_app.1 hB.pw
    rw [List.pairwise_cons] at p2
    have hP := pre_kid hB (withoutN key kid) g1 (by omega) hkid (fun x hx => by
      rw [g3] at hx
      exact o2 x (List.mem_filter.1 hx).1) fun x hx b hb => by
      rw [g3] at hx
      exact (p2.1 b hb).2 x (by rw [enC_br hkid]; exact (List.mem_filter.1 hx).1)
    have hm := mend_ok hP (ends_two h2)
    refine ⟨hm.good, ?_, ?_⟩
    · have := hm.sum
      simp only [List.map_append, List.map_cons, List.sum_append, List.sum_cons, size_br, cellN, C.key_mk] at this hs
      simp only [cellN]
      omega
    · rw [hm.en, hen, del_mid, List.flatMap_append, List.flatMap_cons, enC_cell, g3, List.append_assoc]
      · intro a ha
        obtain ⟨a', ha', hx⟩ := List.mem_flatMap.1 ha
        exact hA a' ha' a hx
      · exact brG_lt hB hBk
/-- A tree that may be. -/
def RootG (n : N) : Prop := ∃ d, Good d n ∧ (sizesN n).sum ≤ 122 ∧ (n.leaf = true ∨ 2 ≤ n.l.length)
theorem top_good : ∀ {d : Nat} {n : N}, Good d n → (sizesN n).sum ≤ 167 → RootG (topN n) ∧ enN (topN n) = enN n := by
  have one : ∀ {d : Nat} {n : N}, Good d n → (sizesN n).sum ≤ 167 → n.leaf = true ∨ n.l.length ≠ 1 → RootG (topN n) ∧ enN (topN n) = enN n := by
    intro d n h hs h1
    rw [topN_else _ h1]
    have hP : Pre d [] (cellN noS n) [] := ⟨rfl, List.pairwise_singleton _ _, fun x hx => (by cases hx), fun x hx => (by cases hx), ⟨by show noS.size ≤ 16; rw [noS_size]; omega, rfl, rfl⟩, fun x hx => noS_le _, n, rfl, h, hs⟩
    rcases parted_ok (p := 0) hP (kid := n) rfl (m := partedN (.mk 0 false [cellN noS n]) n 0 noS) rfl with ⟨q1, q2, q3⟩ | ⟨q1, q2, q3, q4, q5, q6, q7⟩
    · rw [if_pos (atR_zero q3)]
      refine ⟨⟨d, h, q3, ?_⟩, rfl⟩
      rcases h1 with h1 | h1
      · exact .inl h1
      · cases hl : n.leaf with
        | true => exact .inl rfl
        | false =>
          refine .inr ?_
          cases d with
          | zero => have := h.1; rw [hl] at this; cases this
          | succ d => have := List.length_pos_iff.2 h.2.1; omega
    · have hne : atR (sizesN n) ≠ 0 := by
        intro e
        unfold partedN at q1
        simp only [e, if_true] at q1
        cases q1
      rw [if_neg hne]
      have hmd : mendN (.mk 0 false [cellN noS n]) 0 = (partedN (.mk 0 false [cellN noS n]) n 0 noS).1 := by
        have e1 : cellAt [cellN noS n] 0 = cellN noS n := rfl
        have e2 : kid0 (cellN noS n) = n := rfl
        have e3 : (cellN noS n).key = noS := rfl
        unfold mendN
        simp only [N.l_mk, e1, e2, e3]
        rw [if_pos q1]
      rw [hmd]
      have he : enN (partedN (.mk 0 false [cellN noS n]) n 0 noS).1 = enN n := by
        have := q5
        simp only [List.nil_append, List.flatMap_cons, List.flatMap_nil, List.append_nil, enC_cell] at this
        exact this
      have hlen : (partedN (.mk 0 false [cellN noS n]) n 0 noS).1.l.length = 2 := by simpa using q3
      refine ⟨⟨d + 1, ⟨q2, by intro e; rw [e] at hlen; simp at hlen, q4⟩, ?_, .inr (by omega)⟩, he⟩
      have : (sizesN (partedN (.mk 0 false [cellN noS n]) n 0 noS).1).sum ≤ (([] ++ cellN noS n :: []).map (sizeC false)).sum + 20 := q7
      have e4 : (([] ++ cellN noS n :: []).map (sizeC false)).sum = 4 := by
        simp only [List.nil_append, List.map_cons, List.map_nil, List.sum_cons, List.sum_nil, size_br, cellN, C.key_mk, noS_size]; omega
      omega
  intro d
  induction d with
  | zero => intro n h hs; exact one h hs (.inl h.1)
  | succ d ih =>
    intro n h hs
    by_cases h1 : n.l.length = 1
    · obtain ⟨c, hc⟩ := List.length_eq_one_iff.1 h1
      obtain ⟨_, _, k, hk, hg, hf⟩ := h.2.2.cell c (by rw [hc]; exact List.mem_singleton_self c)
      rw [topN_one n h.1 hc hk]
      obtain ⟨i1, i2⟩ := ih hg (by have := hf.2; omega)
      refine ⟨i1, ?_⟩
      rw [i2, enN_eq n, h.1, hc, List.flatMap_cons, List.flatMap_nil, enC_br hk, List.append_nil]
    · exact one h hs (.inr h1)
theorem root_put {key val : ByteArray} (hk0 : key ≠ noS) (hk : key.size ≤ 16) (hv : val.size ≤ 400) {n : N} (h : RootG n) : RootG (Put key val n) ∧ enN (Put key val n) = insE key val (enN n) := by
  obtain ⟨d, h1, h2, h3⟩ := h
  obtain ⟨g1, g2, g3⟩ := put_good hk0 hk hv h1 h2 h3
  obtain ⟨t1, t2⟩ := top_good g1 (by omega)
  exact ⟨t1, t2.trans g3⟩
theorem find_good (key : ByteArray) : ∀ {d : Nat} {n : N}, Good d n → findN key n = ((enN n).find? fun c => eqS c.key key).map C.data
  | 0, n, h => by rw [findN_leaf _ _ h.1, en_leaf h.1]
  | d + 1, n, h => by
    have hB := h.2.2
    obtain ⟨A, c, B, hl, hw, hA, hc, hBk⟩ := way_split hB h.2.1 key
    have hcl : n.l[way n.l key]? = some c := by rw [← hw]; conv => lhs; rw [hl]
                                                simp
    obtain ⟨o1, o2, kid, hkid, o4, o5⟩ := hB.cell c (List.mem_of_getElem? hcl)
    have hen : enN n = A.flatMap (enC false) ++ (enN kid ++ B.flatMap (enC false)) := by rw [enN_eq, h.1, hl, List.flatMap_append, List.flatMap_cons, enC_br hkid]
    rw [findN_br _ _ h.1 hcl hkid, find_good key o4, hen, List.find?_append, List.find?_append]
    rw [hl] at hB
    have f1 : (A.flatMap (enC false)).find? (fun c => eqS c.key key) = none := List.find?_eq_none.2 fun x hx => by
      obtain ⟨a, ha, hx⟩ := List.mem_flatMap.1 hx
      rw [eqS_no.2 (ltS_ne (hA a ha x hx))]; simp
    have f2 : (B.flatMap (enC false)).find? (fun c => eqS c.key key) = none := List.find?_eq_none.2 fun x hx => by
      rw [eqS_no.2 (ltS_ne (brG_lt hB hBk x hx)).symm]; simp
    rw [f1, f2]
    cases (enN kid).find? fun c => eqS c.key key <;> rfl
theorem del_none {key : ByteArray} {l : List C} (h : (l.find? fun c => eqS c.key key) = none) : delE key l = l := flt_all fun a ha => by
  have := List.find?_eq_none.1 h a ha
  simpa using this
theorem root_del (key : ByteArray) {n : N} (h : RootG n) : RootG (Del key n) ∧ enN (Del key n) = delE key (enN n) := by
  obtain ⟨d, h1, h2, h3⟩ := h
  unfold Del
  have hf := find_good key h1
  split
  · obtain ⟨g1, g2, g3⟩ := without_good (key := key) h1 h2 h3
    obtain ⟨t1, t2⟩ := top_good g1 (by omega)
    exact ⟨t1, t2.trans g3⟩
  · rename_i hn
    refine ⟨⟨d, h1, h2, h3⟩, (del_none ?_).symm⟩
    rw [hf] at hn
    cases hx : (enN n).find? fun c => eqS c.key key with
    | none => rfl
    | some c => rw [hx] at hn; simp at hn
end Go.Proofs.Ytkibkahknibgfaa

namespace Go.Proofs.Ytkibkahknibgfaa
open Aml Go
set_option linter.unusedVariables false
set_option linter.unusedSimpArgs false
set_option maxRecDepth 100000

/-- Pages of a value, from one on. -/
def pagesR (from_ : Int) (n : Nat) : List Int := (List.range n).map fun (i : Nat) => from_ + i
def longN (z : Nat) : Nat := if 16 < z then (z + 118) / 119 else 0
mutual
/-- A tree of which all is laid, at pages from one on; the page behind them. -/
def markN : N → Int → N × Int
  | .mk p b l, f =>
    let r := markCs b l f
    if l = [] then (.mk 0 b r.1, r.2) else (.mk r.2 b r.1, r.2 + 1)
def markC (b : Bool) : C → Int → C × Int
  | .mk k d ps kid, f => if b then (.mk k d (if 16 < d.size then pagesR f (longN d.size) else ps) kid, f + longN d.size) else
    let r := markNs kid f
    (.mk k d ps r.1, r.2)
def markCs (b : Bool) : List C → Int → List C × Int
  | [], f => ([], f)
  | c :: l, f =>
    let r := markC b c f
    let q := markCs b l r.2
    (r.1 :: q.1, q.2)
def markNs : List N → Int → List N × Int
  | [], f => ([], f)
  | n :: l, f => ([(markN n f).1], (markN n f).2)
end
theorem markCs_snoc (b : Bool) : ∀ (l : List C) (c : C) (f : Int), markCs b (l ++ [c]) f = ((markCs b l f).1 ++ [(markC b c (markCs b l f).2).1], (markC b c (markCs b l f).2).2)
  | [], c, f => by simp [markCs]
  | a :: l, c, f => by simp only [List.cons_append, markCs, markCs_snoc b l c]
theorem markCs_take {b : Bool} {l : List C} {k : Nat} {c : C} (h : l[k]? = some c) (f : Int) : markCs b (l.take (k + 1)) f = ((markCs b (l.take k) f).1 ++ [(markC b c (markCs b (l.take k) f).2).1], (markC b c (markCs b (l.take k) f).2).2) := by
  rw [List.take_add_one, h, Option.toList_some, markCs_snoc]
theorem markCs_len (b : Bool) : ∀ (l : List C) (f : Int), (markCs b l f).1.length = l.length
  | [], _ => rfl
  | a :: l, f => by simp only [markCs, List.length_cons, markCs_len b l]
theorem markN_eq (n : N) (f : Int) : markN n f = if n.l = [] then (.mk 0 n.leaf (markCs n.leaf n.l f).1, (markCs n.leaf n.l f).2) else (.mk (markCs n.leaf n.l f).2 n.leaf (markCs n.leaf n.l f).1, (markCs n.leaf n.l f).2 + 1) := by
  cases n; simp only [markN, N.leaf, N.l]; rfl
theorem markC_leaf (c : C) (f : Int) : markC true c f = (.mk c.key c.data (if 16 < c.data.size then pagesR f (longN c.data.size) else c.pages) c.kid, f + longN c.data.size) := by
  cases c; simp only [markC, if_true, C.key, C.data, C.pages, C.kid]; rfl
theorem markC_br {c : C} {k : N} (h : c.kid = [k]) (f : Int) : markC false c f = (.mk c.key c.data c.pages [(markN k f).1], (markN k f).2) := by
  cases c with | mk ck cd cp cr =>
  simp only [C.kid] at h; subst h
  simp only [markC, Bool.false_eq_true, if_false, markNs, C.key, C.data, C.pages]
theorem longN_le {z : Nat} (h : z ≤ 400) : longN z ≤ 4 := by unfold longN; split <;> omega
theorem tot_take (l : List C) (k : Nat) : tot (l.take k) ≤ tot l := by have := tot_split l k; omega
theorem tot_succ {l : List C} {k : Nat} {c : C} (h : l[k]? = some c) : tot (l.take (k + 1)) = tot (l.take k) + totC c := by
  rw [List.take_add_one, h, Option.toList_some, tot_app, tot_cons, tot_nil]; omega
theorem markCs_to (b : Bool) : ∀ (l : List C) (f : Int), (∀ c, c ∈ l → ∀ f, f ≤ (markC b c f).2 ∧ (markC b c f).2 + 1 ≤ f + 5 * (totC c : Int)) → f ≤ (markCs b l f).2 ∧ (markCs b l f).2 + l.length ≤ f + 5 * (tot l : Int)
  | [], f, _ => by simp [markCs, tot]
  | c :: l, f, h => by
    have h1 := h c List.mem_cons_self f
    have h2 := markCs_to b l (markC b c f).2 fun c hc => h c (List.mem_cons_of_mem _ hc)
    simp only [markCs, List.length_cons, tot_cons]
    omega
theorem mark_to : ∀ (d : Nat) (n : N) (f : Int), Nd d n → f ≤ (markN n f).2 ∧ (markN n f).2 ≤ f + 5 * (totN n : Int) := by
  have cs : ∀ (b : Bool) (l : List C) (f : Int), (∀ c, c ∈ l → ∀ f, f ≤ (markC b c f).2 ∧ (markC b c f).2 + 1 ≤ f + 5 * (totC c : Int)) → f ≤ (markCs b l f).2 ∧ (markCs b l f).2 + l.length ≤ f + 5 * (tot l : Int) := by
    intro b l
    induction l with
    | nil => intro f _; simp [markCs, tot]
    | cons c l ih =>
      intro f h
      have h1 := h c List.mem_cons_self f
      have h2 := ih (markC b c f).2 fun c hc => h c (List.mem_cons_of_mem _ hc)
      simp only [markCs, List.length_cons, tot_cons]
      omega
  have fin : ∀ (n : N) (f : Int), (∀ c, c ∈ n.l → ∀ f, f ≤ (markC n.leaf c f).2 ∧ (markC n.leaf c f).2 + 1 ≤ f + 5 * (totC c : Int)) → f ≤ (markN n f).2 ∧ (markN n f).2 ≤ f + 5 * (totN n : Int) := fun n f h => by
    have h1 := cs n.leaf n.l f h
    rw [markN_eq, totN_tot]
    split
    · simp only; omega
    · rename_i hne
      have := List.length_pos_iff.2 hne
      simp only; omega
  intro d
  induction d with
  | zero =>
    intro n f hn
    refine fin n f fun c hc f => ?_
    have h1 := hn.2 c hc
    rw [hn.1, markC_leaf, totC_eq, h1.2]
    have := longN_le h1.1.2.1
    simp; omega
  | succ d ih =>
    intro n f hn
    refine fin n f fun c hc f => ?_
    obtain ⟨_, k, hk, hnd⟩ := hn.2.2 c hc
    rw [hn.1, markC_br hk, totC_kid hk]
    have := ih k f hnd
    simp only; omega
theorem pagesR_succ (f : Int) (q : Nat) : pagesR f (q + 1) = pagesR f q ++ [f + q] := by
  unfold pagesR
  rw [List.range_succ, List.map_append]; rfl
theorem pagesR_len (f : Int) (q : Nat) : (pagesR f q).length = q := by unfold pagesR; simp
theorem markTo_leaf {l : List C} (h : ∀ c, c ∈ l → c.data.size ≤ 400) (f : Int) : f ≤ (markCs true l f).2 ∧ (markCs true l f).2 ≤ f + 4 * l.length := by
  induction l generalizing f with
  | nil => simp [markCs]
  | cons c l ih =>
    have := ih (fun c hc => h c (List.mem_cons_of_mem _ hc)) (markC true c f).2
    have h1 := longN_le (h c List.mem_cons_self)
    rw [markC_leaf] at this
    simp only [markCs, List.length_cons]
    rw [markC_leaf]
    simp only at this ⊢
    omega
theorem markN_fin {n : N} {b : Bool} (hb : n.leaf = b) (f : Int) : (eN (markN n f).1, (markN n f).2) = if n.l = [] then (.agg [dI 0, dB b, .sl 4 false ((markCs b n.l f).1.map dC)], (markCs b n.l f).2) else (.agg [dI (markCs b n.l f).2, dB b, .sl 4 false ((markCs b n.l f).1.map dC)], (markCs b n.l f).2 + 1) := by
  rw [markN_eq, hb]
  split <;> rfl
set_option maxHeartbeats 8000000 in
theorem markedW (w0 : W0) : ∀ (d : Nat) (n : N) (f : Int) (S : St), Nd d n → totN n ≤ 131072 → 0 ≤ f → f + 5 * (totN n : Int) ≤ 1099511627776 → ACall Try.prog w0 37 [eN n, dI f] S (fun e S' => e = .tup [eN (markN n f).1, dI (markN n f).2] ∧ S' = S) := by
  intro d
  induction d with
  | zero =>
    intro n f S hn ht hf0 hf1
    have hlf := hn.1
    have hl := tot_len n
    have hfin := markN_fin hlf f
    generalize eN (markN n f).1 = R1 at hfin
    generalize (markN n f).2 = R2 at hfin
    refine fnS [17] mx Try.func37 rfl rfl (by kernel_rfl) ?_; simp (maxDischargeDepth := 12) (maxSteps := 1000000) -implicitDefEqProofs only [Try.ntmps37, go_sem, Nat.reduceAdd, Nat.reduceSub, Nat.reduceMul, Nat.reduceLeDiff, Nat.reduceEqDiff, Nat.reduceGT, Nat.reduceBEq, reduceCtorEq, ↓reduceIte, Int.reduceToNat, Int.reduceLE, Int.reduceLT, Int.reduceNe, Int.reduceEq,  hlf]
    intro b b1 b2
    refine awp_growB b2.n 2 4 (by omega) (q_lk_same _ _ _) rfl fun lb => ?_
    simp (maxDischargeDepth := 12) (maxSteps := 1000000) -implicitDefEqProofs only [go_sem, Nat.reduceAdd, Nat.reduceSub, Nat.reduceMul, Nat.reduceLeDiff, Nat.reduceEqDiff, Nat.reduceGT, Nat.reduceBEq, reduceCtorEq, ↓reduceIte, Int.reduceToNat, Int.reduceLE, Int.reduceLT, Int.reduceNe, Int.reduceEq]
    refine loopN [17] n.l.length [1, 2, 4, 6, 7] (fun k => [(1, dI (markCs true (n.l.take k) f).2), (7, dI k)]) (fun k => ⟨(b2.n, [dI 0, dB true, .acc lb.n k]) :: (b1.n, [dI 0, dB false, .sl 0 true []]) :: (b.n, [dI n.page, dB true, .sl 4 false (n.l.map dC)]) :: S.box, (lb.n, .arr 4 ((markCs true (n.l.take k) f).1.map dC)) :: S.acc⟩) (fun _ => True) mx (by kernel_rfl) ?_ ?_
    · simp (maxDischargeDepth := 12) (maxSteps := 1000000) -implicitDefEqProofs only [go_sem, Nat.reduceAdd, Nat.reduceSub, Nat.reduceMul, Nat.reduceLeDiff, Nat.reduceEqDiff, Nat.reduceGT, Nat.reduceBEq, reduceCtorEq, ↓reduceIte, Int.reduceToNat, Int.reduceLE, Int.reduceLT, Int.reduceNe, Int.reduceEq]
      exact ⟨rfl, .refl _⟩
    · intro k hk' _
      have hml : (markCs true (n.l.take k) f).1.length = k := by rw [markCs_len, List.length_take]; omega
      have hto := markTo_leaf (l := n.l.take k) (fun c hc => (hn.2 c (List.mem_of_mem_take hc)).1.2.1) f
      rw [List.length_take] at hto
      have hm8 : maxLen = 9223372036854775807 := rfl
      simp (maxDischargeDepth := 12) (maxSteps := 1000000) -implicitDefEqProofs only [go_sem, Nat.reduceAdd, Nat.reduceSub, Nat.reduceMul, Nat.reduceLeDiff, Nat.reduceEqDiff, Nat.reduceGT, Nat.reduceBEq, reduceCtorEq, ↓reduceIte, Int.reduceToNat, Int.reduceLE, Int.reduceLT, Int.reduceNe, Int.reduceEq, hml]
      refine ⟨fun hlt => ⟨hlt, fun c hc b3 => ?_⟩, fun hge => ?_⟩
      · have hs := markCs_take (b := true) hc f
        have hcm := List.mem_of_getElem? hc
        have hz := (hn.2 c hcm).1.2.1
        rw [markC_leaf] at hs
        have hs1 := congrArg Prod.fst hs
        have hs2 := congrArg Prod.snd hs
        simp only at hs1 hs2
        rw [hs1, hs2]
        generalize hP : markCs true (n.l.take k) f = Pk at *
        obtain ⟨Lk, fk⟩ := Pk
        simp only at hml hto
        have hk1 : IntKind.i64.wrap ((k : Int) + 1) = ((k + 1 : Nat) : Int) := by rw [w64 (by omega) (by omega)]; omega
        refine ⟨fun hbig => ?_, fun hsm => ?_⟩
        · refine growK 11 1 rfl (by omega) fun lp => ?_
          simp (maxDischargeDepth := 12) (maxSteps := 1000000) -implicitDefEqProofs only [go_sem, Nat.reduceAdd, Nat.reduceSub, Nat.reduceMul, Nat.reduceLeDiff, Nat.reduceEqDiff, Nat.reduceGT, Nat.reduceBEq, reduceCtorEq, ↓reduceIte, Int.reduceToNat, Int.reduceLE, Int.reduceLT, Int.reduceNe, Int.reduceEq]
          refine loopN [17] (longN c.data.size) [1, 2, 4, 6, 7, 8, 11, 12] (fun q => [(1, dI (fk + q)), (11, .acc lp.n q), (12, dI ((119 * q : Nat) : Int))]) (fun q => ⟨(b3.n, [dS c.key, dS c.data, .sl 1 false (c.pages.map dI), .sl 3 false (c.kid.map dN)]) :: (b2.n, [dI 0, dB true, .acc lb.n k]) :: (b1.n, [dI 0, dB false, .sl 0 true []]) :: (b.n, [dI n.page, dB true, .sl 4 false (n.l.map dC)]) :: S.box, (lp.n, .arr 1 ((pagesR fk q).map dI)) :: (lb.n, .arr 4 (Lk.map dC)) :: S.acc⟩) (fun _ => True) mx (by kernel_rfl) ?_ ?_
          · simp (maxDischargeDepth := 12) (maxSteps := 1000000) -implicitDefEqProofs only [go_sem, Nat.reduceAdd, Nat.reduceSub, Nat.reduceMul, Nat.reduceLeDiff, Nat.reduceEqDiff, Nat.reduceGT, Nat.reduceBEq, reduceCtorEq, ↓reduceIte, Int.reduceToNat, Int.reduceLE, Int.reduceLT, Int.reduceNe, Int.reduceEq]
            exact ⟨by omega, .refl _⟩
          · intro q hq _
            have hpl := pagesR_len fk q
            have hQ : longN c.data.size = (c.data.size + 118) / 119 := if_pos (by omega)
            have hQ4 := longN_le hz
            simp (maxDischargeDepth := 12) (maxSteps := 1000000) -implicitDefEqProofs only [go_sem, Nat.reduceAdd, Nat.reduceSub, Nat.reduceMul, Nat.reduceLeDiff, Nat.reduceEqDiff, Nat.reduceGT, Nat.reduceBEq, reduceCtorEq, ↓reduceIte, Int.reduceToNat, Int.reduceLE, Int.reduceLT, Int.reduceNe, Int.reduceEq, hpl]
            refine ⟨fun hq1 => ⟨by omega, by omega, by omega, ⟨by rw [w64 (by omega) (by omega)]; omega, by rw [w64 (by omega) (by omega)]; omega⟩, ?_⟩, fun hq1 => ?_⟩
            · rw [pagesR_succ, List.map_append]; exact .refl _
            · have hqe : q = longN c.data.size := by omega
              rw [← hqe, if_pos (by omega)]
              refine shrK [] [11] mx (by kernel_rfl) ?_
              simp (maxDischargeDepth := 12) (maxSteps := 1000000) -implicitDefEqProofs only [go_sem, Nat.reduceAdd, Nat.reduceSub, Nat.reduceMul, Nat.reduceLeDiff, Nat.reduceEqDiff, Nat.reduceGT, Nat.reduceBEq, reduceCtorEq, ↓reduceIte, Int.reduceToNat, Int.reduceLE, Int.reduceLT, Int.reduceNe, Int.reduceEq, hpl, hml]
              refine ⟨by omega, by omega, by omega, hk1, .consB (.consA ?_)⟩
              rw [List.map_append, List.map_cons, List.map_nil, dC_eq]; exact .refl _
        · rw [show longN c.data.size = 0 from if_neg (by omega), if_neg (by omega)]
          simp (maxDischargeDepth := 12) (maxSteps := 1000000) -implicitDefEqProofs only [go_sem, Nat.reduceAdd, Nat.reduceSub, Nat.reduceMul, Nat.reduceLeDiff, Nat.reduceEqDiff, Nat.reduceGT, Nat.reduceBEq, reduceCtorEq, ↓reduceIte, Int.reduceToNat, Int.reduceLE, Int.reduceLT, Int.reduceNe, Int.reduceEq]
          refine ⟨by omega, by omega, hlt, ⟨by omega, hk1⟩, .consB ?_⟩
          rw [List.map_append, List.map_cons, List.map_nil, dC_eq]; exact .refl _
      · have hkl : k = n.l.length := by omega
        rw [hkl, List.take_length] at hml hto ⊢
        refine ⟨fun hp => ?_, fun hp => ?_⟩
        · rw [if_neg (fun e => by rw [e] at hp; simp at hp)] at hfin
          cases hfin
          refine Wk.eq ?_
          rw [w64 (by omega) (by omega)]; rfl
        · rw [if_pos (List.eq_nil_of_length_eq_zero (by omega))] at hfin
          cases hfin
          exact .refl _
  | succ d ih =>
    intro n f S hn ht hf0 hf1
    have hlf := hn.1
    have hl := tot_len n
    have hfin := markN_fin hlf f
    generalize eN (markN n f).1 = R1 at hfin
    generalize (markN n f).2 = R2 at hfin
    refine fnS [17, 18] mx Try.func37 rfl rfl (by kernel_rfl) ?_; simp (maxDischargeDepth := 12) (maxSteps := 1000000) -implicitDefEqProofs only [Try.ntmps37, go_sem, Nat.reduceAdd, Nat.reduceSub, Nat.reduceMul, Nat.reduceLeDiff, Nat.reduceEqDiff, Nat.reduceGT, Nat.reduceBEq, reduceCtorEq, ↓reduceIte, Int.reduceToNat, Int.reduceLE, Int.reduceLT, Int.reduceNe, Int.reduceEq,  hlf]
    intro b b1 b2
    refine awp_growB b2.n 2 4 (by omega) (q_lk_same _ _ _) rfl fun lb => ?_
    simp (maxDischargeDepth := 12) (maxSteps := 1000000) -implicitDefEqProofs only [go_sem, Nat.reduceAdd, Nat.reduceSub, Nat.reduceMul, Nat.reduceLeDiff, Nat.reduceEqDiff, Nat.reduceGT, Nat.reduceBEq, reduceCtorEq, ↓reduceIte, Int.reduceToNat, Int.reduceLE, Int.reduceLT, Int.reduceNe, Int.reduceEq]
    refine loopN [17, 18] n.l.length [1, 2, 4, 6, 7] (fun k => [(1, dI (markCs false (n.l.take k) f).2), (7, dI k)]) (fun k => ⟨(b2.n, [dI 0, dB false, .acc lb.n k]) :: (b1.n, [dI 0, dB false, .sl 0 true []]) :: (b.n, [dI n.page, dB false, .sl 4 false (n.l.map dC)]) :: S.box, (lb.n, .arr 4 ((markCs false (n.l.take k) f).1.map dC)) :: S.acc⟩) (fun _ => True) mx (by kernel_rfl) ?_ ?_
    · simp (maxDischargeDepth := 12) (maxSteps := 1000000) -implicitDefEqProofs only [go_sem, Nat.reduceAdd, Nat.reduceSub, Nat.reduceMul, Nat.reduceLeDiff, Nat.reduceEqDiff, Nat.reduceGT, Nat.reduceBEq, reduceCtorEq, ↓reduceIte, Int.reduceToNat, Int.reduceLE, Int.reduceLT, Int.reduceNe, Int.reduceEq]
      exact ⟨rfl, .refl _⟩
    · intro k hk' _
      have hml : (markCs false (n.l.take k) f).1.length = k := by rw [markCs_len, List.length_take]; omega
      have hm8 : maxLen = 9223372036854775807 := rfl
      have hto : f ≤ (markCs false (n.l.take k) f).2 ∧ (markCs false (n.l.take k) f).2 + k ≤ f + 5 * (tot (n.l.take k) : Int) := by
        have := markCs_to false (n.l.take k) f fun c hc f => by
          obtain ⟨_, kid, hkid, hnd⟩ := hn.2.2 c (List.mem_of_mem_take hc)
          rw [markC_br hkid, totC_kid hkid]
          have := mark_to d kid f hnd
          simp only; omega
        rw [List.length_take] at this
        omega
      have htl : tot (n.l.take k) ≤ tot n.l := tot_take _ _
      rw [totN_tot] at ht hf1
      simp (maxDischargeDepth := 12) (maxSteps := 1000000) -implicitDefEqProofs only [go_sem, Nat.reduceAdd, Nat.reduceSub, Nat.reduceMul, Nat.reduceLeDiff, Nat.reduceEqDiff, Nat.reduceGT, Nat.reduceBEq, reduceCtorEq, ↓reduceIte, Int.reduceToNat, Int.reduceLE, Int.reduceLT, Int.reduceNe, Int.reduceEq, hml]
      refine ⟨fun hlt => ⟨hlt, fun c hc b3 => ?_⟩, fun hge => ?_⟩
      · have hs := markCs_take (b := false) hc f
        have hcm := List.mem_of_getElem? hc
        obtain ⟨hsh, kid, hkid, hnd⟩ := hn.2.2 c hcm
        have htk := tot_succ hc
        rw [totC_kid hkid] at htk
        have htl2 : tot (n.l.take (k + 1)) ≤ tot n.l := tot_take _ _
        rw [markC_br hkid] at hs
        have hs1 := congrArg Prod.fst hs
        have hs2 := congrArg Prod.snd hs
        simp only at hs1 hs2
        rw [hs1, hs2]
        generalize hP : markCs false (n.l.take k) f = Pk at *
        obtain ⟨Lk, fk⟩ := Pk
        simp only at hml hto
        have hk1 : IntKind.i64.wrap ((k : Int) + 1) = ((k + 1 : Nat) : Int) := by rw [w64 (by omega) (by omega)]; omega
        simp (maxDischargeDepth := 12) (maxSteps := 1000000) -implicitDefEqProofs only [go_sem, Nat.reduceAdd, Nat.reduceSub, Nat.reduceMul, Nat.reduceLeDiff, Nat.reduceEqDiff, Nat.reduceGT, Nat.reduceBEq, reduceCtorEq, ↓reduceIte, Int.reduceToNat, Int.reduceLE, Int.reduceLT, Int.reduceNe, Int.reduceEq, hkid]
        refine use1 (ih kid fk _ hnd (by omega) (by omega) (by omega)) ?_
        simp (maxDischargeDepth := 12) (maxSteps := 1000000) -implicitDefEqProofs only [go_sem, Nat.reduceAdd, Nat.reduceSub, Nat.reduceMul, Nat.reduceLeDiff, Nat.reduceEqDiff, Nat.reduceGT, Nat.reduceBEq, reduceCtorEq, ↓reduceIte, Int.reduceToNat, Int.reduceLE, Int.reduceLT, Int.reduceNe, Int.reduceEq, hkid]
        intro b4
        refine wkBoxK b3.n [dS c.key, dS c.data, .sl 1 false (c.pages.map dI), .sl 3 false [dN (markN kid fk).1]] (ds := [dS c.key, dS c.data, .sl 1 false (c.pages.map dI), .sl 3 true [eN (markN kid fk).1]]) (by simp (maxDischargeDepth := 12) (maxSteps := 1000000) -implicitDefEqProofs only [go_sem, Nat.reduceAdd, Nat.reduceSub, Nat.reduceMul, Nat.reduceLeDiff, Nat.reduceEqDiff, Nat.reduceGT, Nat.reduceBEq, reduceCtorEq, ↓reduceIte, Int.reduceToNat, Int.reduceLE, Int.reduceLT, Int.reduceNe, Int.reduceEq]) (by rw [dN_eq]; exact .cons (.refl _) (.cons (.refl _) (.cons (.refl _) (.cons (.full _ _ _) .nil)))) ?_
        simp (maxDischargeDepth := 12) (maxSteps := 1000000) -implicitDefEqProofs only [go_sem, Nat.reduceAdd, Nat.reduceSub, Nat.reduceMul, Nat.reduceLeDiff, Nat.reduceEqDiff, Nat.reduceGT, Nat.reduceBEq, reduceCtorEq, ↓reduceIte, Int.reduceToNat, Int.reduceLE, Int.reduceLT, Int.reduceNe, Int.reduceEq]
        refine shrK [] [] mx (by kernel_rfl) ?_
        simp (maxDischargeDepth := 12) (maxSteps := 1000000) -implicitDefEqProofs only [go_sem, Nat.reduceAdd, Nat.reduceSub, Nat.reduceMul, Nat.reduceLeDiff, Nat.reduceEqDiff, Nat.reduceGT, Nat.reduceBEq, reduceCtorEq, ↓reduceIte, Int.reduceToNat, Int.reduceLE, Int.reduceLT, Int.reduceNe, Int.reduceEq, hml]
        refine ⟨by omega, by omega, by omega, hk1, .consB (.consB ?_)⟩
        simp (maxDischargeDepth := 12) (maxSteps := 1000000) -implicitDefEqProofs only [go_sem, Nat.reduceAdd, Nat.reduceSub, Nat.reduceMul, Nat.reduceLeDiff, Nat.reduceEqDiff, Nat.reduceGT, Nat.reduceBEq, reduceCtorEq, ↓reduceIte, Int.reduceToNat, Int.reduceLE, Int.reduceLT, Int.reduceNe, Int.reduceEq, List.map_append, List.map_cons, List.map_nil]
      · have hkl : k = n.l.length := by omega
        rw [hkl, List.take_length] at hml hto ⊢
        refine ⟨fun hp => ?_, fun hp => ?_⟩
        · rw [if_neg (fun e => by rw [e] at hp; simp at hp)] at hfin
          cases hfin
          refine Wk.eq ?_
          rw [w64 (by omega) (by omega)]; rfl
        · rw [if_pos (List.eq_nil_of_length_eq_zero (by omega))] at hfin
          cases hfin
          exact .refl _
end Go.Proofs.Ytkibkahknibgfaa

namespace Aml
open Go Go.RowKit
set_option linter.unusedVariables false
set_option linter.unusedSimpArgs false

/-- A row, as one that grows. -/
def arrK (d : DV) (S : St) (K : DV → St → Prop) : Prop := match d with
  | .sl s true xs => ∀ l, nin S.acc l → K (.acc l xs.length) ⟨S.box, (l, .arr s xs) :: S.acc⟩
  | _ => False
section
variable {P : Program} {w0 : W0}
theorem buildSlice_arr {g : Gh} {S : St} {w : World} (h1 : Rel w0 g S w) {t len : Nat} {parts : List (Nat × DV)} {vs : List (Nat × Value)} (hx : parts.map (·.1) = vs.map (·.1)) (hR : RepL g (parts.map (·.2)) (vs.map (·.2))) {K : DV → St → Prop}
    {e : Nat} (hte : ∀ e' s b i, tk P t = .sl e' s b i → e' = e) (h : vBuildSlice (tk P t) (zD P e) len parts fun d => arrK d S K) :
    ∃ d u w' g' S', (Instr.buildSlice t len vs.toArray).run P w = .ok u w' ∧ g.le g' ∧ Rel w0 g' S' w' ∧ Rep g' d u ∧ K d S' := by
  unfold vBuildSlice at h
  split at h
  · rename_i e' s by' hk
    obtain rfl := hte _ _ _ _ hk
    obtain ⟨hok, hzl, hbig, h⟩ := h
    obtain ⟨hu, hs, _, hei⟩ := tk_sl hk
    obtain ⟨ti, z, hi, hz, hzs, hpos⟩ := okEl_spec hei
    have hsz : ti.size = s := by simpa [Program.cellsOf, hi] using hs
    have hzD : zD P e' = cv z := by simp [zD, hi, hz]
    have hrz : Rep g (zD P e') z := hzD ▸ rep_cv g z
    split at h
    · rename_i xs hf
      have hpw := pw_made (z := z) (s := s) (n := len) (by omega) (by omega)
      obtain ⟨cs', us', q1, q2, q3, q4, q5⟩ := fillE_ok (g := g) (s := s) parts vs (List.replicate len (zD P e')) (List.replicate len z) ((Array.range (len * s)).map (z.cells[· % z.cells.size]!)) xs hx hR
        ⟨by simp, fun i d u a b => by
          rw [List.getElem?_replicate] at a b
          split at a
          · rename_i hlt; rw [if_pos hlt] at b; simp only [Option.some.injEq] at a b; subst a; subst b; exact hrz
          · cases a⟩ hpw (fun u hu x hx => by rw [List.eq_of_mem_replicate hu] at hx; exact hrz.one hok x hx) hf
      have hlen : xs.length = len := by simpa using q5
      have hlu : us'.length = len := by rw [← q2.len]; exact hlen
      have hrun : (Instr.buildSlice t len vs.toArray).run P w = .ok (.slice (some ⟨w.heap.size, 0, none⟩) len len) (w.alloc (.cells cs' e')) := by
        have hb : ¬ (len * s > 2 ^ 24) := by omega
        simp only [Instr.buildSlice]
        by_cases hls : len * s = 0
        · have hl0 : len = 0 := by rcases Nat.mul_eq_zero.1 hls with h' | h' <;> omega
          have hcs : ((Array.range (len * s)).map (z.cells[· % z.cells.size]!)) = #[] := by simp [hls]
          rw [hcs] at q1
          have hr0 : ∀ f : Nat → Value, (Array.range 0).map f = #[] := fun f => by simp
          simp only [run_underlying hu, Go.sizeOf, typeInfo, hi, hsz, hls, newRow, Sem.run_bind, Sem.run_pure, Result.andThen_ok, run_program, hr0, if_true]
          rw [q1]
          simp [hl0]
        · simp [run_underlying hu, Go.sizeOf, typeInfo, hi, hsz, hls, hb, zeroValue, hz, q1, newRow]
      have hlm : len ≤ maxLen := by
        have : len * 1 ≤ len * s := Nat.mul_le_mul_left len (by omega)
        unfold maxLen; omega
      have hcsz : cs'.size = len * s := by
        have := q3.size
        rw [hlu] at this
        simpa using this
      obtain ⟨l, g', hle, hne, hRel, hA⟩ := h1.newArr (s := s) (xs := xs) (us := us') (c := len) (below_alloc w (.cells cs' e')) (by omega) (Nat.le_refl _) (heap_alloc_new w _) hcsz (by omega) hlm q2 q3.each q4 (fun i u j x a b => by have := q3.at_ i u j x a b; simpa using this)
      rw [hlen] at hA
      have h' := h l (nin_of hne)
      rw [hlen] at h'
      exact ⟨_, _, _, _, _, hrun, hle, hRel, hA, h'⟩
    · exact h.elim
  · exact h.elim
theorem y_buildArr {o : Oper} {t len : Nat} {parts : List (Nat × Operand)} (ho : o.op = .buildSlice t len parts.toArray) {ρD : Operand → DV} {S : St} {K : DV → St → Prop}
    (h : shrs S (parts.map fun p => ρD p.2) fun ds S => vBuildSlice (tk P t) (zD P (elT P t)) len ((parts.map (·.1)).zip ds) fun d => arrK d S K) : YieldsE P w0 o ρD S K := by
  intro g w ρ h1 h2 hcst
  have hR := repL_of_ops (g := g) (ρD := ρD) (ρ := ρ) parts (fun p hp => h2 p.2 (by simp only [ho, Op.operands]; simp; exact ⟨p.1, hp⟩))
  obtain ⟨g', ds, S', l1, R1, r1, k1⟩ := shrs_ok _ h1 hR h
  have hlen : (parts.map (·.1)).length = ds.length := by have := r1.len; simpa using this.symm
  obtain ⟨d, u, w', g2, S2, e1, l2, R2, e2, e3⟩ := buildSlice_arr (P := P) R1 (t := t) (len := len) (parts := (parts.map (·.1)).zip ds) (vs := parts.map fun p => (p.1, ρ p.2)) (by rw [zip_fst hlen]; simp) (by rw [zip_snd hlen]; simpa [Function.comp_def] using r1)
    (e := elT P t) (fun e' s b i hk => by simp [elT, hk]) k1
  have hrun : (execOp ρ o).run P w = .ok (.value u) w' := by
    have e : (parts.toArray.map fun (i, x) => (i, ρ x)) = (parts.map fun p => (p.1, ρ p.2)).toArray := by simp
    simp only [execOp, ho, Sem.run_bind]
    rw [e, e1]
    rfl
  rw [hrun]
  exact ⟨g2, d, S2, l1.trans l2, R2, e2, e3⟩
def opA (P : Program) (w0 : W0) (op : Op) (fr : List DV) (S : St) (K : DV → St → Prop) : Prop := match op with
  | .buildSlice t len parts => shrs S (parts.toList.map fun p => ev fr p.2) fun ds S => vBuildSlice (tk P t) (zD P (elT P t)) len ((parts.toList.map (·.1)).zip ds) fun d => arrK d S K
  | op => vcOp P w0 op fr S K
def vcLA (P : Program) (w0 : W0) (ops : Array Oper) (K : List DV → St → Prop) : List Oper → List DV → St → Prop
  | [], fr, S => K fr S
  | o :: rest, fr, S => guardK ops fr o.guard (fun fr => opA P w0 o.op fr S fun d S' => vcLA P w0 ops K rest (pt fr o.dst d) S') (fun fr => vcLA P w0 ops K rest (pt fr o.dst ud) S)
theorem opA_sound {o : Oper} {fr : List DV} {S : St} {K : DV → St → Prop} (hs : okSl o.op = true) (h : opA P w0 o.op fr S K) : YieldsE P w0 o (ev fr) S K := by
  cases hop : o.op with
  | buildSlice t len parts => rw [hop] at h; exact y_buildArr (parts := parts.toList) (by simpa using hop) h
  | _ => rw [hop] at h; exact vcOp_sound hs (by rw [hop]; exact h)
theorem vcLA_sound {ops : Array Oper} {K : List DV → St → Prop} : ∀ (l : List Oper) {fr : List DV} {S : St}, l.all (fun o => okSl o.op) = true → vcLA P w0 ops K l fr S → LWp P w0 ops K l fr S
  | [], fr, S, _, h => h
  | o :: rest, fr, S, hs, h => by
    simp only [List.all_cons, Bool.and_eq_true] at hs
    refine guardK_mono (fun fr h => ?_) (fun fr h => vcLA_sound rest hs.2 h) h
    exact yields_mono (fun d S h => vcLA_sound rest hs.2 h) (opA_sound hs.1 h)
/-- A region in which what is built may grow. -/
theorem arrR {id : Nat} {l : List Oper} {fr : List DV} {S : St} {Q : Exit → List DV → St → Prop} (hs : l.all (fun o => okSl o.op) = true) (h : vcLA P w0 l.toArray (fun fr S => normF fr fun fr => Q .normal fr S) l fr S) : AWp P w0 (.region id l.toArray false) fr S Q :=
  awp_region (vcLA_sound l hs h)
section
variable {ops : Array Oper} {fr : List DV} {S : St} {rest : List Oper} {dst : Option Tmp} {op : Op} {ty : TypeId} {pos : String} {aft : Array Edge} {K : List DV → St → Prop} {K2 : DV → St → Prop}
theorem a_nil : vcLA P w0 ops K [] fr S = K fr S := rfl
theorem a_none : vcLA P w0 ops K (⟨dst, op, ty, pos, aft, none⟩ :: rest) fr S = opA P w0 op fr S fun d S' => vcLA P w0 ops K rest (pt fr dst d) S' := rfl
theorem a_load (t : TypeId) (x : Operand) : opA P w0 (.load t x) fr S K2 = vcOp P w0 (.load t x) fr S K2 := rfl
theorem a_move (x : Operand) : opA P w0 (.move x) fr S K2 = vcOp P w0 (.move x) fr S K2 := rfl
theorem a_assign (x : Operand) : opA P w0 (.assign x) fr S K2 = vcOp P w0 (.assign x) fr S K2 := rfl
theorem a_buildSlice (t : TypeId) (len : Nat) (parts : List (Nat × Operand)) : opA P w0 (.buildSlice t len parts.toArray) fr S K2 = (shrs S (parts.map fun p => ev fr p.2) fun ds S => vBuildSlice (tk P t) (zD P (elT P t)) len ((parts.map (·.1)).zip ds) fun d => arrK d S K2) := rfl
theorem a_arrK (s : Nat) (xs : List DV) : arrK (.sl s true xs) S K2 = ∀ l : FN S.acc, K2 (.acc l.n xs.length) ⟨S.box, (l.n, .arr s xs) :: S.acc⟩ := n_fresh S.acc fun l => K2 (.acc l xs.length) ⟨S.box, (l, .arr s xs) :: S.acc⟩
@[congr] theorem c_opA {fr' : List DV} {S' : St} (h1 : fr = fr') (h2 : S = S') : opA P w0 op fr S K2 = opA P w0 op fr' S' K2 := by cases h1; cases h2; rfl
@[congr] theorem c_vcLA {l : List Oper} {fr' : List DV} {S' : St} (h1 : fr = fr') (h2 : S = S') : vcLA P w0 ops K l fr S = vcLA P w0 ops K l fr' S' := by cases h1; cases h2; rfl
@[congr] theorem c_arrK {d d' : DV} {S' : St} (h1 : d = d') (h2 : S = S') : arrK d S K2 = arrK d' S' K2 := by cases h1; cases h2; rfl
end
end
attribute [go_sem ↓] a_nil a_none a_load a_move a_assign a_buildSlice a_arrK
end Aml

namespace Go.Proofs.Ytkibkahknibgfaa
open Aml Go
set_option linter.unusedVariables false
set_option linter.unusedSimpArgs false
set_option maxRecDepth 100000

/-- A branch's kids. -/
def kidsOf (n : N) : List N := if n.leaf then [] else n.l.flatMap fun c => c.kid.take 1
@[go_sem] def dV2 (c : C) : DV := .agg [dS c.data, .sl 1 false (c.pages.map dI)]
mutual
/-- A tree, as the program has it. -/
def dT : N → DV
  | .mk p b l => .agg [dI p, dB b, .sl 1 false (l.map fun c => dS c.key), .sl 2 false ((if b then l else []).map dV2), .sl 5 false (if b then [] else dTCs l)]
def dTC : C → List DV
  | .mk _ _ _ kid => dTNs kid
def dTCs : List C → List DV
  | [] => []
  | c :: l => dTC c ++ dTCs l
def dTNs : List N → List DV
  | [] => []
  | n :: _ => [dT n]
end
theorem dTNs_eq : ∀ l, dTNs l = (l.take 1).map dT
  | [] => by simp [dTNs]
  | n :: l => by simp [dTNs]
theorem dTCs_eq : ∀ l, dTCs l = (l.flatMap fun c => c.kid.take 1).map dT
  | [] => by simp [dTCs]
  | c :: l => by
    cases c
    simp only [dTCs, dTC, dTNs_eq, dTCs_eq l, List.flatMap_cons, List.map_append, C.kid_mk]
@[go_sem] def eT (n : N) : DV := .agg [dI n.page, dB n.leaf, .sl 1 false (n.l.map fun c => dS c.key), .sl 2 false ((if n.leaf then n.l else []).map dV2), .sl 5 false ((kidsOf n).map dT)]
@[go_sem] theorem dT_eq (n : N) : dT n = eT n := by
  cases n with | mk p b l =>
  simp only [dT, eT, N.page_mk, N.leaf_mk, N.l_mk, kidsOf]
  cases b <;> simp [dTCs_eq]
def cT (n : N) : List DV := [dI n.page, dB n.leaf, .sl 1 false (n.l.map fun c => dS c.key), .sl 2 false ((if n.leaf then n.l else []).map dV2), .sl 5 false ((kidsOf n).map dT)]
mutual
/-- The nodes in the order in which they come; none below one of which something is so. -/
def visN (ends : N → Bool) : N → List N
  | .mk p b l => .mk p b l :: (if ends (.mk p b l) then [] else if b then [] else visCs ends l)
def visC (ends : N → Bool) : C → List N
  | .mk _ _ _ kid => visNs ends kid
def visCs (ends : N → Bool) : List C → List N
  | [] => []
  | c :: l => visCs ends l ++ visC ends c
def visNs (ends : N → Bool) : List N → List N
  | [] => []
  | n :: _ => visN ends n
end
theorem visNs_eq (ends : N → Bool) : ∀ l, visNs ends l = (l.take 1).flatMap (visN ends)
  | [] => by simp [visNs]
  | n :: l => by simp [visNs]
theorem visCs_eq (ends : N → Bool) : ∀ l, visCs ends l = (l.flatMap fun c => c.kid.take 1).reverse.flatMap (visN ends)
  | [] => by simp [visCs]
  | c :: l => by
    cases c with | mk k d ps kid =>
    have hr : (kid.take 1).reverse = kid.take 1 := by cases kid <;> rfl
    simp only [visCs, visC, visNs_eq, visCs_eq ends l, List.flatMap_cons, List.reverse_append, List.flatMap_append, C.kid_mk, hr]
theorem visN_eq (ends : N → Bool) (n : N) : visN ends n = n :: (if ends n then [] else (kidsOf n).reverse.flatMap (visN ends)) := by
  cases n with | mk p b l =>
  simp only [visN, kidsOf, N.leaf_mk, N.l_mk, visCs_eq]
  cases b <;> simp
/-- What is still to come, the last first. -/
def visS (ends : N → Bool) (s : List N) : List N := s.reverse.flatMap (visN ends)
theorem visS_snoc (ends : N → Bool) (s : List N) (x : N) : visS ends (s ++ [x]) = x :: visS ends (s ++ if ends x then [] else kidsOf x) := by
  unfold visS
  rw [List.reverse_append, List.reverse_cons, List.reverse_nil, List.nil_append, List.flatMap_append, List.flatMap_cons, List.flatMap_nil, List.append_nil, visN_eq, List.cons_append]
  congr 1
  cases ends x <;> simp [List.reverse_append, List.flatMap_append]
set_option maxHeartbeats 4000000 in
theorem nodesW (w0 : W0) (n : N) (fe : FuncId) (S : St) : ACall Try.prog w0 62 [eT n, .v (.func (.func fe) #[] #[])] S (fun d S' => ∃ (b : FN S.box) (c : FN ((b.n, cT n) :: S.box)), d = .v (.func (.func 87) #[] #[.pointer (some ⟨b.n, 0, none⟩), .pointer (some ⟨c.n, 0, none⟩)]) ∧ S' = ⟨(c.n, [.v (.func (.func fe) #[] #[])]) :: (b.n, cT n) :: S.box, S.acc⟩) := by
  refine fnO [] mx Try.func62 rfl rfl (by kernel_rfl) ?_; simp (maxDischargeDepth := 12) (maxSteps := 1000000) -implicitDefEqProofs only [Try.ntmps62, go_sem, Nat.reduceAdd, Nat.reduceSub, Nat.reduceMul, Nat.reduceLeDiff, Nat.reduceEqDiff, Nat.reduceGT, Nat.reduceBEq, reduceCtorEq, ↓reduceIte, Int.reduceToNat, Int.reduceLE, Int.reduceLT, Int.reduceNe, Int.reduceEq]
  exact fun b c => ⟨b, c, rfl, rfl⟩
theorem ex_snoc {α : Type} (f : α → DV) (l : List α) {d : DV} (ho : okE d = true) (F : DV → Prop) : exK (l.map f ++ [d]) l.length F = F d := by
  unfold exK
  have h : (l.map f ++ [d])[l.length]? = some d := by rw [List.getElem?_append_right (by simp)]; simp
  simp [h]
  exact fun _ => ho
theorem take_map_snoc {α : Type} (f : α → DV) (l : List α) (d : DV) : (l.map f ++ [d]).take l.length = l.map f := by
  rw [List.take_append_of_le_length (by rw [List.length_map]; exact Nat.le_refl _)]
  exact List.take_of_length_le (by rw [List.length_map]; exact Nat.le_refl _)
theorem lk_ren_new {L : List (Nat × Ob)} {w m : Nat} {o o' : Ob} (h : lk L w = some o') (hm : nin L m) : lk (ren L w (m, o)) m = some o := by
  induction L with
  | nil => cases h
  | cons p t ih =>
    obtain ⟨k, x⟩ := p
    simp only [lk] at h
    simp only [ren]
    split
    · simp [lk]
    · rename_i hne
      rw [if_neg hne] at h
      have hk : ¬ k = m := fun e => by have := nin_lk hm; rw [← e] at this; simp [lk] at this
      have hm' : nin t m := hm.2.2
      simp only [lk, if_neg hk]
      exact ih h hm'
theorem lk_ren_old {L : List (Nat × Ob)} {w m c : Nat} {o : Ob} (h1 : c ≠ w) (h2 : c ≠ m) : lk (ren L w (m, o)) c = lk L c := by
  induction L with
  | nil => rfl
  | cons p t ih =>
    obtain ⟨k, x⟩ := p
    simp only [ren]
    split
    · rename_i e; subst e; simp only [lk]; rw [if_neg (fun e => h2 e.symm), if_neg (fun e => h1 e.symm)]
    · simp only [lk, ih]
theorem lk_dom {α : Type} : ∀ {L L' : List (Nat × α)} {n : Nat}, L.map (·.1) = L'.map (·.1) → lk L n = none → lk L' n = none
  | [], [], _, _, _ => rfl
  | [], _ :: _, _, h, _ => by simp at h
  | _ :: _, [], _, h, _ => by simp at h
  | (k, x) :: t, (k', x') :: t', n, h, hn => by
    simp only [List.map_cons, List.cons.injEq] at h
    obtain ⟨e, h⟩ := h
    subst e
    simp only [lk] at hn ⊢
    split at hn
    · cases hn
    · rename_i hne; rw [if_neg hne]; exact lk_dom h hn
@[go_sem] theorem ty_k119 : tk Try.prog 119 = .fn := by kernel_rfl
@[go_sem] theorem ty_z119 : zD Try.prog 119 = .v .nilFunc := by kernel_rfl
@[go_sem] theorem ty_c119 : Try.prog.cellsOf 119 = 1 := by kernel_rfl
@[go_sem] theorem ty_i119 : (Try.prog.info? 119).isSome = true := by kernel_rfl
theorem visS_len (ends : N → Bool) (s : List N) : s.length ≤ (visS ends s).length := by
  unfold visS
  rw [← List.length_reverse]
  induction s.reverse with
  | nil => exact Nat.le_refl 0
  | cons x t ih => rw [List.flatMap_cons, visN_eq]; simp only [List.length_append, List.length_cons]; omega
theorem lk_up (L : List (Nat × List DV)) (b c : Nat) (v : List DV) : lk (up L b v) c = if b = c then (lk L c).map (fun _ => v) else lk L c := by
  split
  · rename_i e; subst e; exact lk_up_same _ _ _
  · rename_i e; exact lk_up_ne e _ _
theorem Has_upd {X T : St} {b : Nat} (h : Has X T) (v : List DV) : Has ⟨up X.box b v, X.acc⟩ ⟨up T.box b v, T.acc⟩ := ⟨fun c x hc => by
  simp only [lk_up] at hc ⊢
  split at hc
  · rename_i e
    obtain ⟨y, hy, rfl⟩ := Option.map_eq_some_iff.1 hc
    rw [h.box _ _ hy, if_pos e]; rfl
  · rename_i e
    rw [if_neg e]; exact h.box _ _ hc, h.acc⟩
theorem up_same {α : Type} {L : List (Nat × α)} {b : Nat} {v : α} (h : lk L b = some v) : up L b v = L := by
  induction L with
  | nil => rfl
  | cons p t ih =>
    obtain ⟨k, x⟩ := p
    simp only [lk] at h
    simp only [up]
    split
    · rename_i e; rw [if_pos e] at h; cases h; rfl
    · rename_i e; rw [if_neg e] at h; rw [ih h]
theorem lk_upA (L : List (Nat × Ob)) (b c : Nat) (v : Ob) : lk (up L b v) c = if b = c then (lk L c).map (fun _ => v) else lk L c := by
  split
  · rename_i e; subst e; exact lk_up_same _ _ _
  · rename_i e; exact lk_up_ne e _ _
theorem Has_upd2 {X T : St} {b l : Nat} (h : Has X T) (v : List DV) (o : Ob) : Has ⟨up X.box b v, up X.acc l o⟩ ⟨up T.box b v, up T.acc l o⟩ := ⟨(Has_upd h v).box, fun c x hc => by
  simp only [lk_upA] at hc ⊢
  split at hc
  · rename_i e
    obtain ⟨y, hy, rfl⟩ := Option.map_eq_some_iff.1 hc
    rw [h.acc _ _ hy, if_pos e]; rfl
  · rename_i e
    rw [if_neg e]; exact h.acc _ _ hc⟩
theorem Kp_up2 {X T : St} {b l : Nat} {v : List DV} {o : Ob} (hb : ¬ lk X.box b = none) (hl : ¬ lk X.acc l = none) : Kp X T ⟨up T.box b v, up T.acc l o⟩ := ⟨fun c x hc hx => by
  show lk (up T.box b v) c = some x
  rw [lk_up_ne (fun e => hb (by rw [e]; exact hc))]; exact hx, fun c x hc hx => by
  show lk (up T.acc l o) c = some x
  rw [lk_up_ne (fun e => hl (by rw [e]; exact hc))]; exact hx⟩
structure Wk1 where
  T : St
  w : Nat
  pre : List N
  s : List N
def bigN (B : Nat) (n : N) : Prop := (kidsOf n).length ≤ B
set_option maxHeartbeats 8000000 in
/-- The iterator: at the yield of whatever loop, with whatever store of the caller's. -/
theorem iterW (w0 : W0) (l b2 b3 : Nat) (n : N) (ends : N → Bool) (fe : FuncId) (X : List N → St) (B : Nat) (hB : (visN ends n).length ≤ B) (hB2 : B ≤ 1048576)
    (h2 : ∀ pre, lk (X pre).box b2 = some (cT n)) (h3 : ∀ pre, lk (X pre).box b3 = some [.v (.func (.func fe) #[] #[])]) (hfe : okF Try.prog fe = true)
    (hend : ∀ x T, ACall Try.prog w0 fe [eT x] T (fun d T' => d = dB (ends x) ∧ T' = T))
    (hdb : ∀ pre, (X pre).box.map (·.1) = (X []).box.map (·.1)) (hda : ∀ pre, (X pre).acc.map (·.1) = (X []).acc.map (·.1))
    (hy : YK Try.prog w0 l X (fun x => [eT x]) (visN ends n)) : ∀ T, Has (X []) T → ACall Try.prog w0 87 [.v (.func (.yield l) #[] #[]), .v (.pointer (some ⟨b2, 0, none⟩)), .v (.pointer (some ⟨b3, 0, none⟩))] T (fun _ T' => Has (X (visN ends n)) T') := by
  intro T hT
  have t2 : lk T.box b2 = some (cT n) := hT.box _ _ (h2 [])
  have t3 : lk T.box b3 = some [.v (.func (.func fe) #[] #[])] := hT.box _ _ (h3 [])
  refine fnO [0] mx Try.func87 rfl rfl (by kernel_rfl) ?_; simp (maxDischargeDepth := 12) (maxSteps := 1000000) -implicitDefEqProofs only [Try.ntmps87, go_sem, Nat.reduceAdd, Nat.reduceSub, Nat.reduceMul, Nat.reduceLeDiff, Nat.reduceEqDiff, Nat.reduceGT, Nat.reduceBEq, reduceCtorEq, ↓reduceIte, Int.reduceToNat, Int.reduceLE, Int.reduceLT, Int.reduceNe, Int.reduceEq,  t2, t3]
  refine arrR (by kernel_rfl) ?_
  simp (maxDischargeDepth := 12) (maxSteps := 1000000) -implicitDefEqProofs only [go_sem, Nat.reduceAdd, Nat.reduceSub, Nat.reduceMul, Nat.reduceLeDiff, Nat.reduceEqDiff, Nat.reduceGT, Nat.reduceBEq, reduceCtorEq, ↓reduceIte, Int.reduceToNat, Int.reduceLE, Int.reduceLT, Int.reduceNe, Int.reduceEq, t2, t3, cT]
  intro lb
  refine loopK [] [0, 2, 4] (fun s : Wk1 => [(4, .acc s.w s.s.length)]) (fun s => s.T) (fun s => Has (X s.pre) s.T ∧ lk s.T.acc s.w = some (.arr 5 (s.s.map dT)) ∧ lk (X s.pre).acc s.w = none ∧ s.pre ++ visS ends s.s = visN ends n) (fun s => (visN ends n).length - s.pre.length) ⟨⟨T.box, (lb.n, .arr 5 [dT n]) :: T.acc⟩, lb.n, [], [n]⟩ mx (by kernel_rfl) ?_ ?_
  · have hnone : lk T.acc lb.n = none := nin_lk lb.h
    refine ⟨⟨⟨hT.box, fun l' o ho => ?_⟩, by simp [lk], ?_, ?_⟩, ?_, ?_⟩
    · have := hT.acc _ _ ho
      show lk ((lb.n, _) :: T.acc) l' = _
      simp only [lk]
      rw [if_neg (fun e => by rw [e, this] at hnone; cases hnone)]; exact this
    · show lk (X []).acc lb.n = none
      cases hx : lk (X []).acc lb.n with
      | none => rfl
      | some o => rw [hT.acc _ _ hx] at hnone; cases hnone
    · show [] ++ visS ends [n] = visN ends n
      simp [visS]
    · simp (maxDischargeDepth := 12) (maxSteps := 1000000) -implicitDefEqProofs only [go_sem, Nat.reduceAdd, Nat.reduceSub, Nat.reduceMul, Nat.reduceLeDiff, Nat.reduceEqDiff, Nat.reduceGT, Nat.reduceBEq, reduceCtorEq, ↓reduceIte, Int.reduceToNat, Int.reduceLE, Int.reduceLT, Int.reduceNe, Int.reduceEq]
    · simp (maxDischargeDepth := 12) (maxSteps := 1000000) -implicitDefEqProofs only [go_sem, Nat.reduceAdd, Nat.reduceSub, Nat.reduceMul, Nat.reduceLeDiff, Nat.reduceEqDiff, Nat.reduceGT, Nat.reduceBEq, reduceCtorEq, ↓reduceIte, Int.reduceToNat, Int.reduceLE, Int.reduceLT, Int.reduceNe, Int.reduceEq]
  · rintro ⟨T, w, pre, st⟩ ⟨hT', hw, hwX, hV⟩
    simp only at hT' hw hwX hV
    have t2 : lk T.box b2 = some (cT n) := hT'.box _ _ (h2 pre)
    have t3 : lk T.box b3 = some [.v (.func (.func fe) #[] #[])] := hT'.box _ _ (h3 pre)
    rcases List.eq_nil_or_concat st with rfl | ⟨st, x, rfl⟩
    · have hV' : pre = visN ends n := by simpa [visS] using hV
      simp (maxDischargeDepth := 12) (maxSteps := 1000000) -implicitDefEqProofs only [go_sem, Nat.reduceAdd, Nat.reduceSub, Nat.reduceMul, Nat.reduceLeDiff, Nat.reduceEqDiff, Nat.reduceGT, Nat.reduceBEq, reduceCtorEq, ↓reduceIte, Int.reduceToNat, Int.reduceLE, Int.reduceLT, Int.reduceNe, Int.reduceEq, t3, hw]
      rw [← hV']
      exact ⟨fun h => absurd h (by omega), fun _ => hT'⟩
    · rw [List.concat_eq_append] at hw hV ⊢
      rw [visS_snoc] at hV
      have hlen : (st ++ [x]).length = st.length + 1 := by simp
      have hw2 : lk T.acc w = some (.arr 5 (st.map dT ++ [eT x])) := by rw [hw, List.map_append, List.map_cons, List.map_nil, dT_eq]
      have hsl := visS_len ends (st ++ if ends x then [] else kidsOf x)
      have hVl : pre.length + (1 + (visS ends (st ++ if ends x then [] else kidsOf x)).length) ≤ B := by rw [← hV] at hB; simp only [List.length_append, List.length_cons] at hB; omega
      rw [List.length_append] at hsl
      have ewrap : IntKind.i64.wrap (((st.length + 1 : Nat) : Int) - 1) = (st.length : Int) := by rw [w64] <;> omega
      simp (maxDischargeDepth := 12) (maxSteps := 1000000) -implicitDefEqProofs only [go_sem, Nat.reduceAdd, Nat.reduceSub, Nat.reduceMul, Nat.reduceLeDiff, Nat.reduceEqDiff, Nat.reduceGT, Nat.reduceBEq, reduceCtorEq, ↓reduceIte, Int.reduceToNat, Int.reduceLE, Int.reduceLT, Int.reduceNe, Int.reduceEq, t3, hw2, hlen, ewrap, ex_snoc, take_map_snoc]
      refine ⟨fun _ b5 => .inl ⟨.inr (by omega), ⟨_, _, _, rfl⟩, fun m => ?_⟩, fun h => absurd (by omega) h⟩
      have hbn : lk T.box b5.n = none := nin_lk b5.h
      have hmn : lk T.acc m.n = none := nin_lk m.h
      have hXb : lk (X pre).box b5.n = none := by
        cases hx : lk (X pre).box b5.n with
        | none => rfl
        | some o => rw [hT'.box _ _ hx] at hbn; cases hbn
      have hXm : lk (X pre).acc m.n = none := by
        cases hx : lk (X pre).acc m.n with
        | none => rfl
        | some o => rw [hT'.acc _ _ hx] at hmn; cases hmn
      have hmw : m.n ≠ w := by rintro e; rw [e, hw] at hmn; cases hmn
      have hT1 : Has (X pre) ⟨(b5.n, cT x) :: T.box, ren T.acc w (m.n, .arr 5 (st.map dT))⟩ := ⟨fun c y hc => by
        simp only [lk]
        rw [if_neg (fun e => by rw [← e, hXb] at hc; cases hc)]; exact hT'.box c y hc, fun c o hc => by
        rw [lk_ren_old (fun e => by rw [e, hwX] at hc; cases hc) (fun e => by rw [e, hXm] at hc; cases hc)]; exact hT'.acc c o hc⟩
      have hpre : (pre ++ [x]) <+: visN ends n := ⟨_, by rw [List.append_assoc]; exact hV⟩
      refine useY (hy pre x _ hpre hT1) ?_
      rintro d T2 ⟨rfl, hT2, hK⟩
      have u5 : lk T2.box b5.n = some (cT x) := hK.box _ _ hXb (by simp only [lk, if_true]; rfl)
      have um : lk T2.acc m.n = some (.arr 5 (st.map dT)) := hK.acc _ _ hXm (lk_ren_new hw m.h)
      have u3 : lk T2.box b3 = some [.v (.func (.func fe) #[] #[])] := hT2.box _ _ (h3 _)
      have hX2m : lk (X (pre ++ [x])).acc m.n = none := lk_dom ((hda _).trans (hda _).symm) hXm
      have hmeas : (visN ends n).length - (pre ++ [x]).length < (visN ends n).length - pre.length := by
        have := hpre.length_le
        rw [List.length_append] at this ⊢
        simp only [List.length_cons, List.length_nil] at *
        omega
      simp (maxDischargeDepth := 12) (maxSteps := 1000000) -implicitDefEqProofs only [go_sem, Nat.reduceAdd, Nat.reduceSub, Nat.reduceMul, Nat.reduceLeDiff, Nat.reduceEqDiff, Nat.reduceGT, Nat.reduceBEq, reduceCtorEq, ↓reduceIte, Int.reduceToNat, Int.reduceLE, Int.reduceLT, Int.reduceNe, Int.reduceEq, u5, um, u3, cT]
      refine ⟨hfe, use1 (hend x _) ?_⟩
      simp (maxDischargeDepth := 12) (maxSteps := 1000000) -implicitDefEqProofs only [go_sem, Nat.reduceAdd, Nat.reduceSub, Nat.reduceMul, Nat.reduceLeDiff, Nat.reduceEqDiff, Nat.reduceGT, Nat.reduceBEq, reduceCtorEq, ↓reduceIte, Int.reduceToNat, Int.reduceLE, Int.reduceLT, Int.reduceNe, Int.reduceEq, u5, um, u3, cT]
      have hlV : (st.length + (kidsOf x).length) * 88 ≤ 140737488355328 ∧ st.length + (kidsOf x).length ≤ maxLen ∨ ends x = true := by
        cases he : ends x
        · rw [he] at hsl hVl
          simp only [Bool.false_eq_true, if_false] at hsl hVl
          refine .inl ⟨by omega, ?_⟩
          have : maxLen = 9223372036854775807 := rfl
          omega
        · exact .inr rfl
      refine ⟨fun he => ?_, fun he => ?_⟩
      · rw [he, if_pos rfl, List.append_nil] at hV
        refine ⟨⟨T2, m.n, pre ++ [x], st⟩, ⟨hT2, um, hX2m, by rw [List.append_assoc]; exact hV⟩, hmeas, .refl _, .refl _⟩
      · rw [he, if_neg (by simp)] at hV
        obtain ⟨q1, q2⟩ := hlV.resolve_right (by rw [he]; simp)
        refine ⟨q1, q2, ⟨⟨T2.box, up T2.acc m.n (.arr 5 ((st ++ kidsOf x).map dT))⟩, m.n, pre ++ [x], st ++ kidsOf x⟩, ⟨⟨hT2.box, fun l o hl => ?_⟩, ?_, hX2m, by rw [List.append_assoc]; exact hV⟩, hmeas, Wk.eq (by rw [List.length_append]), .refl _⟩
        · show lk (up T2.acc m.n _) l = some o
          rw [lk_up_ne (fun e => by rw [← e, hX2m] at hl; cases hl)]
          exact hT2.acc l o hl
        · show lk (up T2.acc m.n _) m.n = _
          rw [lk_up_same, um]; rfl
end Go.Proofs.Ytkibkahknibgfaa

namespace Go.Proofs.Ytkibkahknibgfaa
open Aml Go
set_option linter.unusedVariables false
set_option linter.unusedSimpArgs false
set_option maxRecDepth 100000

set_option maxHeartbeats 400000 in
theorem needP (w0 : W0) (z : Int) (S : St) : ACall Try.prog w0 63 [dI z] S (fun d S' => d = dI (need z) ∧ S' = S) := by
  refine fnS [] mx Try.func63 rfl rfl (by kernel_rfl) ?_; simp (maxDischargeDepth := 12) (maxSteps := 1000000) -implicitDefEqProofs only [Try.ntmps63, go_sem, Nat.reduceAdd, Nat.reduceSub, Nat.reduceMul, Nat.reduceLeDiff, Nat.reduceEqDiff, Nat.reduceGT, Nat.reduceBEq, reduceCtorEq, ↓reduceIte, Int.reduceToNat, Int.reduceLE, Int.reduceLT, Int.reduceNe, Int.reduceEq]
  unfold need
  refine ⟨fun h => by rw [if_neg (by omega)]; rfl, fun h1 => ⟨fun h => by rw [if_neg (by omega)]; rfl, fun h2 => ?_⟩⟩
  rw [if_pos (by omega), w64 (n := z + 119) (by omega) (by omega), w64 (n := z + 119 - 1) (by omega) (by omega), Int.tdiv_eq_ediv_of_nonneg (by omega), w64 (by omega) (by omega)]
  omega
set_option maxHeartbeats 400000 in
theorem laidW (w0 : W0) (x : N) (S : St) : ACall Try.prog w0 61 [eT x] S (fun d S' => d = dB (decide (x.page ≠ 0)) ∧ S' = S) := by
  refine fnS [] mx Try.func61 rfl rfl (by kernel_rfl) ?_; simp (maxDischargeDepth := 12) (maxSteps := 1000000) -implicitDefEqProofs only [Try.ntmps61, go_sem, Nat.reduceAdd, Nat.reduceSub, Nat.reduceMul, Nat.reduceLeDiff, Nat.reduceEqDiff, Nat.reduceGT, Nat.reduceBEq, reduceCtorEq, ↓reduceIte, Int.reduceToNat, Int.reduceLE, Int.reduceLT, Int.reduceNe, Int.reduceEq]
set_option maxHeartbeats 400000 in
theorem neverW (w0 : W0) (x : N) (S : St) : ACall Try.prog w0 65 [eT x] S (fun d S' => d = dB false ∧ S' = S) := by
  refine fnS [] mx Try.func65 rfl rfl (by kernel_rfl) ?_; simp (maxDischargeDepth := 12) (maxSteps := 1000000) -implicitDefEqProofs only [Try.ntmps65, go_sem, Nat.reduceAdd, Nat.reduceSub, Nat.reduceMul, Nat.reduceLeDiff, Nat.reduceEqDiff, Nat.reduceGT, Nat.reduceBEq, reduceCtorEq, ↓reduceIte, Int.reduceToNat, Int.reduceLE, Int.reduceLT, Int.reduceNe, Int.reduceEq]
/-- What a cell of a leaf takes. -/
def fc1 (c : C) : Nat := if c.pages = [] then need (c.data.size : Int) else 0
def fcS (l : List C) : Nat := (l.map fc1).sum
/-- What a node takes, without those below. -/
def fr1 (x : N) : Nat := if x.page ≠ 0 then 0 else if x.leaf = true ∧ x.l = [] then 0 else 1 + fcS (if x.leaf then x.l else [])
theorem fcS_succ {l : List C} {k : Nat} {c : C} (h : l[k]? = some c) : fcS (l.take (k + 1)) = fcS (l.take k) + fc1 c := by
  unfold fcS
  rw [List.take_add_one, h]; simp
theorem fcS_take (l : List C) (k : Nat) : fcS (l.take k) ≤ fcS l := by
  have := congrArg fcS (List.take_append_drop k l)
  simp only [fcS, List.map_append, List.sum_append] at this ⊢
  omega
def frS (l : List N) : Nat := (l.map fr1).sum
theorem frS_snoc (l : List N) (x : N) : frS (l ++ [x]) = frS l + fr1 x := by simp [frS]
theorem frS_pre {l m : List N} (h : l <+: m) : frS l ≤ frS m := by
  obtain ⟨t, rfl⟩ := h
  simp [frS]
def laidB (x : N) : Bool := decide (x.page ≠ 0)
set_option maxHeartbeats 8000000 in
set_option maxHeartbeats 8000000 in
theorem freshP (w0 : W0) (n : N) (S : St) (hV : (visN laidB n).length ≤ 1048576) (hF : frS (visN laidB n) ≤ 1099511627776) (hl : ∀ x, x ∈ visN laidB n → x.l.length ≤ 1048576) :
    ACall Try.prog w0 30 [eT n] S (fun d S' => d = dI (frS (visN laidB n)) ∧ S' = S) := by
  refine fnS [] mx Try.func30 rfl rfl (by kernel_rfl) ?_; simp (maxDischargeDepth := 12) (maxSteps := 1000000) -implicitDefEqProofs only [Try.ntmps30, go_sem, Nat.reduceAdd, Nat.reduceSub, Nat.reduceMul, Nat.reduceLeDiff, Nat.reduceEqDiff, Nat.reduceGT, Nat.reduceBEq, reduceCtorEq, ↓reduceIte, Int.reduceToNat, Int.reduceLE, Int.reduceLT, Int.reduceNe, Int.reduceEq]
  intro b b1 b2
  refine useK (nodesW w0 n 61 _) ?_
  rintro d S' ⟨b3, b4, rfl, rfl⟩
  simp (maxDischargeDepth := 12) (maxSteps := 1000000) -implicitDefEqProofs only [go_sem, Nat.reduceAdd, Nat.reduceSub, Nat.reduceMul, Nat.reduceLeDiff, Nat.reduceEqDiff, Nat.reduceGT, Nat.reduceBEq, reduceCtorEq, ↓reduceIte, Int.reduceToNat, Int.reduceLE, Int.reduceLT, Int.reduceNe, Int.reduceEq]
  refine rangeK [11] (fun pre => ⟨(b4.n, [.v (.func (.func 61) #[] #[])]) :: (b3.n, cT n) :: (b2.n, [dI (frS pre)]) :: (b1.n, [.v (.func (.func 61) #[] #[])]) :: (b.n, cT n) :: S.box, S.acc⟩) (fun x => [eT x]) (visN laidB n) mx (by kernel_rfl) rfl rfl rfl (fun _ => rfl) (fun _ => rfl) (fun _ => rfl) ?_ ?_ ?_
  · intro l w1 hy T hT
    exact iterW w1 l b3.n b4.n n laidB 61 _ _ hV (Nat.le_refl _) (fun _ => by simp (maxDischargeDepth := 12) (maxSteps := 1000000) -implicitDefEqProofs only [go_sem, Nat.reduceAdd, Nat.reduceSub, Nat.reduceMul, Nat.reduceLeDiff, Nat.reduceEqDiff, Nat.reduceGT, Nat.reduceBEq, reduceCtorEq, ↓reduceIte, Int.reduceToNat, Int.reduceLE, Int.reduceLT, Int.reduceNe, Int.reduceEq]) (fun _ => by simp (maxDischargeDepth := 12) (maxSteps := 1000000) -implicitDefEqProofs only [go_sem, Nat.reduceAdd, Nat.reduceSub, Nat.reduceMul, Nat.reduceLeDiff, Nat.reduceEqDiff, Nat.reduceGT, Nat.reduceBEq, reduceCtorEq, ↓reduceIte, Int.reduceToNat, Int.reduceLE, Int.reduceLT, Int.reduceNe, Int.reduceEq]) (by simp only [go_sem]) (fun x T => laidW w1 x T) (fun _ => rfl) (fun _ => rfl) hy T hT
  · intro pre x T hp hT
    have t2 : lk T.box b2.n = some [dI (frS pre)] := hT.box _ _ (by simp (maxDischargeDepth := 12) (maxSteps := 1000000) -implicitDefEqProofs only [go_sem, Nat.reduceAdd, Nat.reduceSub, Nat.reduceMul, Nat.reduceLeDiff, Nat.reduceEqDiff, Nat.reduceGT, Nat.reduceBEq, reduceCtorEq, ↓reduceIte, Int.reduceToNat, Int.reduceLE, Int.reduceLT, Int.reduceNe, Int.reduceEq])
    have t1 : lk T.box b1.n = some [.v (.func (.func 61) #[] #[])] := hT.box _ _ (by simp (maxDischargeDepth := 12) (maxSteps := 1000000) -implicitDefEqProofs only [go_sem, Nat.reduceAdd, Nat.reduceSub, Nat.reduceMul, Nat.reduceLeDiff, Nat.reduceEqDiff, Nat.reduceGT, Nat.reduceBEq, reduceCtorEq, ↓reduceIte, Int.reduceToNat, Int.reduceLE, Int.reduceLT, Int.reduceNe, Int.reduceEq])
    simp only [setPs]
    simp (maxDischargeDepth := 12) (maxSteps := 1000000) -implicitDefEqProofs only [go_sem, Nat.reduceAdd, Nat.reduceSub, Nat.reduceMul, Nat.reduceLeDiff, Nat.reduceEqDiff, Nat.reduceGT, Nat.reduceBEq, reduceCtorEq, ↓reduceIte, Int.reduceToNat, Int.reduceLE, Int.reduceLT, Int.reduceNe, Int.reduceEq, t1, t2]
    intro b5
    refine use1 (laidW w0 x _) ?_
    have hfr := frS_snoc pre x
    have hfp := Nat.le_trans (frS_pre hp) hF
    have hxl := hl x (by obtain ⟨t, ht⟩ := hp; rw [← ht]; simp)
    have hb5 : ¬ b5.n = b2.n := fun e => by have := nin_lk b5.h; rw [e, t2] at this; cases this
    have h1 : fr1 x = if x.page ≠ 0 then 0 else if x.leaf = true ∧ x.l = [] then 0 else 1 + fcS (if x.leaf then x.l else []) := rfl
    have hH : ∀ v, v = (frS (pre ++ [x]) : Int) → Has _ ⟨up T.box b2.n [dI v], T.acc⟩ := fun v hv => by rw [hv]; exact Has_upd hT _
    have hu : ∀ v : Int, up ((b4.n, [.v (.func (.func 61) #[] #[])]) :: (b3.n, cT n) :: (b2.n, [dI (frS pre)]) :: (b1.n, [.v (.func (.func 61) #[] #[])]) :: (b.n, cT n) :: S.box) b2.n [dI v] = (b4.n, [.v (.func (.func 61) #[] #[])]) :: (b3.n, cT n) :: (b2.n, [dI v]) :: (b1.n, [.v (.func (.func 61) #[] #[])]) :: (b.n, cT n) :: S.box := fun v => by simp (maxDischargeDepth := 12) (maxSteps := 1000000) -implicitDefEqProofs only [go_sem, Nat.reduceAdd, Nat.reduceSub, Nat.reduceMul, Nat.reduceLeDiff, Nat.reduceEqDiff, Nat.reduceGT, Nat.reduceBEq, reduceCtorEq, ↓reduceIte, Int.reduceToNat, Int.reduceLE, Int.reduceLT, Int.reduceNe, Int.reduceEq]
    have hK : ∀ v, Kp ⟨(b4.n, [.v (.func (.func 61) #[] #[])]) :: (b3.n, cT n) :: (b2.n, [dI (frS pre)]) :: (b1.n, [.v (.func (.func 61) #[] #[])]) :: (b.n, cT n) :: S.box, S.acc⟩ T ⟨up T.box b2.n v, T.acc⟩ := fun v => Kp.up (by simp (maxDischargeDepth := 12) (maxSteps := 1000000) -implicitDefEqProofs only [go_sem, Nat.reduceAdd, Nat.reduceSub, Nat.reduceMul, Nat.reduceLeDiff, Nat.reduceEqDiff, Nat.reduceGT, Nat.reduceBEq, reduceCtorEq, ↓reduceIte, Int.reduceToNat, Int.reduceLE, Int.reduceLT, Int.reduceNe, Int.reduceEq])
    simp only [hu] at hH
    simp (maxDischargeDepth := 12) (maxSteps := 1000000) -implicitDefEqProofs only [go_sem, Nat.reduceAdd, Nat.reduceSub, Nat.reduceMul, Nat.reduceLeDiff, Nat.reduceEqDiff, Nat.reduceGT, Nat.reduceBEq, reduceCtorEq, ↓reduceIte, Int.reduceToNat, Int.reduceLE, Int.reduceLT, Int.reduceNe, Int.reduceEq, t1, t2]
    refine ⟨fun hp0 => ?_, fun hp0 => ⟨fun hlf => ⟨fun hl0 => ?_, fun hl0 => ?_⟩, fun hlf => ?_⟩⟩
    · rw [if_pos hp0] at h1
      rw [h1] at hfr
      rw [hfr]
      exact ⟨hT.consB b5 _ rfl, (Kp.refl _ _).consB b5 _ rfl⟩
    · have hl1 : x.l = [] := List.eq_nil_of_length_eq_zero (by omega)
      rw [if_neg hp0, if_pos ⟨hlf, hl1⟩] at h1
      rw [h1] at hfr
      rw [hfr]
      exact ⟨hT.consB b5 _ rfl, (Kp.refl _ _).consB b5 _ rfl⟩
    all_goals
      have hlL : (if x.leaf = true then x.l else []).length ≤ 1048576 := by split <;> first | exact hxl | exact Nat.zero_le _
      generalize hL : (if x.leaf = true then x.l else []) = L at *
      have h1 : fr1 x = 1 + fcS L := by
        rw [h1, if_neg hp0, if_neg (fun e => by simp_all)]
      refine loopN [11] L.length [3, 4, 11, 28, 29, 30] (fun k => [(30, dI k)]) (fun k => ⟨up T.box b2.n [dI ((frS pre + 1 + fcS (L.take k) : Nat) : Int)], T.acc⟩) (fun _ => True) mx (by kernel_rfl) ?_ ?_
      · simp (maxDischargeDepth := 12) (maxSteps := 1000000) -implicitDefEqProofs only [go_sem, Nat.reduceAdd, Nat.reduceSub, Nat.reduceMul, Nat.reduceLeDiff, Nat.reduceEqDiff, Nat.reduceGT, Nat.reduceBEq, reduceCtorEq, ↓reduceIte, Int.reduceToNat, Int.reduceLE, Int.reduceLT, Int.reduceNe, Int.reduceEq]
        refine .consB ?_
        rw [show IntKind.i64.wrap ((frS pre : Int) + 1) = ((frS pre + 1 + fcS [] : Nat) : Int) from by rw [w64 (by omega) (by omega)]; simp [fcS]]
        exact .refl _
      · intro k hk _
        have e2 : ∀ z : List DV, lk (up T.box b2.n z) b2.n = some z := fun z => by rw [lk_up_same, t2]; rfl
        have hle := fcS_take L k
        simp (maxDischargeDepth := 12) (maxSteps := 1000000) -implicitDefEqProofs only [go_sem, Nat.reduceAdd, Nat.reduceSub, Nat.reduceMul, Nat.reduceLeDiff, Nat.reduceEqDiff, Nat.reduceGT, Nat.reduceBEq, reduceCtorEq, ↓reduceIte, Int.reduceToNat, Int.reduceLE, Int.reduceLT, Int.reduceNe, Int.reduceEq, t1, t2]
        refine ⟨fun hlt => ⟨hlt, fun c hc b6 => ⟨fun hp0 => ?_, fun hp0 => ⟨hlt, by rw [w64 (by omega) (by omega)]; omega, .consB ?_⟩⟩⟩, fun hge => ?_⟩
        · have hne : ¬ b6.n = b2.n := fun e => by have := nin_lk b6.h; rw [e, e2] at this; cases this
          have hpl : c.pages = [] := List.eq_nil_of_length_eq_zero (by omega)
          refine lexK mx (by kernel_rfl) ?_
          simp (maxDischargeDepth := 12) (maxSteps := 1000000) -implicitDefEqProofs only [go_sem, Nat.reduceAdd, Nat.reduceSub, Nat.reduceMul, Nat.reduceLeDiff, Nat.reduceEqDiff, Nat.reduceGT, Nat.reduceBEq, reduceCtorEq, ↓reduceIte, Int.reduceToNat, Int.reduceLE, Int.reduceLT, Int.reduceNe, Int.reduceEq, e2, hne]
          refine useX (fun B hB => needP w0 _ _) ?_
          have hc1 : fc1 c = need (c.data.size : Int) := if_pos hpl
          have hs := fcS_succ hc
          have hle' := fcS_take L (k + 1)
          simp (maxDischargeDepth := 12) (maxSteps := 1000000) -implicitDefEqProofs only [go_sem, Nat.reduceAdd, Nat.reduceSub, Nat.reduceMul, Nat.reduceLeDiff, Nat.reduceEqDiff, Nat.reduceGT, Nat.reduceBEq, reduceCtorEq, ↓reduceIte, Int.reduceToNat, Int.reduceLE, Int.reduceLT, Int.reduceNe, Int.reduceEq, e2, hne, up_up]
          refine ⟨hlt, by rw [w64 (by omega) (by omega)]; omega, .consB ?_⟩
          rw [show IntKind.i64.wrap (((frS pre + 1 + fcS (L.take k) : Nat) : Int) + (need (c.data.size : Int) : Int)) = ((frS pre + 1 + fcS (L.take (k + 1)) : Nat) : Int) from by rw [w64 (by omega) (by omega)]; omega]
          exact .refl _
        · rw [fcS_succ hc, show fc1 c = 0 from if_neg fun e => by rw [e] at hp0; exact hp0 rfl]
          exact .refl _
        · have hkL : k = L.length := by omega
          rw [hkL, List.take_length]
          exact ⟨hH _ (by omega), hK _⟩
  · simp (maxDischargeDepth := 12) (maxSteps := 1000000) -implicitDefEqProofs only [go_sem, Nat.reduceAdd, Nat.reduceSub, Nat.reduceMul, Nat.reduceLeDiff, Nat.reduceEqDiff, Nat.reduceGT, Nat.reduceBEq, reduceCtorEq, ↓reduceIte, Int.reduceToNat, Int.reduceLE, Int.reduceLT, Int.reduceNe, Int.reduceEq]
/-- The pages of a node, without those below. -/
def pg1 (x : N) : List Int := (if x.page ≠ 0 then [x.page] else []) ++ (if x.leaf then x.l else []).flatMap C.pages
def pgS (l : List N) : List Int := l.flatMap pg1
theorem pgS_snoc (l : List N) (x : N) : pgS (l ++ [x]) = pgS l ++ pg1 x := by simp [pgS]
theorem pgS_pre {l m : List N} (h : l <+: m) : (pgS l).length ≤ (pgS m).length := by
  obtain ⟨t, rfl⟩ := h
  simp [pgS]
def noB (x : N) : Bool := false
set_option maxHeartbeats 8000000 in
theorem pagesP (w0 : W0) (n : N) (S : St) (hV : (visN noB n).length ≤ 1048576) (hF : (pgS (visN noB n)).length ≤ 1073741824) (hl : ∀ x, x ∈ visN noB n → x.l.length ≤ 1048576) :
    ACall Try.prog w0 33 [eT n] S (fun d S' => ∃ m : FN S.acc, d = .acc m.n (pgS (visN noB n)).length ∧ S' = ⟨S.box, (m.n, .arr 1 ((srt (pgS (visN noB n))).map dI)) :: S.acc⟩) := by
  refine fnP [] mx Try.func33 rfl rfl (by kernel_rfl) ?_; simp (maxDischargeDepth := 12) (maxSteps := 1000000) -implicitDefEqProofs only [Try.ntmps33, go_sem, Nat.reduceAdd, Nat.reduceSub, Nat.reduceMul, Nat.reduceLeDiff, Nat.reduceEqDiff, Nat.reduceGT, Nat.reduceBEq, reduceCtorEq, ↓reduceIte, Int.reduceToNat, Int.reduceLE, Int.reduceLT, Int.reduceNe, Int.reduceEq]
  intro b b1
  refine useK (nodesW w0 n 65 _) ?_
  rintro d S' ⟨b3, b4, rfl, rfl⟩
  simp (maxDischargeDepth := 12) (maxSteps := 1000000) -implicitDefEqProofs only [go_sem, Nat.reduceAdd, Nat.reduceSub, Nat.reduceMul, Nat.reduceLeDiff, Nat.reduceEqDiff, Nat.reduceGT, Nat.reduceBEq, reduceCtorEq, ↓reduceIte, Int.reduceToNat, Int.reduceLE, Int.reduceLT, Int.reduceNe, Int.reduceEq]
  refine awp_growB b1.n 0 1 (by omega) (ds := [.sl 0 true []]) (by simp (maxDischargeDepth := 12) (maxSteps := 1000000) -implicitDefEqProofs only [go_sem, Nat.reduceAdd, Nat.reduceSub, Nat.reduceMul, Nat.reduceLeDiff, Nat.reduceEqDiff, Nat.reduceGT, Nat.reduceBEq, reduceCtorEq, ↓reduceIte, Int.reduceToNat, Int.reduceLE, Int.reduceLT, Int.reduceNe, Int.reduceEq]) rfl fun lb => ?_
  simp (maxDischargeDepth := 12) (maxSteps := 1000000) -implicitDefEqProofs only [go_sem, Nat.reduceAdd, Nat.reduceSub, Nat.reduceMul, Nat.reduceLeDiff, Nat.reduceEqDiff, Nat.reduceGT, Nat.reduceBEq, reduceCtorEq, ↓reduceIte, Int.reduceToNat, Int.reduceLE, Int.reduceLT, Int.reduceNe, Int.reduceEq]
  refine rangeK [] (fun pre => ⟨(b4.n, [.v (.func (.func 65) #[] #[])]) :: (b3.n, cT n) :: (b1.n, [.acc lb.n (pgS pre).length]) :: (b.n, cT n) :: S.box, (lb.n, .arr 1 ((pgS pre).map dI)) :: S.acc⟩) (fun x => [eT x]) (visN noB n) mx (by kernel_rfl) rfl rfl rfl (fun _ => rfl) (fun _ => rfl) (fun _ => rfl) ?_ ?_ ?_
  · intro l w1 hy T hT
    exact iterW w1 l b3.n b4.n n noB 65 _ _ hV (Nat.le_refl _) (fun _ => by simp (maxDischargeDepth := 12) (maxSteps := 1000000) -implicitDefEqProofs only [go_sem, Nat.reduceAdd, Nat.reduceSub, Nat.reduceMul, Nat.reduceLeDiff, Nat.reduceEqDiff, Nat.reduceGT, Nat.reduceBEq, reduceCtorEq, ↓reduceIte, Int.reduceToNat, Int.reduceLE, Int.reduceLT, Int.reduceNe, Int.reduceEq]) (fun _ => by simp (maxDischargeDepth := 12) (maxSteps := 1000000) -implicitDefEqProofs only [go_sem, Nat.reduceAdd, Nat.reduceSub, Nat.reduceMul, Nat.reduceLeDiff, Nat.reduceEqDiff, Nat.reduceGT, Nat.reduceBEq, reduceCtorEq, ↓reduceIte, Int.reduceToNat, Int.reduceLE, Int.reduceLT, Int.reduceNe, Int.reduceEq]) (by simp only [go_sem]) (fun x T => neverW w1 x T) (fun _ => rfl) (fun _ => rfl) hy T hT
  · intro pre x T hp hT
    have t1 : lk T.box b1.n = some [.acc lb.n (pgS pre).length] := hT.box _ _ (by simp (maxDischargeDepth := 12) (maxSteps := 1000000) -implicitDefEqProofs only [go_sem, Nat.reduceAdd, Nat.reduceSub, Nat.reduceMul, Nat.reduceLeDiff, Nat.reduceEqDiff, Nat.reduceGT, Nat.reduceBEq, reduceCtorEq, ↓reduceIte, Int.reduceToNat, Int.reduceLE, Int.reduceLT, Int.reduceNe, Int.reduceEq])
    have u1 : lk T.acc lb.n = some (.arr 1 ((pgS pre).map dI)) := hT.acc _ _ (by simp (maxDischargeDepth := 12) (maxSteps := 1000000) -implicitDefEqProofs only [go_sem, Nat.reduceAdd, Nat.reduceSub, Nat.reduceMul, Nat.reduceLeDiff, Nat.reduceEqDiff, Nat.reduceGT, Nat.reduceBEq, reduceCtorEq, ↓reduceIte, Int.reduceToNat, Int.reduceLE, Int.reduceLT, Int.reduceNe, Int.reduceEq])
    have hxl := hl x (by obtain ⟨t, ht⟩ := hp; rw [← ht]; simp)
    have hpl := Nat.le_trans (pgS_pre hp) hF
    rw [pgS_snoc] at hpl
    have h1 : pg1 x = (if x.page ≠ 0 then [x.page] else []) ++ (if x.leaf then x.l else []).flatMap C.pages := rfl
    rw [List.length_append] at hpl
    have hH : ∀ l : List Int, l = pgS (pre ++ [x]) → Has _ ⟨up T.box b1.n [.acc lb.n l.length], up T.acc lb.n (.arr 1 (l.map dI))⟩ := fun v hv => by rw [hv]; exact Has_upd2 hT _ _
    have hu : ∀ (l : List Int), (⟨up ((b4.n, [.v (.func (.func 65) #[] #[])]) :: (b3.n, cT n) :: (b1.n, [.acc lb.n (pgS pre).length]) :: (b.n, cT n) :: S.box) b1.n [.acc lb.n l.length], up ((lb.n, .arr 1 ((pgS pre).map dI)) :: S.acc) lb.n (.arr 1 (l.map dI))⟩ : St) = ⟨(b4.n, [.v (.func (.func 65) #[] #[])]) :: (b3.n, cT n) :: (b1.n, [.acc lb.n l.length]) :: (b.n, cT n) :: S.box, (lb.n, .arr 1 (l.map dI)) :: S.acc⟩ := fun v => by simp (maxDischargeDepth := 12) (maxSteps := 1000000) -implicitDefEqProofs only [go_sem, Nat.reduceAdd, Nat.reduceSub, Nat.reduceMul, Nat.reduceLeDiff, Nat.reduceEqDiff, Nat.reduceGT, Nat.reduceBEq, reduceCtorEq, ↓reduceIte, Int.reduceToNat, Int.reduceLE, Int.reduceLT, Int.reduceNe, Int.reduceEq]
    have hK : ∀ v o, Kp ⟨(b4.n, [.v (.func (.func 65) #[] #[])]) :: (b3.n, cT n) :: (b1.n, [.acc lb.n (pgS pre).length]) :: (b.n, cT n) :: S.box, (lb.n, .arr 1 ((pgS pre).map dI)) :: S.acc⟩ T ⟨up T.box b1.n v, up T.acc lb.n o⟩ := fun v o => Kp_up2 (by simp (maxDischargeDepth := 12) (maxSteps := 1000000) -implicitDefEqProofs only [go_sem, Nat.reduceAdd, Nat.reduceSub, Nat.reduceMul, Nat.reduceLeDiff, Nat.reduceEqDiff, Nat.reduceGT, Nat.reduceBEq, reduceCtorEq, ↓reduceIte, Int.reduceToNat, Int.reduceLE, Int.reduceLT, Int.reduceNe, Int.reduceEq]) (by simp (maxDischargeDepth := 12) (maxSteps := 1000000) -implicitDefEqProofs only [go_sem, Nat.reduceAdd, Nat.reduceSub, Nat.reduceMul, Nat.reduceLeDiff, Nat.reduceEqDiff, Nat.reduceGT, Nat.reduceBEq, reduceCtorEq, ↓reduceIte, Int.reduceToNat, Int.reduceLE, Int.reduceLT, Int.reduceNe, Int.reduceEq])
    simp only [hu] at hH
    simp only [setPs]
    simp (maxDischargeDepth := 12) (maxSteps := 1000000) -implicitDefEqProofs only [go_sem, Nat.reduceAdd, Nat.reduceSub, Nat.reduceMul, Nat.reduceLeDiff, Nat.reduceEqDiff, Nat.reduceGT, Nat.reduceBEq, reduceCtorEq, ↓reduceIte, Int.reduceToNat, Int.reduceLE, Int.reduceLT, Int.reduceNe, Int.reduceEq, t1, u1]
    intro b5
    have hb5 : ¬ b5.n = b1.n := fun e => by have := nin_lk b5.h; rw [e, t1] at this; cases this
    have hm8 : maxLen = 9223372036854775807 := rfl
    refine ⟨fun hp0 => ⟨by omega, by omega, ?_⟩, fun hp0 => ?_⟩
    all_goals
      have hlL : (if x.leaf = true then x.l else []).length ≤ 1048576 := by split <;> first | exact hxl | exact Nat.zero_le _
      generalize hL : (if x.leaf = true then x.l else []) = L at *
      obtain ⟨P0, hP0⟩ : ∃ P0, P0 = pgS pre ++ (if x.page ≠ 0 then [x.page] else []) := ⟨_, rfl⟩
      have hx : pgS (pre ++ [x]) = P0 ++ L.flatMap C.pages := by rw [pgS_snoc, h1, hP0, List.append_assoc]
      have hxlen : P0.length + (L.flatMap C.pages).length ≤ 1073741824 := by
        rw [h1] at hpl
        rw [hP0]
        simp only [List.length_append] at hpl ⊢
        omega
      have htk : ∀ k, ((L.take k).flatMap C.pages).length ≤ (L.flatMap C.pages).length := fun k => by
        have := congrArg (List.flatMap C.pages) (List.take_append_drop k L)
        have := congrArg List.length this
        simp only [List.flatMap_append, List.length_append] at this
        omega
      refine loopN [] L.length [3, 9, 19, 20, 21] (fun k => [(21, dI k)]) (fun k => ⟨up T.box b1.n [.acc lb.n (P0 ++ (L.take k).flatMap C.pages).length], up T.acc lb.n (.arr 1 ((P0 ++ (L.take k).flatMap C.pages).map dI))⟩) (fun _ => True) mx (by kernel_rfl) ?_ ?_
      · simp (maxDischargeDepth := 12) (maxSteps := 1000000) -implicitDefEqProofs only [go_sem, Nat.reduceAdd, Nat.reduceSub, Nat.reduceMul, Nat.reduceLeDiff, Nat.reduceEqDiff, Nat.reduceGT, Nat.reduceBEq, reduceCtorEq, ↓reduceIte, Int.reduceToNat, Int.reduceLE, Int.reduceLT, Int.reduceNe, Int.reduceEq]
        refine .consB ?_
        first
          | (rw [if_pos (show x.page ≠ 0 from hp0)] at hP0
             subst hP0
             simp only [List.flatMap_nil, List.length_append, List.length_cons, List.length_nil, Nat.add_zero, Nat.zero_add, List.append_nil, List.map_append, List.map_cons, List.map_nil]
             exact .refl _)
          | (rw [if_neg (show ¬ x.page ≠ 0 from hp0), List.append_nil] at hP0
             subst hP0
             simp only [List.flatMap_nil, List.length_nil, Nat.add_zero, List.append_nil]
             rw [up_same t1, up_same u1]
             exact .refl _)
      · intro k hk _
        have e2 : ∀ z : List DV, lk (up T.box b1.n z) b1.n = some z := fun z => by rw [lk_up_same, t1]; rfl
        have e3 : ∀ z : Ob, lk (up T.acc lb.n z) lb.n = some z := fun z => by rw [lk_up_same, u1]; rfl
        have htk0 := htk k
        have htk1 := htk (k + 1)
        have hsu : ∀ {c : C}, L[k]? = some c → (L.take (k + 1)).flatMap C.pages = (L.take k).flatMap C.pages ++ c.pages := fun {c} hc => by rw [List.take_add_one, hc]; simp
        simp (maxDischargeDepth := 12) (maxSteps := 1000000) -implicitDefEqProofs only [go_sem, Nat.reduceAdd, Nat.reduceSub, Nat.reduceMul, Nat.reduceLeDiff, Nat.reduceEqDiff, Nat.reduceGT, Nat.reduceBEq, reduceCtorEq, ↓reduceIte, Int.reduceToNat, Int.reduceLE, Int.reduceLT, Int.reduceNe, Int.reduceEq, e2, e3, up_up]
        refine ⟨fun hlt => ⟨hlt, fun c hc b6 => ?_⟩, fun hge => ?_⟩
        · have hs := hsu hc
          have hs2 := congrArg List.length hs
          rw [List.length_append] at hs2
          refine ⟨by omega, by omega, hlt, by rw [w64 (by omega) (by omega)]; omega, .consB ?_⟩
          rw [hs]
          simp only [List.length_append, Nat.add_assoc, List.append_assoc]
          exact .refl _
        · have hkL : k = L.length := by omega
          rw [hkL, List.take_length]
          rw [hkL, List.take_length] at htk0
          have hxl2 := congrArg List.length hx
          rw [List.length_append] at hxl2
          refine ⟨?_, hK _ _⟩
          have := hH (P0 ++ L.flatMap C.pages) hx.symm
          rw [List.length_append] at this
          exact this
  · simp (maxDischargeDepth := 12) (maxSteps := 1000000) -implicitDefEqProofs only [go_sem, Nat.reduceAdd, Nat.reduceSub, Nat.reduceMul, Nat.reduceLeDiff, Nat.reduceEqDiff, Nat.reduceGT, Nat.reduceBEq, reduceCtorEq, ↓reduceIte, Int.reduceToNat, Int.reduceLE, Int.reduceLT, Int.reduceNe, Int.reduceEq]
    refine .inl ?_
    refine useK (sort_int w0 (S := ⟨_, (lb.n, .arr 1 ((pgS (visN noB n)).map dI)) :: S.acc⟩) (l := lb.n) (zs := pgS (visN noB n)) (by simp (maxDischargeDepth := 12) (maxSteps := 1000000) -implicitDefEqProofs only [go_sem, Nat.reduceAdd, Nat.reduceSub, Nat.reduceMul, Nat.reduceLeDiff, Nat.reduceEqDiff, Nat.reduceGT, Nat.reduceBEq, reduceCtorEq, ↓reduceIte, Int.reduceToNat, Int.reduceLE, Int.reduceLT, Int.reduceNe, Int.reduceEq]) (by omega)) ?_
    rintro d S' ⟨rfl, rfl⟩
    simp (maxDischargeDepth := 12) (maxSteps := 1000000) -implicitDefEqProofs only [go_sem, Nat.reduceAdd, Nat.reduceSub, Nat.reduceMul, Nat.reduceLeDiff, Nat.reduceEqDiff, Nat.reduceGT, Nat.reduceBEq, reduceCtorEq, ↓reduceIte, Int.reduceToNat, Int.reduceLE, Int.reduceLT, Int.reduceNe, Int.reduceEq]
    exact ⟨_, _, .refl _, .consB (.consB (.consB (.consB (.refl _)))), lb, rfl, rfl⟩
end Go.Proofs.Ytkibkahknibgfaa

namespace Aml
open Go Go.RowKit
set_option linter.unusedVariables false
set_option linter.unusedSimpArgs false
section
variable {P : Program} {w0 : W0}
theorem clear_ok {g : Gh} {S : St} {w : World} (h1 : Rel w0 g S w) {l : Nat} {xs : List DV} (hl : lk S.acc l = some (.arr 1 xs)) {b c : Nat} (hval : g.acc l xs.length = some (.slice (some ⟨b, 0, none⟩) xs.length c)) {k : Nat} (hk : k < xs.length)
    {t e ty : TypeId} {z : Value} (hu : P.underlying t = some (.slice e)) (hv : ∀ w, (zeroValue e).run P w = .ok z w) (hz : z.cells = #[z]) (hz1 : z.oneCell' = true) {zd : DV} (hrz : Rep g zd z) (c' : Nat) :
    ∃ w', (Builtin.clear_ #[t] ty #[.slice (some ⟨b, k, none⟩) (xs.length - k) c']).run P w = .ok (.tuple #[]) w' ∧ Rel w0 g ⟨S.box, up S.acc l (.arr 1 (xs.take k ++ List.replicate (xs.length - k) zd))⟩ w' := by
  obtain ⟨ow, hO⟩ := h1.open_
  obtain ⟨hs, ⟨he, o2, ha⟩ | ⟨b', c0, cs, e0, q1, q2, q3, q4, q5, q6, q7, q8, us, q9, q10, q11, q12⟩⟩ := hO.acc l _ (lk_mem hl)
  · rw [he] at hk; simp at hk
  have hval' := hval
  rw [q1] at hval'
  simp only [Option.some.injEq, Value.slice.injEq, Addr.mk.injEq, true_and, and_true] at hval'
  obtain ⟨rfl, rfl⟩ := hval'
  have hzc : (Builtin.zeroCells z.cells (xs.length - k)).toList = List.replicate (xs.length - k) z := by
    rw [hz]
    simp [Builtin.zeroCells]
    apply List.ext_getElem
    · simp
    · intro i h1 h2
      simp [Nat.mod_one]
  obtain ⟨m, hm⟩ : ∃ m, m + 1 = xs.length - k := ⟨xs.length - k - 1, by omega⟩
  have hul : us.length = xs.length := q9.len.symm
  have hst := run_storeCells_at (P := P) b' k e0 (List.replicate (xs.length - k) z) 0 cs w q5 (by simp; omega) (fun u hu => by rw [List.eq_of_mem_replicate hu]; exact hz1)
  have hle2 : k + (List.replicate (xs.length - k) z).length ≤ cs.toList.length := by simp; omega
  refine ⟨w.setRow b' (setAllV cs.toList k (List.replicate (xs.length - k) z)).toArray, ?_, ?_⟩
  · rw [setAllV_eq _ _ _ hle2]
    simp only [Nat.add_zero] at hst
    rw [← hm] at hst hzc ⊢
    simp [Builtin.clear_, run_underlying hu, hv, hzc, hst]
  · have hxs : (xs.take k ++ List.replicate (xs.length - k) zd).length = xs.length := by simp; omega
    refine h1.rearr (ys := xs.take k ++ List.replicate (xs.length - k) zd) (us := us.take k ++ List.replicate (xs.length - k) z) (b := b') (c := c0) (e := e0) (cs := (setAllV cs.toList k (List.replicate (xs.length - k) z)).toArray) hl hval hxs (by omega) ?_ ?_ ?_ ?_ ?_ ?_ ?_ ?_ ?_
    · exact setRow_heap w b' cs _ e0 (0, 0) q5
    · rw [List.size_toArray, setAllV_eq _ _ _ hle2]
      simp only [List.length_append, List.length_take, List.length_drop, Array.length_toList]
      simp only [Array.length_toList] at hle2
      rw [← q6]; omega
    · exact h1.below.step ⟨rfl, rfl, rfl, by simp, fun k hk => setRow_other w b' k _ (by omega)⟩ b' (nc_cells q5) fun k _ hne => setRow_other w b' k _ hne
    · simp
    · intro k _ hkb; exact setRow_other w b' k _ hkb
    · refine RepL.append ?_ ?_
      · exact ⟨by simp [hul], fun i d u a1 a2 => by
          rw [List.getElem?_take] at a1 a2
          split at a1
          · rename_i hlt; rw [if_pos hlt] at a2; exact q9.at_ i d u a1 a2
          · cases a1⟩
      · exact ⟨by simp, fun i d u a1 a2 => by
          rw [List.getElem?_replicate] at a1 a2
          split at a1
          · rename_i hlt; rw [if_pos hlt] at a2; cases a1; cases a2; exact hrz
          · cases a1⟩
    · intro j u hj
      rcases List.mem_append.1 (List.mem_of_getElem? hj) with hu | hu
      · obtain ⟨i, hi⟩ := List.mem_iff_getElem?.1 (List.mem_of_mem_take hu)
        exact q10 i u hi
      · rw [List.eq_of_mem_replicate hu, hz]; rfl
    · intro u hu x hx
      rcases List.mem_append.1 hu with hu | hu
      · exact q11 u (List.mem_of_mem_take hu) x hx
      · rw [List.eq_of_mem_replicate hu, hz] at hx
        simp only [List.mem_singleton] at hx
        subst hx; exact hz1
    · intro i u j x hi2 hj
      rw [List.getElem?_toArray, get_setAllV hle2]
      rcases Nat.lt_or_ge i k with hik | hik
      · rw [List.getElem?_append_left (by simp; omega), List.getElem?_take, if_pos hik] at hi2
        have hjs : j < 1 := by rw [← q10 i u hi2]; exact (Array.getElem?_eq_some_iff.1 hj).1
        rw [if_neg (by simp; omega)]
        simpa using q12 i u j x hi2 hj
      · have hlk : (us.take k).length = k := by simp; omega
        rw [List.getElem?_append_right (by omega), hlk, List.getElem?_replicate] at hi2
        split at hi2
        · rename_i hlt
          cases hi2
          rw [hz] at hj
          have hj0 : j = 0 := by
            have := (Array.getElem?_eq_some_iff.1 hj).1
            simp at this; omega
          subst hj0
          rw [if_pos (by simp; omega), List.getElem?_replicate, if_pos (by omega)]
          simpa using hj
        · cases hi2
/-- 'clear(s[k:])' of a growing slice. -/
theorem clearR {id : Nat} {i p q r j : Nat} {t t1 t2 t3 t4 : TypeId} {s1 s2 s3 s4 : String} {a1 a2 a3 a4 : Array Edge} {fr : List DV} {S : St} {Q : Exit → List DV → St → Prop} {l k : Nat} {xs : List DV} {kk : IntKind} {e by' : Nat} {zd : Value}
    (hk : tk P t = .sl e 1 by' true) (hz : zD P e = .v zd) (hi : fr[i]? = some (.acc l xs.length)) (hj : fr[j]? = some (.v (.int kk k))) (hl : lk S.acc l = some (.arr 1 xs)) (hkx : k < xs.length)
    (hs : (decide (j ≠ i) && decide (j ≠ p) && decide (q ≠ p) && decide (i ≠ p) && decide (i ≠ q) && decide (i ≠ r)) = true) (hp : p < fr.length) (hq : q < fr.length) (hr : r < fr.length)
    (h : ∀ v u, Q .normal (((((fr.set i (.v v)).set p (.v v)).set q (.v (.int kk k))).set r (.v u)).set i (.acc l xs.length)) ⟨S.box, up S.acc l (.arr 1 (xs.take k ++ List.replicate (xs.length - k) (.v zd)))⟩) :
    AWp P w0 (.region id #[⟨some p, .move (.tmp i), t1, s1, a1, none⟩, ⟨some q, .move (.tmp j), t2, s2, a2, none⟩, ⟨some r, .slice t (.tmp p) (some (.tmp q)) none none, t3, s3, a3, none⟩, ⟨none, .call ⟨.builtin .clear, #[.tmp r], #[t]⟩, t4, s4, a4, none⟩] false) fr S Q := by
  simp only [Bool.and_eq_true, decide_eq_true_eq] at hs
  obtain ⟨⟨⟨⟨⟨n1, n2⟩, n3⟩, n4⟩, n5⟩, n6⟩ := hs
  intro g a w h1 h2 h3
  have hilt : i < fr.length := (List.getElem?_eq_some_iff.1 hi).1
  have hjlt : j < fr.length := (List.getElem?_eq_some_iff.1 hj).1
  have hlen : fr.length = a.tmps.toList.length := h2.len
  have hri := h2.at_ i _ _ hi (List.getElem?_eq_getElem (by omega))
  obtain ⟨v, hv⟩ : ∃ v, v = a.tmps.toList[i]'(by omega) := ⟨_, rfl⟩
  rw [← hv] at hri
  obtain ⟨b, c, hval, hve⟩ : ∃ b c, g.acc l xs.length = some (.slice (some ⟨b, 0, none⟩) xs.length c) ∧ v = .slice (some ⟨b, 0, none⟩) xs.length c ∧ xs.length ≤ c := by
    obtain ⟨ow, hO⟩ := h1.open_
    obtain ⟨hs, ⟨he, o2, ha⟩ | ⟨b', c0, cs, e0, q1, q2, q3, q4, q5, q6, q7, q8, us, q9, q10, q11, q12⟩⟩ := hO.acc l _ (lk_mem hl)
    · rw [he] at hkx; simp at hkx
    · refine ⟨b', c0, q1, ?_, q7⟩
      cases hri with
      | acc _ _ o c h => rw [q1] at h; exact (Option.some.inj h).symm
  obtain ⟨hve, hnc⟩ := hve
  let w1 : W0 := ⟨w0.w, g⟩
  have hsub : ∀ (g : Gh), g.sub g := fun g => ⟨fun _ _ _ h => h, fun _ _ _ h => h, fun _ _ h => h⟩
  have R1 : Rel w1 g S w := h1.withObj (w0' := w1) (ob := g.obj) rfl h1.below.obj (hsub g)
  have ho : v.oneCell' = true := by rw [hve]; rfl
  have h2' : RepL g (fr.set i (.v v)) a.tmps.toList := repL_same h2 (by rw [hv]; exact List.getElem?_eq_getElem (by omega)) (.v _ ho)
  obtain ⟨hu, hss, _, hei⟩ := tk_sl hk
  obtain ⟨ti, z, hii, hzz, hzs, hpos⟩ := okEl_spec hei
  have hsz : ti.size = 1 := by simpa [Program.cellsOf, hii] using hss
  have hzD : zD P e = cv z := by simp [zD, hii, hzz]
  have hzv : z = zd := by
    have hr := rep_cv g z
    rw [← hzD, hz] at hr
    exact rep_v hr
  have hz1 : zd.oneCell' = true ∧ zd.cells = #[zd] := by
    have hr := rep_cv g z
    rw [← hzD, hz] at hr
    have hone := hr.one rfl
    rw [← hzv]
    rw [hsz] at hzs
    cases hr with
    | v _ h => rw [hzv]; exact ⟨h, by cases zd <;> first | rfl | cases h⟩
  have hrun := fun (w : World) => (show (zeroValue e).run P w = .ok zd w by simp [zeroValue, typeInfo, hii, hzz, hzv])
  have hsize : ∀ w, (Go.sizeOf e).run P w = .ok 1 w := fun w => by simp [Go.sizeOf, typeInfo, hii, hsz]
  -- the walk
  have g1 : (fr.set i (.v v)).getD i ud = .v v := by simp [List.getD_eq_getElem?_getD, hilt]
  have g2 : ((fr.set i (.v v)).set p (.v v)).getD j ud = .v (.int kk k) := by
    rw [List.getD_eq_getElem?_getD, List.getElem?_set_ne (fun e => n2 e.symm), List.getElem?_set_ne (fun e => n1 e.symm), hj]; rfl
  have g3 : (((fr.set i (.v v)).set p (.v v)).set q (.v (.int kk k))).getD p ud = .v v := by
    rw [List.getD_eq_getElem?_getD, List.getElem?_set_ne n3, List.getElem?_set_self (by simpa using hp)]; rfl
  have g4 : (((fr.set i (.v v)).set p (.v v)).set q (.v (.int kk k))).getD q ud = .v (.int kk k) := by
    rw [List.getD_eq_getElem?_getD, List.getElem?_set_self (by simpa using hq)]; rfl
  have g5 : ∀ x, ((((fr.set i (.v v)).set p (.v v)).set q (.v (.int kk k))).set r x).getD r ud = x := fun x => by
    rw [List.getD_eq_getElem?_getD, List.getElem?_set_self (by simpa using hr)]; rfl
  have L : ∀ ops : Array Oper, LWp P w1 ops (fun fr' S' => fr'[i]? = some (.v v) ∧ Q .normal (fr'.set i (.acc l xs.length)) S') [⟨some p, .move (.tmp i), t1, s1, a1, none⟩, ⟨some q, .move (.tmp j), t2, s2, a2, none⟩, ⟨some r, .slice t (.tmp p) (some (.tmp q)) none none, t3, s3, a3, none⟩, ⟨none, .call ⟨.builtin .clear, #[.tmp r], #[t]⟩, t4, s4, a4, none⟩] (fr.set i (.v v)) S := by
    intro ops
    refine y_move (P := P) rfl ?_
    show LWp P w1 ops _ _ ((fr.set i (.v v)).set p ((fr.set i (.v v)).getD i ud)) S
    rw [g1]
    refine y_move (P := P) rfl ?_
    show LWp P w1 ops _ _ (((fr.set i (.v v)).set p (.v v)).set q (((fr.set i (.v v)).set p (.v v)).getD j ud)) S
    rw [g2]
    show YieldsE P w1 _ _ S _
    intro ga wa ρ ra rb rc
    have hx := rb (.tmp p) (by simp [Op.operands])
    have hy := rb (.tmp q) (by simp [Op.operands])
    change Rep ga ((((fr.set i (.v v)).set p (.v v)).set q (.v (.int kk k))).getD p ud) _ at hx
    change Rep ga ((((fr.set i (.v v)).set p (.v v)).set q (.v (.int kk k))).getD q ud) _ at hy
    rw [g3] at hx
    rw [g4] at hy
    have hx := rep_v hx
    have hy := rep_v hy
    have hb : (Instr.sliceBounds true xs.length c (some (.int kk (k : Int))) none none).run P wa = .ok (k, xs.length, c) wa := by
      have : (Instr.sliceBound (.int kk (k : Int)) xs.length .sliceB).run P wa = .ok k wa := by
        have := run_bound (P := P) (k := kk) (i := (k : Int)) (y := xs.length) (code := .sliceB) (w := wa) (by omega) (by omega)
        simpa using this
      simp [Instr.sliceBounds, this]
    have hck : ¬ c = k := by omega
    have hrun3 : (execOp ρ ⟨some r, .slice t (.tmp p) (some (.tmp q)) none none, t3, s3, a3, none⟩).run P wa = .ok (.value (.slice (some ⟨b, k, none⟩) (xs.length - k) (c - k))) wa := by
      simp [execOp, hx, hve, Instr.sliceAt, Instr.slice, run_underlying hu, hy, hb, hsize, hck, Addr.add] <;> omega
    rw [hrun3]
    refine ⟨ga, .v (.slice (some ⟨b, k, none⟩) (xs.length - k) (c - k)), S, .refl ga, ra, .v _ rfl, ?_⟩
    show YieldsE P w1 _ _ S _
    intro gb wb ρ2 ra2 rb2 rc2
    have hx2 := rb2 (.tmp r) (by simp [Op.operands, Call.operands])
    change Rep gb (((((fr.set i (.v v)).set p (.v v)).set q (.v (.int kk k))).set r _).getD r ud) _ at hx2
    rw [g5] at hx2
    have hx2 := rep_v hx2
    obtain ⟨w', e1, e2⟩ := clear_ok (P := P) (ty := t4) ra2 hl (ra2.below.req.acc _ _ _ hval) hkx hu hrun hz1.2 hz1.1 (zd := .v zd) (.v _ hz1.1) (c - k)
    have hrun4 : (execOp ρ2 ⟨none, .call ⟨.builtin .clear, #[.tmp r], #[t]⟩, t4, s4, a4, none⟩).run P wb = .ok (.value (.tuple #[])) w' := by
      simp [execOp, resolve, invoke, builtin, hx2, e1]
    rw [hrun4]
    refine ⟨gb, .any, _, .refl gb, e2, .any _, ?_, h _ _⟩
    show (((((fr.set i (.v v)).set p (.v v)).set q (.v (.int kk k))).set r _)[i]? : Option DV) = _
    rw [List.getElem?_set_ne (fun e => n6 e.symm), List.getElem?_set_ne (fun e => n5 e.symm), List.getElem?_set_ne (fun e => n4 e.symm), List.getElem?_set_self hilt]
  refine wpA_mono (wpA_region_lit fun ro => lwp_sound (w0 := w1) (Q := fun e fr' S' => fr'[i]? = some (.v v) ∧ Q e (fr'.set i (.acc l xs.length)) S') _ _ S g a w (.refl g) R1 h2' h3 (L _)) ?_
  rintro e' a' w' ⟨hd, g', fr', S', k1, k2, k3, k5, k4⟩
  have hb0 : w0.gh.sub g' := ⟨fun _ _ _ h => k2.below.req.imm _ _ _ (h1.below.req.imm _ _ _ h), fun _ _ _ h => k2.below.req.acc _ _ _ (h1.below.req.acc _ _ _ h), fun _ _ h => k2.below.req.obj _ _ (h1.below.req.obj _ _ h)⟩
  refine ⟨hd, g', fr'.set i (.acc l xs.length), S', k1, k2.withObj (w0' := w0) (ob := g'.obj) rfl k2.below.obj hb0, ?_, k4⟩
  have hlt' : i < a'.tmps.toList.length := by rw [← k3.len]; exact (List.getElem?_eq_some_iff.1 k5).1
  have hu' := List.getElem?_eq_getElem hlt'
  have hvi := rep_v (k3.at_ i _ _ k5 hu')
  refine repL_same k3 hu' ?_
  rw [hvi, hve]
  exact .acc _ _ _ _ (k1.acc _ _ _ hval)
end
end Aml

namespace Go.Proofs.Ytkibkahknibgfaa
open Aml Go
set_option linter.unusedVariables false
set_option linter.unusedSimpArgs false
set_option maxRecDepth 100000

set_option maxHeartbeats 400000 in
theorem nanC (w0 : W0) (a : Int) (S : St) : ACall Try.prog w0 112 [dI a] S (fun d S' => d = dB false ∧ S' = S) := by
  refine fnS [] mx Try.func112 rfl rfl (by kernel_rfl) ?_; simp (maxDischargeDepth := 12) (maxSteps := 1000000) -implicitDefEqProofs only [Try.ntmps112, go_sem, Nat.reduceAdd, Nat.reduceSub, Nat.reduceMul, Nat.reduceLeDiff, Nat.reduceEqDiff, Nat.reduceGT, Nat.reduceBEq, reduceCtorEq, ↓reduceIte, Int.reduceToNat, Int.reduceLE, Int.reduceLT, Int.reduceNe, Int.reduceEq]
set_option maxHeartbeats 400000 in
theorem nanS (w0 : W0) (a : Int) (S : St) : ACall Try.prog w0 92 [dI a] S (fun d S' => d = dB false ∧ S' = S) := by
  refine fnS [] mx Try.func92 rfl rfl (by kernel_rfl) ?_; simp (maxDischargeDepth := 12) (maxSteps := 1000000) -implicitDefEqProofs only [Try.ntmps92, go_sem, Nat.reduceAdd, Nat.reduceSub, Nat.reduceMul, Nat.reduceLeDiff, Nat.reduceEqDiff, Nat.reduceGT, Nat.reduceBEq, reduceCtorEq, ↓reduceIte, Int.reduceToNat, Int.reduceLE, Int.reduceLT, Int.reduceNe, Int.reduceEq]
set_option maxHeartbeats 400000 in
theorem lessC (w0 : W0) (a b : Int) (S : St) : ACall Try.prog w0 91 [dI a, dI b] S (fun d S' => d = dB (decide (a < b)) ∧ S' = S) := by
  refine fnS [] mx Try.func91 rfl rfl (by kernel_rfl) ?_; simp (maxDischargeDepth := 12) (maxSteps := 1000000) -implicitDefEqProofs only [Try.ntmps91, go_sem, Nat.reduceAdd, Nat.reduceSub, Nat.reduceMul, Nat.reduceLeDiff, Nat.reduceEqDiff, Nat.reduceGT, Nat.reduceBEq, reduceCtorEq, ↓reduceIte, Int.reduceToNat, Int.reduceLE, Int.reduceLT, Int.reduceNe, Int.reduceEq]
  refine use1 (nanC w0 a S) ?_
  simp (maxDischargeDepth := 12) (maxSteps := 1000000) -implicitDefEqProofs only [go_sem, Nat.reduceAdd, Nat.reduceSub, Nat.reduceMul, Nat.reduceLeDiff, Nat.reduceEqDiff, Nat.reduceGT, Nat.reduceBEq, reduceCtorEq, ↓reduceIte, Int.reduceToNat, Int.reduceLE, Int.reduceLT, Int.reduceNe, Int.reduceEq]
/-- A row that rises. -/
def Up (l : List Int) : Prop := ∀ (i j : Nat) (a b : Int), i ≤ j → l[i]? = some a → l[j]? = some b → a ≤ b
set_option maxHeartbeats 4000000 in
theorem searchW (w0 : W0) (l : List Int) (p : Int) (S : St) (hl : Up l) (hb : l.length ≤ 1073741824) : ACall Try.prog w0 71 [dL l, dI p] S (fun d S' => d = .tup [.any, dB (decide (p ∈ l))] ∧ S' = S) := by
  refine fnS [] mx Try.func71 rfl rfl (by kernel_rfl) ?_; simp (maxDischargeDepth := 12) (maxSteps := 1000000) -implicitDefEqProofs only [Try.ntmps71, go_sem, Nat.reduceAdd, Nat.reduceSub, Nat.reduceMul, Nat.reduceLeDiff, Nat.reduceEqDiff, Nat.reduceGT, Nat.reduceBEq, reduceCtorEq, ↓reduceIte, Int.reduceToNat, Int.reduceLE, Int.reduceLT, Int.reduceNe, Int.reduceEq]
  refine loopK [] [0, 1, 6, 7, 8] (fun s : Nat × Nat => [(7, dI s.1), (8, dI s.2)]) (fun _ => S) (fun s => s.1 ≤ s.2 ∧ s.2 ≤ l.length ∧ (∀ (i : Nat) a, i < s.1 → l[i]? = some a → a < p) ∧ ∀ (i : Nat) a, s.2 ≤ i → l[i]? = some a → p ≤ a) (fun s => s.2 - s.1) (0, l.length) mx (by kernel_rfl) ?_ ?_
  · simp (maxDischargeDepth := 12) (maxSteps := 1000000) -implicitDefEqProofs only [go_sem, Nat.reduceAdd, Nat.reduceSub, Nat.reduceMul, Nat.reduceLeDiff, Nat.reduceEqDiff, Nat.reduceGT, Nat.reduceBEq, reduceCtorEq, ↓reduceIte, Int.reduceToNat, Int.reduceLE, Int.reduceLT, Int.reduceNe, Int.reduceEq]
    exact ⟨Nat.zero_le _, fun i a h => absurd h (by omega), fun i a h e => absurd (List.getElem?_eq_some_iff.1 e).1 (by omega)⟩
  · rintro ⟨i, j⟩ ⟨h1, h2, h3, h4⟩
    simp only at h1 h2 h3 h4
    have eh : IntKind.i64.wrap ((IntKind.u64.wrap (IntKind.i64.wrap ((i : Int) + j))).fdiv (2 ^ min 1 64)) = (((i + j) / 2 : Nat) : Int) := by
      rw [w64 (n := (i : Int) + j) (by omega) (by omega), wu64 (by omega) (by omega), Int.fdiv_eq_ediv_of_nonneg _ (by decide)]
      simp only [show min 1 64 = 1 from rfl, Int.pow_one]
      rw [w64 (by omega) (by omega)]
      omega
    simp (maxDischargeDepth := 12) (maxSteps := 1000000) -implicitDefEqProofs only [go_sem, Nat.reduceAdd, Nat.reduceSub, Nat.reduceMul, Nat.reduceLeDiff, Nat.reduceEqDiff, Nat.reduceGT, Nat.reduceBEq, reduceCtorEq, ↓reduceIte, Int.reduceToNat, Int.reduceLE, Int.reduceLT, Int.reduceNe, Int.reduceEq, eh]
    refine ⟨fun hlt => ⟨by omega, fun a ha => use1 (lessC w0 a p S) ?_⟩, fun hge => ⟨fun hlt => ⟨hlt, fun a ha => ⟨fun hap => Wk.tup (.cons (.any _) (.cons (.eq ?_) .nil)), fun hap => ⟨hlt, fun c hc => use1 (nanS w0 c S) ?_⟩⟩⟩, fun hn => ?_⟩⟩
    · simp (maxDischargeDepth := 12) (maxSteps := 1000000) -implicitDefEqProofs only [go_sem, Nat.reduceAdd, Nat.reduceSub, Nat.reduceMul, Nat.reduceLeDiff, Nat.reduceEqDiff, Nat.reduceGT, Nat.reduceBEq, reduceCtorEq, ↓reduceIte, Int.reduceToNat, Int.reduceLE, Int.reduceLT, Int.reduceNe, Int.reduceEq, eh]
      refine ⟨fun hap => ⟨((i + j) / 2 + 1, j), ⟨by simp only; omega, h2, fun x c hx hc => ?_, h4⟩, by simp only; omega, by rw [w64 (by omega) (by omega)]; rfl, rfl⟩, fun hap => ⟨(i, (i + j) / 2), ⟨by simp only; omega, by simp only; omega, h3, fun x c hx hc => ?_⟩, by simp only; omega, rfl, rfl⟩⟩
      · simp only at hx
        have := hl x ((i + j) / 2) c a (by omega) hc ha
        omega
      · simp only at hx
        have := hl ((i + j) / 2) x a c hx ha hc
        omega
    · have hin : p ∈ l := hap ▸ List.mem_of_getElem? ha
      rw [decide_eq_true hin]
    · simp (maxDischargeDepth := 12) (maxSteps := 1000000) -implicitDefEqProofs only [go_sem, Nat.reduceAdd, Nat.reduceSub, Nat.reduceMul, Nat.reduceLeDiff, Nat.reduceEqDiff, Nat.reduceGT, Nat.reduceBEq, reduceCtorEq, ↓reduceIte, Int.reduceToNat, Int.reduceLE, Int.reduceLT, Int.reduceNe, Int.reduceEq]
      have hni : ¬ p ∈ l := fun hin => by
        obtain ⟨x, hx⟩ := List.mem_iff_getElem?.1 hin
        rcases Nat.lt_or_ge x i with h | h
        · have := h3 x p h hx; omega
        · have hle := hl i x a p h ha hx
          have := h4 i a (by omega) ha
          omega
      rw [decide_eq_false hni]
      exact Wk.tup (.cons (.any _) (.cons (.refl _) .nil))
    · have hni : ¬ p ∈ l := fun hin => by
        obtain ⟨x, hx⟩ := List.mem_iff_getElem?.1 hin
        have hxl := (List.getElem?_eq_some_iff.1 hx).1
        have := h3 x p (by omega) hx
        omega
      rw [decide_eq_false hni]
      exact Wk.tup (.cons (.any _) (.cons (.refl _) .nil))
set_option maxHeartbeats 4000000 in
theorem lostEndW (w0 : W0) (b : Nat) (l : List Int) (p : Int) (S : St) (hb : lk S.box b = some [dL l]) (hl : Up l) (h0 : l.length ≤ 1073741824) : ACall Try.prog w0 70 [dI p, .v (.pointer (some ⟨b, 0, none⟩))] S (fun d S' => d = dB (decide (p ∈ l)) ∧ S' = S) := by
  refine fnS [] mx Try.func70 rfl rfl (by kernel_rfl) ?_; simp (maxDischargeDepth := 12) (maxSteps := 1000000) -implicitDefEqProofs only [Try.ntmps70, go_sem, Nat.reduceAdd, Nat.reduceSub, Nat.reduceMul, Nat.reduceLeDiff, Nat.reduceEqDiff, Nat.reduceGT, Nat.reduceBEq, reduceCtorEq, ↓reduceIte, Int.reduceToNat, Int.reduceLE, Int.reduceLT, Int.reduceNe, Int.reduceEq,  hb]
  refine use1 (searchW w0 l p S hl h0) ?_
  simp (maxDischargeDepth := 12) (maxSteps := 1000000) -implicitDefEqProofs only [go_sem, Nat.reduceAdd, Nat.reduceSub, Nat.reduceMul, Nat.reduceLeDiff, Nat.reduceEqDiff, Nat.reduceGT, Nat.reduceBEq, reduceCtorEq, ↓reduceIte, Int.reduceToNat, Int.reduceLE, Int.reduceLT, Int.reduceNe, Int.reduceEq]
def hitI (l : List Int) (p : Int) : Bool := decide (p ∈ l)
def fltI (l zs : List Int) : List Int := zs.filter fun p => !hitI l p
/-- Where the first one stands, or -1. -/
def idxI (l zs : List Int) : Int := if zs.findIdx (hitI l) < zs.length then (zs.findIdx (hitI l) : Int) else -1
set_option maxHeartbeats 4000000 in
theorem indexW (w0 : W0) (b m : Nat) (l zs : List Int) (S : St) (hb : lk S.box b = some [dL l]) (hm : lk S.acc m = some (.arr 1 (zs.map dI))) (hl : Up l) (h0 : l.length ≤ 1073741824) (h1 : zs.length ≤ 1073741824) :
    ACall Try.prog w0 90 [.acc m zs.length, .v (.func (.func 70) #[] #[.pointer (some ⟨b, 0, none⟩)])] S (fun d S' => d = dI (idxI l zs) ∧ S' = S) := by
  refine fnS [] mx Try.func90 rfl rfl (by kernel_rfl) ?_; simp (maxDischargeDepth := 12) (maxSteps := 1000000) -implicitDefEqProofs only [Try.ntmps90, go_sem, Nat.reduceAdd, Nat.reduceSub, Nat.reduceMul, Nat.reduceLeDiff, Nat.reduceEqDiff, Nat.reduceGT, Nat.reduceBEq, reduceCtorEq, ↓reduceIte, Int.reduceToNat, Int.reduceLE, Int.reduceLT, Int.reduceNe, Int.reduceEq,  hb, hm]
  refine loopN [] zs.length [0, 1, 7, 8] (fun k => [(8, dI k)]) (fun _ => S) (fun k => k ≤ zs.findIdx (hitI l)) mx (by kernel_rfl) ?_ ?_
  · simp (maxDischargeDepth := 12) (maxSteps := 1000000) -implicitDefEqProofs only [go_sem, Nat.reduceAdd, Nat.reduceSub, Nat.reduceMul, Nat.reduceLeDiff, Nat.reduceEqDiff, Nat.reduceGT, Nat.reduceBEq, reduceCtorEq, ↓reduceIte, Int.reduceToNat, Int.reduceLE, Int.reduceLT, Int.reduceNe, Int.reduceEq]
    exact Nat.zero_le _
  · intro k hk hinv
    simp (maxDischargeDepth := 12) (maxSteps := 1000000) -implicitDefEqProofs only [go_sem, Nat.reduceAdd, Nat.reduceSub, Nat.reduceMul, Nat.reduceLeDiff, Nat.reduceEqDiff, Nat.reduceGT, Nat.reduceBEq, reduceCtorEq, ↓reduceIte, Int.reduceToNat, Int.reduceLE, Int.reduceLT, Int.reduceNe, Int.reduceEq, hb, hm]
    refine ⟨fun hlt => ⟨hlt, hlt, fun a ha => use1 (lostEndW w0 b l a S hb hl h0) ?_⟩, fun hge => ?_⟩
    · have hak : zs[k] = a := (List.getElem?_eq_some_iff.1 ha).2
      simp (maxDischargeDepth := 12) (maxSteps := 1000000) -implicitDefEqProofs only [go_sem, Nat.reduceAdd, Nat.reduceSub, Nat.reduceMul, Nat.reduceLeDiff, Nat.reduceEqDiff, Nat.reduceGT, Nat.reduceBEq, reduceCtorEq, ↓reduceIte, Int.reduceToNat, Int.reduceLE, Int.reduceLT, Int.reduceNe, Int.reduceEq]
      refine ⟨fun hin => ?_, fun hni => ⟨hlt, ?_, by rw [w64 (by omega) (by omega)]; omega⟩⟩
      · have : ¬ k < zs.findIdx (hitI l) := fun h => by
          have := List.not_of_lt_findIdx h
          rw [hak] at this
          simp [hitI, hin] at this
        unfold idxI
        rw [if_pos (by omega)]; omega
      · rcases Nat.lt_or_ge k (zs.findIdx (hitI l)) with h | h
        · exact h
        · have he : zs.findIdx (hitI l) = k := by omega
          have := List.findIdx_getElem (xs := zs) (p := hitI l) (w := by omega)
          simp only [he, hak] at this
          simp [hitI, hni] at this
    · unfold idxI
      rw [if_neg (by omega)]
set_option maxHeartbeats 4000000 in
theorem deleteW (w0 : W0) (b : Nat) (l zs : List Int) (B : List (Nat × List DV)) (A : List (Nat × Ob)) (m : FN A) (hb : lk B b = some [dL l]) (hl : Up l) (h0 : l.length ≤ 1073741824) (h1 : zs.length ≤ 1073741824) :
    ACall Try.prog w0 69 [.acc m.n zs.length, .v (.func (.func 70) #[] #[.pointer (some ⟨b, 0, none⟩)])] ⟨B, (m.n, .arr 1 (zs.map dI)) :: A⟩ (fun d S' => ∃ m' : FN A, d = .acc m'.n (fltI l zs).length ∧ S' = ⟨B, (m'.n, .arr 1 ((fltI l zs).map dI)) :: A⟩) := by
  refine fnO [11] mx Try.func69 rfl rfl (by kernel_rfl) ?_; simp (maxDischargeDepth := 12) (maxSteps := 1000000) -implicitDefEqProofs only [Try.ntmps69, go_sem, Nat.reduceAdd, Nat.reduceSub, Nat.reduceMul, Nat.reduceLeDiff, Nat.reduceEqDiff, Nat.reduceGT, Nat.reduceBEq, reduceCtorEq, ↓reduceIte, Int.reduceToNat, Int.reduceLE, Int.reduceLT, Int.reduceNe, Int.reduceEq,  hb]
  refine .inl (use1 (indexW w0 b m.n l zs _ (by simp (maxDischargeDepth := 12) (maxSteps := 1000000) -implicitDefEqProofs only [go_sem, Nat.reduceAdd, Nat.reduceSub, Nat.reduceMul, Nat.reduceLeDiff, Nat.reduceEqDiff, Nat.reduceGT, Nat.reduceBEq, reduceCtorEq, ↓reduceIte, Int.reduceToNat, Int.reduceLE, Int.reduceLT, Int.reduceNe, Int.reduceEq, hb]) (by simp (maxDischargeDepth := 12) (maxSteps := 1000000) -implicitDefEqProofs only [go_sem, Nat.reduceAdd, Nat.reduceSub, Nat.reduceMul, Nat.reduceLeDiff, Nat.reduceEqDiff, Nat.reduceGT, Nat.reduceBEq, reduceCtorEq, ↓reduceIte, Int.reduceToNat, Int.reduceLE, Int.reduceLT, Int.reduceNe, Int.reduceEq]) hl h0 h1) ?_)
  simp (maxDischargeDepth := 12) (maxSteps := 1000000) -implicitDefEqProofs only [go_sem, Nat.reduceAdd, Nat.reduceSub, Nat.reduceMul, Nat.reduceLeDiff, Nat.reduceEqDiff, Nat.reduceGT, Nat.reduceBEq, reduceCtorEq, ↓reduceIte, Int.reduceToNat, Int.reduceLE, Int.reduceLT, Int.reduceNe, Int.reduceEq, hb]
  refine ⟨fun hm1 => ?_, fun hm1 => ?_⟩
  · have hge : zs.length ≤ zs.findIdx (hitI l) := by
      unfold idxI at hm1
      split at hm1 <;> omega
    have hf : fltI l zs = zs := by
      refine List.filter_eq_self.2 fun a ha => ?_
      obtain ⟨x, hx⟩ := List.mem_iff_getElem?.1 ha
      have hlt := (List.getElem?_eq_some_iff.1 hx).1
      have := List.not_of_lt_findIdx (Nat.lt_of_lt_of_le hlt hge)
      rw [(List.getElem?_eq_some_iff.1 hx).2] at this
      simpa using this
    exact ⟨m, by rw [hf], by rw [hf]⟩
  · have hlt : zs.findIdx (hitI l) < zs.length := by
      unfold idxI at hm1
      split at hm1 <;> first | assumption | exact absurd rfl hm1
    generalize hi0 : zs.findIdx (hitI l) = i0 at hlt
    have hidx : idxI l zs = (i0 : Int) := by unfold idxI; rw [hi0, if_pos hlt]
    have htk : fltI l (zs.take (i0 + 1)) = zs.take i0 := by
      have hx : zs[i0]? = some zs[i0] := List.getElem?_eq_getElem hlt
      have hh := List.findIdx_getElem (xs := zs) (p := hitI l) (w := by omega)
      simp only [hi0] at hh
      rw [List.take_add_one, hx, Option.toList_some]
      unfold fltI
      rw [List.filter_append, List.filter_eq_self.2 fun a ha => ?_]
      · simp [hh]
      · obtain ⟨x, hx⟩ := List.mem_iff_getElem?.1 ha
        rw [List.getElem?_take] at hx
        split at hx
        · rename_i hxi
          have := List.not_of_lt_findIdx (p := hitI l) (xs := zs) (i := x) (by omega)
          rw [(List.getElem?_eq_some_iff.1 hx).2] at this
          simpa using this
        · cases hx
    rw [hidx]
    refine loopK [11] [0, 1, 5, 6] (fun s : Nat × Nat × List Int => [(5, dI s.1), (6, dI s.2.1)]) (fun s => ⟨B, (m.n, .arr 1 (s.2.2.map dI)) :: A⟩) (fun s => s.1 < s.2.1 ∧ s.2.1 ≤ zs.length ∧ s.2.2.length = zs.length ∧ s.2.2.take s.1 = fltI l (zs.take s.2.1) ∧ ∀ x, s.2.1 ≤ x → s.2.2[x]? = zs[x]?) (fun s => zs.length - s.2.1) (i0, i0 + 1, zs) mx (by kernel_rfl) ?_ ?_
    · simp (maxDischargeDepth := 12) (maxSteps := 1000000) -implicitDefEqProofs only [go_sem, Nat.reduceAdd, Nat.reduceSub, Nat.reduceMul, Nat.reduceLeDiff, Nat.reduceEqDiff, Nat.reduceGT, Nat.reduceBEq, reduceCtorEq, ↓reduceIte, Int.reduceToNat, Int.reduceLE, Int.reduceLT, Int.reduceNe, Int.reduceEq]
      exact ⟨⟨by omega, htk.symm⟩, by rw [w64 (by omega) (by omega)]; omega⟩
    · rintro ⟨i, j, xs⟩ ⟨k1, k2, k3, k4, k5⟩
      simp only at k1 k2 k3 k4 k5
      rw [← k3]
      simp (maxDischargeDepth := 12) (maxSteps := 1000000) -implicitDefEqProofs only [go_sem, Nat.reduceAdd, Nat.reduceSub, Nat.reduceMul, Nat.reduceLeDiff, Nat.reduceEqDiff, Nat.reduceGT, Nat.reduceBEq, reduceCtorEq, ↓reduceIte, Int.reduceToNat, Int.reduceLE, Int.reduceLT, Int.reduceNe, Int.reduceEq]
      refine ⟨fun hj => ⟨hj, hj, fun a ha => use1 (lostEndW w0 b l a _ (by simp (maxDischargeDepth := 12) (maxSteps := 1000000) -implicitDefEqProofs only [go_sem, Nat.reduceAdd, Nat.reduceSub, Nat.reduceMul, Nat.reduceLeDiff, Nat.reduceEqDiff, Nat.reduceGT, Nat.reduceBEq, reduceCtorEq, ↓reduceIte, Int.reduceToNat, Int.reduceLE, Int.reduceLT, Int.reduceNe, Int.reduceEq, hb]) hl h0) ?_⟩, fun hj => ?_⟩
      · have hzj : zs[j]? = some a := by rw [← k5 j (Nat.le_refl _)]; exact ha
        have hfj : fltI l (zs.take (j + 1)) = fltI l (zs.take j) ++ (if a ∈ l then [] else [a]) := by
          rw [List.take_add_one, hzj, Option.toList_some]
          unfold fltI
          rw [List.filter_append]
          congr 1
          by_cases h : a ∈ l <;> simp [hitI, h]
        have hset : (xs.map dI).set i (.v (.int .i64 a)) = (xs.set i a).map dI := (List.map_set (f := dI)).symm
        simp (maxDischargeDepth := 12) (maxSteps := 1000000) -implicitDefEqProofs only [go_sem, Nat.reduceAdd, Nat.reduceSub, Nat.reduceMul, Nat.reduceLeDiff, Nat.reduceEqDiff, Nat.reduceGT, Nat.reduceBEq, reduceCtorEq, ↓reduceIte, Int.reduceToNat, Int.reduceLE, Int.reduceLT, Int.reduceNe, Int.reduceEq, hb, hset]
        have hj' : IntKind.i64.wrap ((j : Int) + 1) = ((j + 1 : Nat) : Int) := by rw [w64 (by omega) (by omega)]; omega
        have hi' : IntKind.i64.wrap ((i : Int) + 1) = ((i + 1 : Nat) : Int) := by rw [w64 (by omega) (by omega)]; omega
        refine ⟨fun hni => ⟨by omega, by omega, fun _ _ => ⟨(i + 1, j + 1, xs.set i a), ⟨by simp only; omega, by simp only; omega, by simp, ?_, fun x hx => ?_⟩, by simp only; omega, ⟨hi', hj'⟩, .refl _⟩⟩, fun hin => ⟨(i, j + 1, xs), ⟨by simp only; omega, by simp only; omega, rfl, ?_, fun x hx => k5 x (by simp only at hx; omega)⟩, by simp only; omega, ⟨rfl, hj'⟩, .refl _⟩⟩
        · simp only
          rw [hfj, if_neg hni, ← k4, List.take_add_one, List.getElem?_set_self (by omega), List.take_set_of_le (Nat.le_refl _)]; rfl
        · simp only at hx ⊢
          rw [List.getElem?_set_ne (by omega)]
          exact k5 x (by omega)
        · simp only
          rw [hfj, if_pos (Decidable.not_not.1 hin), List.append_nil, k4]
      · have hjn : j = xs.length := by omega
        have hfin : xs.take i = fltI l zs := by rw [k4, hjn, k3, List.take_length]
        have hfl : (fltI l zs).length = i := by rw [← hfin, List.length_take]; omega
        refine clearR (l := m.n) (k := i) (xs := xs.map dI) ty.k59 ty.z3 (by simp) rfl (by simp (maxDischargeDepth := 12) (maxSteps := 1000000) -implicitDefEqProofs only [go_sem, Nat.reduceAdd, Nat.reduceSub, Nat.reduceMul, Nat.reduceLeDiff, Nat.reduceEqDiff, Nat.reduceGT, Nat.reduceBEq, reduceCtorEq, ↓reduceIte, Int.reduceToNat, Int.reduceLE, Int.reduceLT, Int.reduceNe, Int.reduceEq]) (by rw [List.length_map]; omega) rfl (by simp) (by simp) (by simp) fun v u => ?_
        simp (maxDischargeDepth := 12) (maxSteps := 1000000) -implicitDefEqProofs only [go_sem, Nat.reduceAdd, Nat.reduceSub, Nat.reduceMul, Nat.reduceLeDiff, Nat.reduceEqDiff, Nat.reduceGT, Nat.reduceBEq, reduceCtorEq, ↓reduceIte, Int.reduceToNat, Int.reduceLE, Int.reduceLT, Int.reduceNe, Int.reduceEq, hb, List.length_map]
        have hT : ((xs.take i).map dI ++ List.replicate (xs.length - i) (DV.v (.int .i64 0))).take i = (fltI l zs).map dI := by
          rw [List.take_append_of_le_length (by rw [List.length_map, List.length_take]; omega), List.take_of_length_le (by rw [List.length_map, List.length_take]; omega), hfin]
        refine .inl ⟨.inr (by omega), ⟨_, _, _, rfl⟩, by rw [List.length_replicate]; omega, fun m' => ⟨⟨m'.n, m'.h.2.2⟩, by rw [hfl], ?_⟩⟩
        rw [hT]
theorem srt_Up (l : List Int) : Up (srt l) := by
  have hp : (srt l).Pairwise (fun x y => decide (x ≤ y) = true) := List.pairwise_mergeSort (by intro a b c; simp; omega) (by intro a b; simp; omega) l
  intro i j a b hij ha hb
  obtain ⟨hi, rfl⟩ := List.getElem?_eq_some_iff.1 ha
  obtain ⟨hj, rfl⟩ := List.getElem?_eq_some_iff.1 hb
  rcases Nat.lt_or_ge i j with h | h
  · have := List.pairwise_iff_getElem.1 hp i j hi hj h
    simpa using this
  · have : i = j := by omega
    subst this; exact Int.le_refl _
/-- A tree's pages. -/
def pgsT (n : N) : List Int := srt (pgS (visN noB n))
set_option maxHeartbeats 8000000 in
theorem lostP (w0 : W0) (a b : N) (S : St) (hVa : (visN noB a).length ≤ 1048576) (hFa : (pgS (visN noB a)).length ≤ 1073741824) (hla : ∀ x, x ∈ visN noB a → x.l.length ≤ 1048576)
    (hVb : (visN noB b).length ≤ 1048576) (hFb : (pgS (visN noB b)).length ≤ 1073741824) (hlb : ∀ x, x ∈ visN noB b → x.l.length ≤ 1048576) : ACall Try.prog w0 35 [eT a, eT b] S (fun d S' => d = dL (fltI (pgsT b) (pgsT a)) ∧ S' = S) := by
  refine fnS [2] mx Try.func35 rfl rfl (by kernel_rfl) ?_; simp (maxDischargeDepth := 12) (maxSteps := 1000000) -implicitDefEqProofs only [Try.ntmps35, go_sem, Nat.reduceAdd, Nat.reduceSub, Nat.reduceMul, Nat.reduceLeDiff, Nat.reduceEqDiff, Nat.reduceGT, Nat.reduceBEq, reduceCtorEq, ↓reduceIte, Int.reduceToNat, Int.reduceLE, Int.reduceLT, Int.reduceNe, Int.reduceEq]
  intro b1 b2
  refine useK (pagesP w0 b _ hVb hFb hlb) ?_
  rintro d S' ⟨m, rfl, rfl⟩
  simp (maxDischargeDepth := 12) (maxSteps := 1000000) -implicitDefEqProofs only [go_sem, Nat.reduceAdd, Nat.reduceSub, Nat.reduceMul, Nat.reduceLeDiff, Nat.reduceEqDiff, Nat.reduceGT, Nat.reduceBEq, reduceCtorEq, ↓reduceIte, Int.reduceToNat, Int.reduceLE, Int.reduceLT, Int.reduceNe, Int.reduceEq]
  intro b3
  refine shrB b3.n 0 (l := m.n) (s := 1) (xs := (srt (pgS (visN noB b))).map dI) (ds := [.acc m.n (pgS (visN noB b)).length]) (by simp (maxDischargeDepth := 12) (maxSteps := 1000000) -implicitDefEqProofs only [go_sem, Nat.reduceAdd, Nat.reduceSub, Nat.reduceMul, Nat.reduceLeDiff, Nat.reduceEqDiff, Nat.reduceGT, Nat.reduceBEq, reduceCtorEq, ↓reduceIte, Int.reduceToNat, Int.reduceLE, Int.reduceLT, Int.reduceNe, Int.reduceEq]) (by simp [srt_length]) (by simp (maxDischargeDepth := 12) (maxSteps := 1000000) -implicitDefEqProofs only [go_sem, Nat.reduceAdd, Nat.reduceSub, Nat.reduceMul, Nat.reduceLeDiff, Nat.reduceEqDiff, Nat.reduceGT, Nat.reduceBEq, reduceCtorEq, ↓reduceIte, Int.reduceToNat, Int.reduceLE, Int.reduceLT, Int.reduceNe, Int.reduceEq]) ?_
  simp (maxDischargeDepth := 12) (maxSteps := 1000000) -implicitDefEqProofs only [go_sem, Nat.reduceAdd, Nat.reduceSub, Nat.reduceMul, Nat.reduceLeDiff, Nat.reduceEqDiff, Nat.reduceGT, Nat.reduceBEq, reduceCtorEq, ↓reduceIte, Int.reduceToNat, Int.reduceLE, Int.reduceLT, Int.reduceNe, Int.reduceEq]
  refine shrK [] [] mx (by kernel_rfl) ?_
  simp (maxDischargeDepth := 12) (maxSteps := 1000000) -implicitDefEqProofs only [go_sem, Nat.reduceAdd, Nat.reduceSub, Nat.reduceMul, Nat.reduceLeDiff, Nat.reduceEqDiff, Nat.reduceGT, Nat.reduceBEq, reduceCtorEq, ↓reduceIte, Int.reduceToNat, Int.reduceLE, Int.reduceLT, Int.reduceNe, Int.reduceEq]
  refine useK (pagesP w0 a _ hVa hFa hla) ?_
  rintro d S' ⟨m2, rfl, rfl⟩
  simp (maxDischargeDepth := 12) (maxSteps := 1000000) -implicitDefEqProofs only [go_sem, Nat.reduceAdd, Nat.reduceSub, Nat.reduceMul, Nat.reduceLeDiff, Nat.reduceEqDiff, Nat.reduceGT, Nat.reduceBEq, reduceCtorEq, ↓reduceIte, Int.reduceToNat, Int.reduceLE, Int.reduceLT, Int.reduceNe, Int.reduceEq]
  rw [← srt_length (pgS (visN noB a))]
  refine .inl (useK (deleteW w0 b3.n (pgsT b) (pgsT a) _ _ m2 (by simp (maxDischargeDepth := 12) (maxSteps := 1000000) -implicitDefEqProofs only [go_sem, Nat.reduceAdd, Nat.reduceSub, Nat.reduceMul, Nat.reduceLeDiff, Nat.reduceEqDiff, Nat.reduceGT, Nat.reduceBEq, reduceCtorEq, ↓reduceIte, Int.reduceToNat, Int.reduceLE, Int.reduceLT, Int.reduceNe, Int.reduceEq]; rfl) (srt_Up _) (by unfold pgsT; rw [srt_length]; exact hFb) (by unfold pgsT; rw [srt_length]; exact hFa)) ?_)
  rintro d S' ⟨m3, rfl, rfl⟩
  simp (maxDischargeDepth := 12) (maxSteps := 1000000) -implicitDefEqProofs only [go_sem, Nat.reduceAdd, Nat.reduceSub, Nat.reduceMul, Nat.reduceLeDiff, Nat.reduceEqDiff, Nat.reduceGT, Nat.reduceBEq, reduceCtorEq, ↓reduceIte, Int.reduceToNat, Int.reduceLE, Int.reduceLT, Int.reduceNe, Int.reduceEq]
end Go.Proofs.Ytkibkahknibgfaa

namespace Go.Proofs.Ytkibkahknibgfaa
open Aml Go
set_option linter.unusedVariables false
set_option linter.unusedSimpArgs false
set_option maxRecDepth 100000

theorem kidsOf_leaf {n : N} (h : n.leaf = true) : kidsOf n = [] := by unfold kidsOf; rw [h]; rfl
theorem kidsOf_br {n : N} (h : n.leaf = false) : kidsOf n = n.l.flatMap fun c => c.kid.take 1 := by unfold kidsOf; rw [h]; rfl
set_option maxHeartbeats 8000000 in
theorem nodeW (w0 : W0) : ∀ (d : Nat) (n : N) (S : St), Nd d n → totN n ≤ 131072 → ACall Try.prog w0 29 [eN n] S (fun e S' => e = eT n ∧ S' = S) := by
  intro d
  induction d with
  | zero =>
    intro n S hn ht
    have hlf := hn.1
    have hl := tot_len n
    have hres : eT n = .agg [dI n.page, dB true, .sl 1 false (n.l.map fun c => dS c.key), .sl 2 false (n.l.map dV2), .sl 5 false []] := by
      show DV.agg _ = _
      rw [kidsOf_leaf hlf, hlf]; rfl
    rw [hres]
    refine fnS [] mx Try.func29 rfl rfl (by kernel_rfl) ?_; simp (maxDischargeDepth := 12) (maxSteps := 1000000) -implicitDefEqProofs only [Try.ntmps29, go_sem, Nat.reduceAdd, Nat.reduceSub, Nat.reduceMul, Nat.reduceLeDiff, Nat.reduceEqDiff, Nat.reduceGT, Nat.reduceBEq, reduceCtorEq, ↓reduceIte, Int.reduceToNat, Int.reduceLE, Int.reduceLT, Int.reduceNe, Int.reduceEq,  hlf]
    intro b b1 b2
    refine awp_growB b2.n 2 1 (by omega) (q_lk_same _ _ _) rfl fun lk1 => ?_
    simp (maxDischargeDepth := 12) (maxSteps := 1000000) -implicitDefEqProofs only [go_sem, Nat.reduceAdd, Nat.reduceSub, Nat.reduceMul, Nat.reduceLeDiff, Nat.reduceEqDiff, Nat.reduceGT, Nat.reduceBEq, reduceCtorEq, ↓reduceIte, Int.reduceToNat, Int.reduceLE, Int.reduceLT, Int.reduceNe, Int.reduceEq]
    refine awp_growB b2.n 3 2 (by omega) (q_lk_same _ _ _) rfl fun lv => ?_
    simp (maxDischargeDepth := 12) (maxSteps := 1000000) -implicitDefEqProofs only [go_sem, Nat.reduceAdd, Nat.reduceSub, Nat.reduceMul, Nat.reduceLeDiff, Nat.reduceEqDiff, Nat.reduceGT, Nat.reduceBEq, reduceCtorEq, ↓reduceIte, Int.reduceToNat, Int.reduceLE, Int.reduceLT, Int.reduceNe, Int.reduceEq]
    refine loopN [] n.l.length [1, 2, 3, 4] (fun k => [(4, dI k)]) (fun k => ⟨(b2.n, [dI n.page, dB true, .acc lk1.n k, .acc lv.n k, .sl 0 true []]) :: (b1.n, [dI 0, dB false, .sl 0 true [], .sl 0 true [], .sl 0 true []]) :: (b.n, [dI n.page, dB true, .sl 4 false (n.l.map dC)]) :: S.box, (lv.n, .arr 2 ((n.l.take k).map dV2)) :: (lk1.n, .arr 1 ((n.l.take k).map fun c => dS c.key)) :: S.acc⟩) (fun _ => True) mx (by kernel_rfl) ?_ ?_
    · simp (maxDischargeDepth := 12) (maxSteps := 1000000) -implicitDefEqProofs only [go_sem, Nat.reduceAdd, Nat.reduceSub, Nat.reduceMul, Nat.reduceLeDiff, Nat.reduceEqDiff, Nat.reduceGT, Nat.reduceBEq, reduceCtorEq, ↓reduceIte, Int.reduceToNat, Int.reduceLE, Int.reduceLT, Int.reduceNe, Int.reduceEq]
    · intro k hk' _
      have hml : (n.l.take k).length = k := by rw [List.length_take]; omega
      have hm8 : maxLen = 9223372036854775807 := rfl
      simp (maxDischargeDepth := 12) (maxSteps := 1000000) -implicitDefEqProofs only [go_sem, Nat.reduceAdd, Nat.reduceSub, Nat.reduceMul, Nat.reduceLeDiff, Nat.reduceEqDiff, Nat.reduceGT, Nat.reduceBEq, reduceCtorEq, ↓reduceIte, Int.reduceToNat, Int.reduceLE, Int.reduceLT, Int.reduceNe, Int.reduceEq, hml]
      refine ⟨fun hlt => ⟨hlt, fun c hc => ⟨by omega, by omega, hlt, fun c2 hc2 => ⟨hlt, fun c3 hc3 => ⟨by omega, by omega, hlt, by rw [w64 (by omega) (by omega)]; omega, ?_⟩⟩⟩⟩, fun hge => ?_⟩
      · rw [hc] at hc2 hc3
        cases hc2; cases hc3
        have ht1 : n.l.take (k + 1) = n.l.take k ++ [c] := by rw [List.take_add_one, hc]; rfl
        rw [ht1]
        simp (maxDischargeDepth := 12) (maxSteps := 1000000) -implicitDefEqProofs only [go_sem, Nat.reduceAdd, Nat.reduceSub, Nat.reduceMul, Nat.reduceLeDiff, Nat.reduceEqDiff, Nat.reduceGT, Nat.reduceBEq, reduceCtorEq, ↓reduceIte, Int.reduceToNat, Int.reduceLE, Int.reduceLT, Int.reduceNe, Int.reduceEq, List.map_append, List.map_cons, List.map_nil]
      · rw [List.take_of_length_le (by omega)]
        exact .agg (.cons (.refl _) (.cons (.refl _) (.cons (.refl _) (.cons (.refl _) (.cons (.nil _ _ _) .nil)))))
  | succ d ih =>
    intro n S hn ht
    have hlf := hn.1
    have hl := tot_len n
    have hres : eT n = .agg [dI n.page, dB false, .sl 1 false (n.l.map fun c => dS c.key), .sl 2 false [], .sl 5 false ((n.l.flatMap fun c => c.kid.take 1).map dT)] := by
      show DV.agg _ = _
      rw [kidsOf_br hlf, hlf]; rfl
    rw [hres]
    refine fnS [] mx Try.func29 rfl rfl (by kernel_rfl) ?_; simp (maxDischargeDepth := 12) (maxSteps := 1000000) -implicitDefEqProofs only [Try.ntmps29, go_sem, Nat.reduceAdd, Nat.reduceSub, Nat.reduceMul, Nat.reduceLeDiff, Nat.reduceEqDiff, Nat.reduceGT, Nat.reduceBEq, reduceCtorEq, ↓reduceIte, Int.reduceToNat, Int.reduceLE, Int.reduceLT, Int.reduceNe, Int.reduceEq,  hlf]
    intro b b1 b2
    refine awp_growB b2.n 2 1 (by omega) (q_lk_same _ _ _) rfl fun lk1 => ?_
    simp (maxDischargeDepth := 12) (maxSteps := 1000000) -implicitDefEqProofs only [go_sem, Nat.reduceAdd, Nat.reduceSub, Nat.reduceMul, Nat.reduceLeDiff, Nat.reduceEqDiff, Nat.reduceGT, Nat.reduceBEq, reduceCtorEq, ↓reduceIte, Int.reduceToNat, Int.reduceLE, Int.reduceLT, Int.reduceNe, Int.reduceEq]
    refine awp_growB b2.n 4 5 (by omega) (q_lk_same _ _ _) rfl fun lv => ?_
    simp (maxDischargeDepth := 12) (maxSteps := 1000000) -implicitDefEqProofs only [go_sem, Nat.reduceAdd, Nat.reduceSub, Nat.reduceMul, Nat.reduceLeDiff, Nat.reduceEqDiff, Nat.reduceGT, Nat.reduceBEq, reduceCtorEq, ↓reduceIte, Int.reduceToNat, Int.reduceLE, Int.reduceLT, Int.reduceNe, Int.reduceEq]
    refine loopN [] n.l.length [1, 2, 3, 4] (fun k => [(4, dI k)]) (fun k => ⟨(b2.n, [dI n.page, dB false, .acc lk1.n k, .sl 0 true [], .acc lv.n k]) :: (b1.n, [dI 0, dB false, .sl 0 true [], .sl 0 true [], .sl 0 true []]) :: (b.n, [dI n.page, dB false, .sl 4 false (n.l.map dC)]) :: S.box, (lv.n, .arr 5 (((n.l.take k).flatMap fun c => c.kid.take 1).map dT)) :: (lk1.n, .arr 1 ((n.l.take k).map fun c => dS c.key)) :: S.acc⟩) (fun _ => True) mx (by kernel_rfl) ?_ ?_
    · simp (maxDischargeDepth := 12) (maxSteps := 1000000) -implicitDefEqProofs only [go_sem, Nat.reduceAdd, Nat.reduceSub, Nat.reduceMul, Nat.reduceLeDiff, Nat.reduceEqDiff, Nat.reduceGT, Nat.reduceBEq, reduceCtorEq, ↓reduceIte, Int.reduceToNat, Int.reduceLE, Int.reduceLT, Int.reduceNe, Int.reduceEq]
      exact .refl _
    · intro k hk' _
      have hml : (n.l.take k).length = k := by rw [List.length_take]; omega
      have hkl : ((n.l.take k).flatMap fun c => c.kid.take 1).length = k := by
        have : ∀ l : List C, (∀ c, c ∈ l → ∃ k, c.kid = [k]) → (l.flatMap fun c => c.kid.take 1).length = l.length := by
          intro l
          induction l with
          | nil => intro _; rfl
          | cons c l ih2 =>
            intro h
            obtain ⟨k, hk⟩ := h c List.mem_cons_self
            rw [List.flatMap_cons, List.length_append, ih2 fun c hc => h c (List.mem_cons_of_mem _ hc), hk]
            simp; omega
        rw [this _ fun c hc => by obtain ⟨_, kid, hkid, _⟩ := hn.2.2 c (List.mem_of_mem_take hc); exact ⟨kid, hkid⟩, hml]
      have hm8 : maxLen = 9223372036854775807 := rfl
      simp (maxDischargeDepth := 12) (maxSteps := 1000000) -implicitDefEqProofs only [go_sem, Nat.reduceAdd, Nat.reduceSub, Nat.reduceMul, Nat.reduceLeDiff, Nat.reduceEqDiff, Nat.reduceGT, Nat.reduceBEq, reduceCtorEq, ↓reduceIte, Int.reduceToNat, Int.reduceLE, Int.reduceLT, Int.reduceNe, Int.reduceEq, hml, hkl]
      refine ⟨fun hlt => ⟨hlt, fun c hc => ⟨by omega, by omega, hlt, fun c2 hc2 => ?_⟩⟩, fun hge => ?_⟩
      · rw [hc] at hc2
        cases hc2
        obtain ⟨_, kid, hkid, hnd⟩ := hn.2.2 c (List.mem_of_getElem? hc)
        have htk := tot_kid (List.mem_of_getElem? hc) hkid
        have ht1 : n.l.take (k + 1) = n.l.take k ++ [c] := by rw [List.take_add_one, hc]; rfl
        rw [hkid]
        refine ⟨by simp, fun c4 hc4 => ?_⟩
        cases hc4
        refine useQ (ih kid _ hnd (by omega)) ?_
        simp (maxDischargeDepth := 12) (maxSteps := 1000000) -implicitDefEqProofs only [go_sem, Nat.reduceAdd, Nat.reduceSub, Nat.reduceMul, Nat.reduceLeDiff, Nat.reduceEqDiff, Nat.reduceGT, Nat.reduceBEq, reduceCtorEq, ↓reduceIte, Int.reduceToNat, Int.reduceLE, Int.reduceLT, Int.reduceNe, Int.reduceEq, hkl, Nat.min_eq_left hk']
        refine ⟨by omega, by omega, hlt, by rw [w64 (by omega) (by omega)]; omega, ?_⟩
        rw [ht1, List.flatMap_append, List.flatMap_cons, List.flatMap_nil, hkid]
        simp (maxDischargeDepth := 12) (maxSteps := 1000000) -implicitDefEqProofs only [go_sem, Nat.reduceAdd, Nat.reduceSub, Nat.reduceMul, Nat.reduceLeDiff, Nat.reduceEqDiff, Nat.reduceGT, Nat.reduceBEq, reduceCtorEq, ↓reduceIte, Int.reduceToNat, Int.reduceLE, Int.reduceLT, Int.reduceNe, Int.reduceEq, List.map_append, List.map_cons, List.map_nil, List.append_nil, List.take_succ_cons, List.take_zero]
      · rw [List.take_of_length_le (by omega)]
        exact .agg (.cons (.refl _) (.cons (.refl _) (.cons (.refl _) (.cons (.nil _ _ _) (.cons (.refl _) .nil)))))
theorem mk_short {z : Nat} (h : z ≤ 400) (f : Int) : (pagesR f (longN z)).length ≤ 4 := by rw [pagesR_len]; exact longN_le h
theorem markCs_mem (b : Bool) : ∀ {l : List C} {f : Int} {x : C}, x ∈ (markCs b l f).1 → ∃ c f', c ∈ l ∧ x = (markC b c f').1
  | c :: l, f, x, h => by
    simp only [markCs] at h
    rcases List.mem_cons.1 h with e | h
    · exact ⟨c, f, List.mem_cons_self, e⟩
    · obtain ⟨c', f', h1, h2⟩ := markCs_mem b h
      exact ⟨c', f', List.mem_cons_of_mem _ h1, h2⟩
theorem markN_l (n : N) (f : Int) : (markN n f).1.l = (markCs n.leaf n.l f).1 := by rw [markN_eq]; split <;> rfl
theorem markN_leaf (n : N) (f : Int) : (markN n f).1.leaf = n.leaf := by rw [markN_eq]; split <;> rfl
theorem nd_mark : ∀ {d : Nat} {n : N} (f : Int), Nd d n → Nd d (markN n f).1
  | 0, n, f, h => by
    refine ⟨by rw [markN_leaf]; exact h.1, fun x hx => ?_⟩
    rw [markN_l, h.1] at hx
    obtain ⟨c, f', hc, rfl⟩ := markCs_mem true hx
    obtain ⟨h1, h2⟩ := h.2 c hc
    rw [markC_leaf]
    refine ⟨⟨h1.1, h1.2.1, ?_⟩, h2⟩
    show (if 16 < c.data.size then pagesR f' (longN c.data.size) else c.pages).length ≤ 4
    split
    · exact mk_short h1.2.1 _
    · exact h1.2.2
  | d + 1, n, f, h => by
    refine ⟨by rw [markN_leaf]; exact h.1, ?_, fun x hx => ?_⟩
    · rw [markN_l]
      intro e
      have := markCs_len n.leaf n.l f
      rw [e] at this
      exact h.2.1 (List.eq_nil_of_length_eq_zero this.symm)
    · rw [markN_l, h.1] at hx
      obtain ⟨c, f', hc, rfl⟩ := markCs_mem false hx
      obtain ⟨h1, k, hk, hnd⟩ := h.2.2 c hc
      rw [markC_br hk]
      exact ⟨⟨h1.1, h1.2.1, h1.2.2⟩, _, rfl, nd_mark f' hnd⟩
theorem tot_mark : ∀ {d : Nat} {n : N} (f : Int), Nd d n → totN (markN n f).1 = totN n := by
  have cs : ∀ (b : Bool) (l : List C) (f : Int), (∀ c, c ∈ l → ∀ f, totC (markC b c f).1 = totC c) → tot (markCs b l f).1 = tot l := by
    intro b l
    induction l with
    | nil => intro f _; rfl
    | cons c l ih =>
      intro f h
      simp only [markCs, tot_cons]
      rw [h c List.mem_cons_self, ih _ fun c hc => h c (List.mem_cons_of_mem _ hc)]
  intro d
  induction d with
  | zero =>
    intro n f h
    rw [totN_tot, totN_tot, markN_l, h.1]
    refine cs true n.l f fun c hc f => ?_
    rw [markC_leaf, totC_eq, totC_eq]; rfl
  | succ d ih =>
    intro n f h
    rw [totN_tot, totN_tot, markN_l, h.1]
    refine cs false n.l f fun c hc f => ?_
    obtain ⟨_, k, hk, hnd⟩ := h.2.2 c hc
    rw [markC_br hk, totC_kid hk, totC_kid (k := (markN k f).1) rfl, ih f hnd]
end Go.Proofs.Ytkibkahknibgfaa

namespace Go.Proofs.Ytkibkahknibgfaa
open Aml Go
set_option linter.unusedVariables false
set_option linter.unusedSimpArgs false
set_option maxRecDepth 100000

set_option maxHeartbeats 1000000 in
theorem grow0 (w0 : W0) (n : Int) (S : St) (h0 : 0 ≤ n) (h1 : n ≤ 1099511627776) : ACall Try.prog w0 118 [.sl 0 true [], dI n] S (fun d S' => ∃ l : FN S.acc, d = .acc l.n 0 ∧ S' = ⟨S.box, (l.n, .arr 1 []) :: S.acc⟩) := by
  refine acall_nil (K' := fun d S' => (d = .sl 0 true [] ∧ S' = S) ∨ ∃ l : FN S.acc, d = .acc l.n 0 ∧ S' = ⟨S.box, (l.n, .arr 1 []) :: S.acc⟩) ?_ 1 (by omega) ?_
  · refine fnO [] mx Try.func118 rfl rfl (by kernel_rfl) ?_; simp (maxDischargeDepth := 12) (maxSteps := 1000000) -implicitDefEqProofs only [Try.ntmps118, go_sem, Nat.reduceAdd, Nat.reduceSub, Nat.reduceMul, Nat.reduceLeDiff, Nat.reduceEqDiff, Nat.reduceGT, Nat.reduceBEq, reduceCtorEq, ↓reduceIte, Int.reduceToNat, Int.reduceLE, Int.reduceLT, Int.reduceNe, Int.reduceEq]
    have e1 : IntKind.i64.wrap (0 - 0) = 0 := w64 (by omega) (by omega)
    rw [e1, Int.sub_zero, w64 (by omega) (by omega)]
    refine ⟨fun h => by omega, fun h h2 => ⟨by omega, by omega, by omega, fun l => .inl ⟨⟨_, _, _, rfl⟩, by simp, fun l' => ⟨⟨l'.n, l'.h.2.2⟩, rfl, rfl⟩⟩⟩⟩
  · rintro d S' (⟨rfl, rfl⟩ | h)
    · exact .inr ⟨⟨0, rfl⟩, fun l hl => ⟨⟨l, hl⟩, rfl, rfl⟩⟩
    · exact .inl h

def flat (rows : List (List Int)) : List Int := rows.flatten
theorem flat_succ {rows : List (List Int)} {k : Nat} {a : List Int} (h : rows[k]? = some a) : flat (rows.take (k + 1)) = flat (rows.take k) ++ a := by
  unfold flat
  rw [List.take_add_one, h]
  simp
theorem flat_le (rows : List (List Int)) (k : Nat) : (flat (rows.take k)).length ≤ (flat rows).length := by
  have : flat rows = flat (rows.take k) ++ flat (rows.drop k) := by
    unfold flat
    rw [← List.flatten_append, List.take_append_drop]
  rw [this]; simp

set_option maxHeartbeats 1000000 in
theorem concat (w0 : W0) (rows : List (List Int)) (S : St) (h0 : rows.length ≤ 1099511627776) (h1 : (flat rows).length ≤ 1099511627776) :
    ACall Try.prog w0 99 [.sl 1 false (rows.map dL)] S (fun d S' => ∃ l : FN S.acc, d = .acc l.n (flat rows).length ∧ S' = ⟨S.box, (l.n, .arr 1 ((flat rows).map dI)) :: S.acc⟩) := by
  refine fnO [] mx Try.func99 rfl rfl (by kernel_rfl) ?_; simp (maxDischargeDepth := 12) (maxSteps := 1000000) -implicitDefEqProofs only [Try.ntmps99, go_sem, Nat.reduceAdd, Nat.reduceSub, Nat.reduceMul, Nat.reduceLeDiff, Nat.reduceEqDiff, Nat.reduceGT, Nat.reduceBEq, reduceCtorEq, ↓reduceIte, Int.reduceToNat, Int.reduceLE, Int.reduceLT, Int.reduceNe, Int.reduceEq]
  refine loopN [] rows.length [0, 3, 9, 10, 11] (fun k => [(3, dI (flat (rows.take k)).length), (11, dI k)]) (fun _ => S) (fun k => True) mx (by kernel_rfl) ?_ ?_
  · simp (maxDischargeDepth := 12) (maxSteps := 1000000) -implicitDefEqProofs only [go_sem, Nat.reduceAdd, Nat.reduceSub, Nat.reduceMul, Nat.reduceLeDiff, Nat.reduceEqDiff, Nat.reduceGT, Nat.reduceBEq, reduceCtorEq, ↓reduceIte, Int.reduceToNat, Int.reduceLE, Int.reduceLT, Int.reduceNe, Int.reduceEq]
    simp [flat]
  · intro k hk _
    simp (maxDischargeDepth := 12) (maxSteps := 1000000) -implicitDefEqProofs only [go_sem, Nat.reduceAdd, Nat.reduceSub, Nat.reduceMul, Nat.reduceLeDiff, Nat.reduceEqDiff, Nat.reduceGT, Nat.reduceBEq, reduceCtorEq, ↓reduceIte, Int.reduceToNat, Int.reduceLE, Int.reduceLT, Int.reduceNe, Int.reduceEq]
    refine ⟨fun hlt => ⟨hlt, fun a ha => ?_⟩, fun hge => ?_⟩
    · have h2 := flat_succ ha
      have h3 := flat_le rows (k + 1)
      rw [h2, List.length_append] at h3
      rw [w64 (by omega) (by omega)]
      refine ⟨fun h => by omega, fun h => ⟨hlt, ?_, w64 (by omega) (by omega)⟩⟩
      rw [h2, List.length_append]; omega
    · rw [List.take_of_length_le (by omega)]
      refine useK (grow0 w0 (flat rows).length S (by omega) (by omega)) ?_
      rintro d S' ⟨l, rfl, rfl⟩
      simp (maxDischargeDepth := 12) (maxSteps := 1000000) -implicitDefEqProofs only [go_sem, Nat.reduceAdd, Nat.reduceSub, Nat.reduceMul, Nat.reduceLeDiff, Nat.reduceEqDiff, Nat.reduceGT, Nat.reduceBEq, reduceCtorEq, ↓reduceIte, Int.reduceToNat, Int.reduceLE, Int.reduceLT, Int.reduceNe, Int.reduceEq]
      refine loopN [] rows.length [6, 25, 26, 27] (fun k => [(6, .acc l.n (flat (rows.take k)).length), (27, dI k)]) (fun k => ⟨S.box, (l.n, .arr 1 ((flat (rows.take k)).map dI)) :: S.acc⟩) (fun k => True) mx (by kernel_rfl) ?_ ?_
      · simp (maxDischargeDepth := 12) (maxSteps := 1000000) -implicitDefEqProofs only [go_sem, Nat.reduceAdd, Nat.reduceSub, Nat.reduceMul, Nat.reduceLeDiff, Nat.reduceEqDiff, Nat.reduceGT, Nat.reduceBEq, reduceCtorEq, ↓reduceIte, Int.reduceToNat, Int.reduceLE, Int.reduceLT, Int.reduceNe, Int.reduceEq]
        simp [flat, Wk.refl, Sub.refl]
      · intro k hk _
        simp (maxDischargeDepth := 12) (maxSteps := 1000000) -implicitDefEqProofs only [go_sem, Nat.reduceAdd, Nat.reduceSub, Nat.reduceMul, Nat.reduceLeDiff, Nat.reduceEqDiff, Nat.reduceGT, Nat.reduceBEq, reduceCtorEq, ↓reduceIte, Int.reduceToNat, Int.reduceLE, Int.reduceLT, Int.reduceNe, Int.reduceEq]
        refine ⟨fun hlt => ⟨hlt, fun a ha => ?_⟩, fun hge => ⟨l, ?_⟩⟩
        · have h2 := flat_succ ha
          have h3 := flat_le rows (k + 1)
          rw [h2, List.length_append] at h3
          refine ⟨by omega, by unfold maxLen; omega, hlt, ⟨?_, w64 (by omega) (by omega)⟩, ?_⟩
          · rw [h2, List.length_append]; exact .refl _
          · rw [h2]; exact .refl _
        · rw [List.take_of_length_le (by omega)]; exact ⟨rfl, rfl⟩

set_option maxHeartbeats 1000000 in
theorem together (w0 : W0) (rows : List (List Int)) (S : St) (h0 : rows.length ≤ 1099511627776) (h1 : (flat rows).length ≤ 1099511627776) :
    ACall Try.prog w0 79 [.sl 1 false (rows.map dL)] S (fun d S' => d = dL (srt (flat rows)) ∧ S' = S) := by
  refine fnS [] mx Try.func79 rfl rfl (by kernel_rfl) ?_; simp (maxDischargeDepth := 12) (maxSteps := 1000000) -implicitDefEqProofs only [Try.ntmps79, go_sem, Nat.reduceAdd, Nat.reduceSub, Nat.reduceMul, Nat.reduceLeDiff, Nat.reduceEqDiff, Nat.reduceGT, Nat.reduceBEq, reduceCtorEq, ↓reduceIte, Int.reduceToNat, Int.reduceLE, Int.reduceLT, Int.reduceNe, Int.reduceEq]
  refine useK (concat w0 rows S h0 h1) ?_
  rintro d S' ⟨l, rfl, rfl⟩
  simp (maxDischargeDepth := 12) (maxSteps := 1000000) -implicitDefEqProofs only [go_sem, Nat.reduceAdd, Nat.reduceSub, Nat.reduceMul, Nat.reduceLeDiff, Nat.reduceEqDiff, Nat.reduceGT, Nat.reduceBEq, reduceCtorEq, ↓reduceIte, Int.reduceToNat, Int.reduceLE, Int.reduceLT, Int.reduceNe, Int.reduceEq]
  refine .inl (useK (sort_int w0 (l := l.n) (zs := flat rows) (S := ⟨S.box, (l.n, .arr 1 ((flat rows).map dI)) :: S.acc⟩) (by simp [lk]) (by omega)) ?_)
  rintro d S' ⟨rfl, rfl⟩
  simp (maxDischargeDepth := 12) (maxSteps := 1000000) -implicitDefEqProofs only [go_sem, Nat.reduceAdd, Nat.reduceSub, Nat.reduceMul, Nat.reduceLeDiff, Nat.reduceEqDiff, Nat.reduceGT, Nat.reduceBEq, reduceCtorEq, ↓reduceIte, Int.reduceToNat, Int.reduceLE, Int.reduceLT, Int.reduceNe, Int.reduceEq]
  exact srt_length _

def pgs (l : List Wt) : List (List Int) := l.map (·.pages)
def listed (p : Pl) : List Int := srt (flat (p.free :: pgs p.wait))
theorem pgs_succ {l : List Wt} {k : Nat} {a : Wt} (h : l[k]? = some a) : pgs (l.take (k + 1)) = pgs (l.take k) ++ [a.pages] := by
  unfold pgs
  rw [List.take_add_one, h]
  simp
theorem pgs_len (l : List Wt) (k : Nat) (h : k ≤ l.length) : (pgs (l.take k)).length = k := by unfold pgs; rw [List.length_map, List.length_take]; omega
theorem flat_pgs (f : List Int) (l : List Wt) : (flat (f :: pgs l)).length = f.length + nW l := by
  unfold flat pgs nW
  simp [List.length_flatten]
  rfl

set_option maxHeartbeats 1000000 in
theorem listedW (w0 : W0) (p : Pl) (S : St) (h0 : p.wait.length ≤ 1048576) (h1 : p.free.length + nW p.wait ≤ 1048576) :
    ACall Try.prog w0 51 [dP p] S (fun d S' => d = dL (listed p) ∧ S' = S) := by
  refine fnS [] mx Try.func51 rfl rfl (by kernel_rfl) ?_; simp (maxDischargeDepth := 12) (maxSteps := 1000000) -implicitDefEqProofs only [Try.ntmps51, go_sem, Nat.reduceAdd, Nat.reduceSub, Nat.reduceMul, Nat.reduceLeDiff, Nat.reduceEqDiff, Nat.reduceGT, Nat.reduceBEq, reduceCtorEq, ↓reduceIte, Int.reduceToNat, Int.reduceLE, Int.reduceLT, Int.reduceNe, Int.reduceEq]
  intro b
  refine awp_tail 3 (by omega) rfl fun l hl => ?_
  obtain ⟨l, rfl⟩ : ∃ b : FN S.acc, b.n = l := ⟨⟨l, hl⟩, rfl⟩
  clear hl
  simp (maxDischargeDepth := 12) (maxSteps := 1000000) -implicitDefEqProofs only [go_sem, Nat.reduceAdd, Nat.reduceSub, Nat.reduceMul, Nat.reduceLeDiff, Nat.reduceEqDiff, Nat.reduceGT, Nat.reduceBEq, reduceCtorEq, ↓reduceIte, Int.reduceToNat, Int.reduceLE, Int.reduceLT, Int.reduceNe, Int.reduceEq]
  refine loopN [] p.wait.length [3, 10, 11, 12] (fun k => [(3, .acc l.n (k + 1)), (12, dI k)]) (fun k => ⟨S.box, (l.n, .tl 1 ((p.free :: pgs (p.wait.take k)).map dL)) :: S.acc⟩) (fun k => True) mx (by kernel_rfl) ?_ ?_
  · simp (maxDischargeDepth := 12) (maxSteps := 1000000) -implicitDefEqProofs only [go_sem, Nat.reduceAdd, Nat.reduceSub, Nat.reduceMul, Nat.reduceLeDiff, Nat.reduceEqDiff, Nat.reduceGT, Nat.reduceBEq, reduceCtorEq, ↓reduceIte, Int.reduceToNat, Int.reduceLE, Int.reduceLT, Int.reduceNe, Int.reduceEq]
    exact .consB (.refl _)
  · intro k hk _
    have hpl := pgs_len p.wait k hk
    simp (maxDischargeDepth := 12) (maxSteps := 1000000) -implicitDefEqProofs only [go_sem, Nat.reduceAdd, Nat.reduceSub, Nat.reduceMul, Nat.reduceLeDiff, Nat.reduceEqDiff, Nat.reduceGT, Nat.reduceBEq, reduceCtorEq, ↓reduceIte, Int.reduceToNat, Int.reduceLE, Int.reduceLT, Int.reduceNe, Int.reduceEq]
    refine ⟨fun hlt => ⟨hlt, fun a ha b' => ?_⟩, fun hge => ?_⟩
    · have h2 := pgs_succ ha
      have e : List.map dL (pgs (List.take k p.wait)) ++ [DV.sl 1 false (List.map dI a.pages)] = List.map dL (pgs (List.take (k + 1) p.wait)) := by rw [h2, List.map_append]; rfl
      refine ⟨hpl, by omega, by unfold maxLen; omega, hlt, ⟨?_, w64 (by omega) (by omega)⟩, ?_⟩
      · rw [hpl]; exact .refl _
      · rw [e]; exact .consB (.refl _)
    · rw [List.take_of_length_le (by omega)]
      refine .inr ?_
      refine ⟨by unfold pgs; rw [List.length_map]; omega, ?_⟩
      refine use1 (together w0 (p.free :: pgs p.wait) _ (by unfold pgs; simp; omega) (by rw [flat_pgs]; omega)) ?_
      simp (maxDischargeDepth := 12) (maxSteps := 1000000) -implicitDefEqProofs only [go_sem, Nat.reduceAdd, Nat.reduceSub, Nat.reduceMul, Nat.reduceLeDiff, Nat.reduceEqDiff, Nat.reduceGT, Nat.reduceBEq, reduceCtorEq, ↓reduceIte, Int.reduceToNat, Int.reduceLE, Int.reduceLT, Int.reduceNe, Int.reduceEq]
      simp [listed, Wk_self]
end Go.Proofs.Ytkibkahknibgfaa

namespace Go.Proofs.Ytkibkahknibgfaa
open Aml Go
set_option linter.unusedVariables false
set_option linter.unusedSimpArgs false
set_option maxRecDepth 100000

theorem srt_perm (l : List Int) : (srt l).Perm l := List.mergeSort_perm l _
theorem srt_up (l : List Int) : (srt l).Pairwise (· ≤ ·) := by
  have := List.pairwise_mergeSort (le := fun x y : Int => decide (x ≤ y)) (fun a b c h k => by simp at *; omega) (fun a b => by simp; omega) l
  exact this.imp fun h => by simpa using h
theorem srt_eq {a b : List Int} (h1 : a.Pairwise (· ≤ ·)) (h2 : a.Perm b) : a = srt b :=
  List.Perm.eq_of_pairwise (le := (· ≤ ·)) (fun x y _ _ h k => Int.le_antisymm h k) h1 (srt_up b) (h2.trans (srt_perm b).symm)
theorem srt_congr {a b : List Int} (h : a.Perm b) : srt a = srt b := srt_eq (srt_up a) ((srt_perm a).trans h)
theorem srt_self {a : List Int} (h : a.Pairwise (· ≤ ·)) : srt a = a := (srt_eq h (.refl a)).symm
theorem srt_insert {p : List Int} {x : Int} {j : Nat} (h1 : ∀ (i : Nat) a, i < j → (srt p)[i]? = some a → a ≤ x) (h2 : ∀ a, (srt p)[j]? = some a → x < a) : (srt p).take j ++ x :: (srt p).drop j = srt (p ++ [x]) := by
  have hp := srt_up p
  refine srt_eq ?_ ?_
  · rw [List.pairwise_append]
    have hs : (srt p).take j ++ (srt p).drop j = srt p := List.take_append_drop _ _
    rw [← hs, List.pairwise_append] at hp
    have hd : ∀ y ∈ (srt p).drop j, x ≤ y := by
      intro y hy
      cases he : (srt p).drop j with
      | nil => rw [he] at hy; cases hy
      | cons z t =>
        have hz : (srt p)[j]? = some z := by
          have := congrArg (fun l => l[0]?) he
          simpa using this
        have hxz := h2 z hz
        have hpd := hp.2.1
        rw [he] at hpd hy
        rcases List.mem_cons.1 hy with rfl | hy
        · omega
        · have := (List.pairwise_cons.1 hpd).1 y hy; omega
    refine ⟨hp.1, List.pairwise_cons.2 ⟨fun y hy => hd y hy, hp.2.1⟩, fun y hy z hz => ?_⟩
    have hyx : y ≤ x := by
      obtain ⟨i, hi⟩ := List.getElem?_of_mem hy
      rw [List.getElem?_take] at hi
      split at hi
      · rename_i hlt; exact h1 i y hlt hi
      · cases hi
    rcases List.mem_cons.1 hz with rfl | hz
    · exact hyx
    · have := hd z hz; omega
  · have hs : (srt p).take j ++ (srt p).drop j = srt p := List.take_append_drop _ _
    have : ((srt p).take j ++ x :: (srt p).drop j).Perm (x :: srt p) := by
      have := List.perm_middle (a := x) (l₁ := (srt p).take j) (l₂ := (srt p).drop j)
      rw [hs] at this; exact this
    exact this.trans (((srt_perm p).cons x).trans (List.perm_append_singleton x p).symm)
theorem take_snoc {α : Type} {l : List α} {k : Nat} {a : α} (h : l[k]? = some a) : l.take (k + 1) = l.take k ++ [a] := by rw [List.take_add_one, h]; rfl

set_option maxHeartbeats 4000000 in
theorem sortedR (w0 : W0) (l : List Int) (S : St) (h0 : l.length ≤ 1048576) :
    ACall Try.prog w0 67 [dL l] S (fun d S' => d = dL (srt l) ∧ S' = S) := by
  refine fnS [] mx Try.func67 rfl rfl (by kernel_rfl) ?_; simp (maxDischargeDepth := 12) (maxSteps := 1000000) -implicitDefEqProofs only [Try.ntmps67, go_sem, Nat.reduceAdd, Nat.reduceSub, Nat.reduceMul, Nat.reduceLeDiff, Nat.reduceEqDiff, Nat.reduceGT, Nat.reduceBEq, reduceCtorEq, ↓reduceIte, Int.reduceToNat, Int.reduceLE, Int.reduceLT, Int.reduceNe, Int.reduceEq]
  refine loopNZ [] [3] l.length [0, 3, 4] (fun k => [(3, dL (srt (l.take k))), (4, dI k)]) (fun _ => S) (fun k => True) mx (by kernel_rfl) ?_ ?_
  · simp (maxDischargeDepth := 12) (maxSteps := 1000000) -implicitDefEqProofs only [go_sem, Nat.reduceAdd, Nat.reduceSub, Nat.reduceMul, Nat.reduceLeDiff, Nat.reduceEqDiff, Nat.reduceGT, Nat.reduceBEq, reduceCtorEq, ↓reduceIte, Int.reduceToNat, Int.reduceLE, Int.reduceLT, Int.reduceNe, Int.reduceEq]
    rw [show srt [] = [] by simp [srt]]
    simp (maxDischargeDepth := 12) (maxSteps := 1000000) -implicitDefEqProofs only [go_sem, Nat.reduceAdd, Nat.reduceSub, Nat.reduceMul, Nat.reduceLeDiff, Nat.reduceEqDiff, Nat.reduceGT, Nat.reduceBEq, reduceCtorEq, ↓reduceIte, Int.reduceToNat, Int.reduceLE, Int.reduceLT, Int.reduceNe, Int.reduceEq]
  · intro k hk _
    simp (maxDischargeDepth := 12) (maxSteps := 1000000) -implicitDefEqProofs only [go_sem, Nat.reduceAdd, Nat.reduceSub, Nat.reduceMul, Nat.reduceLeDiff, Nat.reduceEqDiff, Nat.reduceGT, Nat.reduceBEq, reduceCtorEq, ↓reduceIte, Int.reduceToNat, Int.reduceLE, Int.reduceLT, Int.reduceNe, Int.reduceEq]
    refine ⟨fun hlt => ?_, fun hge => ?_⟩
    · obtain ⟨x, hx⟩ : ∃ x, l[k]? = some x := ⟨_, List.getElem?_eq_getElem hlt⟩
      have hsl : (srt (l.take k)).length = k := by rw [srt_length, List.length_take]; omega
      refine loopK [] [0, 3, 4, 5] (fun j : Nat => [(5, dI j)]) (fun _ => S) (fun j => j ≤ k ∧ ∀ (i : Nat) a, i < j → (srt (l.take k))[i]? = some a → a ≤ x) (fun j => k - j) 0 mx (by kernel_rfl) ?_ ?_
      · simp (maxDischargeDepth := 12) (maxSteps := 1000000) -implicitDefEqProofs only [go_sem, Nat.reduceAdd, Nat.reduceSub, Nat.reduceMul, Nat.reduceLeDiff, Nat.reduceEqDiff, Nat.reduceGT, Nat.reduceBEq, reduceCtorEq, ↓reduceIte, Int.reduceToNat, Int.reduceLE, Int.reduceLT, Int.reduceNe, Int.reduceEq]
        exact ⟨by omega, fun i a hi => by omega⟩
      · intro j hjj
        have hj := hjj.1
        have hup := hjj.2
        clear hjj
        simp (maxDischargeDepth := 12) (maxSteps := 1000000) -implicitDefEqProofs only [go_sem, Nat.reduceAdd, Nat.reduceSub, Nat.reduceMul, Nat.reduceLeDiff, Nat.reduceEqDiff, Nat.reduceGT, Nat.reduceBEq, reduceCtorEq, ↓reduceIte, Int.reduceToNat, Int.reduceLE, Int.reduceLT, Int.reduceNe, Int.reduceEq]
        have fin : (∀ a, (srt (l.take k))[j]? = some a → x < a) → List.map dI ((srt (l.take k)).take j) ++ [DV.v (.int .i64 x)] ++ List.map dI ((srt (l.take k)).drop j) = List.map dI (srt (l.take (k + 1))) := by
          intro h
          rw [take_snoc hx, ← srt_insert (x := x) (j := j) hup h]
          simp [dI]
        rw [hsl]
        refine ⟨fun h1 => ⟨h1, fun a ha => ⟨hlt, fun y hy => ?_⟩⟩, fun h1 => ?_⟩
        · cases getE hx hy
          refine ⟨fun h2 => ⟨j + 1, ⟨by omega, fun i b hi hb => ?_⟩, by omega, w64 (by omega) (by omega)⟩, fun h2 => ?_⟩
          · by_cases e : i = j
            · subst e; cases getE ha hb; exact h2
            · exact hup i b (by omega) hb
          · refine ⟨by omega, by omega, by unfold maxLen; omega, fun b => ⟨hlt, fun y hy => ?_⟩⟩
            cases getE hx hy
            have f2 := fin (fun b hb => by cases getE ha hb; omega)
            simp only [List.append_assoc] at f2 ⊢
            rw [f2]
            exact ⟨by omega, by unfold maxLen; omega, by omega, by omega, by unfold maxLen; omega, hlt, .refl _, w64 (by omega) (by omega)⟩
        · refine ⟨by omega, by omega, by unfold maxLen; omega, fun b => ⟨hlt, fun y hy => ?_⟩⟩
          cases getE hx hy
          have f2 := fin (fun b hb => by have := (List.getElem?_eq_some_iff.1 hb).1; omega)
          simp only [List.append_assoc] at f2 ⊢
          rw [f2]
          exact ⟨by omega, by unfold maxLen; omega, by omega, by omega, by unfold maxLen; omega, hlt, .refl _, w64 (by omega) (by omega)⟩
    · rw [List.take_of_length_le (by omega)]; exact .refl _
end Go.Proofs.Ytkibkahknibgfaa

namespace Go.Proofs.Ytkibkahknibgfaa
open Aml Go
set_option linter.unusedVariables false
set_option linter.unusedSimpArgs false
set_option maxRecDepth 100000

/-- A branch's kids, as a list of them. -/
theorem kids_map {l : List C} (h : ∀ c, c ∈ l → ∃ k, c.kid = [k]) : (l.flatMap fun c => c.kid.take 1) = l.map kid0 := by
  induction l with
  | nil => rfl
  | cons c l ih =>
    obtain ⟨k, hk⟩ := h c List.mem_cons_self
    rw [List.flatMap_cons, ih fun c hc => h c (List.mem_cons_of_mem _ hc), hk, List.map_cons, kid0_eq hk]; rfl
theorem kids_nd {d : Nat} {n : N} (h : Nd (d + 1) n) : kidsOf n = n.l.map kid0 := by
  rw [kidsOf_br h.1]
  exact kids_map fun c hc => by obtain ⟨_, k, hk, _⟩ := h.2.2 c hc; exact ⟨k, hk⟩
theorem sum_flat {α : Type} (f : α → Nat) (g : N → List α) (l : List N) : ((l.reverse.flatMap g).map f).sum = (l.map fun n => ((g n).map f).sum).sum := by
  induction l with
  | nil => rfl
  | cons a l ih => rw [List.reverse_cons, List.flatMap_append, List.map_append, List.sum_append, ih, List.map_cons, List.sum_cons]; simp; omega
/-- What the nodes below weigh. -/
def wT (ends : N → Bool) (f : N → Nat) (n : N) : Nat := ((visN ends n).map f).sum
theorem wT_eq (ends : N → Bool) (f : N → Nat) (n : N) : wT ends f n = f n + if ends n then 0 else ((kidsOf n).map (wT ends f)).sum := by
  unfold wT
  rw [visN_eq, List.map_cons, List.sum_cons]
  split
  · rfl
  · rw [sum_flat]
theorem wT_le (ends : N → Bool) (f : N → Nat) (hf : ∀ d x, Nd d x → f x ≤ 1 + if x.leaf then 4 * x.l.length else 0) : ∀ (d : Nat) (n : N), Nd d n → wT ends f n ≤ 1 + 5 * totN n
  | 0, n, h => by
    have h1 := hf 0 n h
    have h2 := tot_len n
    rw [wT_eq, kidsOf_leaf h.1]
    rw [h.1, if_pos rfl] at h1
    split <;> simp <;> omega
  | d + 1, n, h => by
    have h1 := hf _ n h
    rw [h.1, if_neg (by simp)] at h1
    rw [wT_eq, kids_nd h, totN_tot]
    have : ∀ l : List C, (∀ c, c ∈ l → c ∈ n.l) → ((l.map kid0).map (wT ends f)).sum ≤ 5 * tot l := by
      intro l
      induction l with
      | nil => intro _; exact Nat.zero_le _
      | cons c l ih =>
        intro hl
        obtain ⟨_, k, hk, hnd⟩ := h.2.2 c (hl c List.mem_cons_self)
        have h1 := ih fun c hc => hl c (List.mem_cons_of_mem _ hc)
        have h2 := wT_le ends f hf d k hnd
        rw [List.map_cons, List.map_cons, List.sum_cons, kid0_eq hk, tot_cons, totC_kid hk]
        omega
    have := this n.l fun _ h => h
    split <;> omega
theorem vis_len (ends : N → Bool) {d : Nat} {n : N} (h : Nd d n) : (visN ends n).length ≤ 1 + 5 * totN n := by
  have := wT_le ends (fun _ => 1) (fun _ _ _ => by omega) d n h
  unfold wT at this
  have e : ∀ l : List N, (l.map fun _ => 1).sum = l.length := fun l => by
    induction l with
    | nil => rfl
    | cons a l ih => rw [List.map_cons, List.sum_cons, ih, List.length_cons]; omega
  rwa [e] at this
theorem vis_mem (ends : N → Bool) : ∀ (d : Nat) (n : N), Nd d n → ∀ x, x ∈ visN ends n → ∃ d', Nd d' x ∧ totN x ≤ totN n
  | 0, n, h, x, hx => by
    rw [visN_eq, kidsOf_leaf h.1] at hx
    have : x = n := by
      rcases List.mem_cons.1 hx with e | hx
      · exact e
      · split at hx <;> cases hx
    subst this
    exact ⟨0, h, Nat.le_refl _⟩
  | d + 1, n, h, x, hx => by
    rw [visN_eq, kids_nd h] at hx
    rcases List.mem_cons.1 hx with rfl | hx
    · exact ⟨_, h, Nat.le_refl _⟩
    · split at hx
      · cases hx
      · obtain ⟨k, hk, hx⟩ := List.mem_flatMap.1 hx
        obtain ⟨c, hc, rfl⟩ := List.mem_map.1 (List.mem_reverse.1 hk)
        obtain ⟨_, k, hkid, hnd⟩ := h.2.2 c hc
        rw [kid0_eq hkid] at hx
        obtain ⟨d', h1, h2⟩ := vis_mem ends d k hnd x hx
        have := tot_kid hc hkid
        exact ⟨d', h1, by omega⟩
theorem vis_l (ends : N → Bool) {d : Nat} {n : N} (h : Nd d n) (x : N) (hx : x ∈ visN ends n) : x.l.length ≤ totN n := by
  obtain ⟨d', h1, h2⟩ := vis_mem ends d n h x hx
  have := tot_len x
  omega
theorem fcS_le (l : List C) : fcS l ≤ 4 * l.length := by
  unfold fcS
  induction l with
  | nil => exact Nat.le_refl _
  | cons c l ih =>
    have : fc1 c ≤ 4 := by unfold fc1; split; exact need_le _; omega
    rw [List.map_cons, List.sum_cons, List.length_cons]; omega
theorem fr1_le (x : N) : fr1 x ≤ 1 + if x.leaf then 4 * x.l.length else 0 := by
  unfold fr1
  split
  · omega
  · split
    · omega
    · split
      · have := fcS_le x.l; omega
      · simp [fcS]
theorem pages_le {l : List C} (h : ∀ c, c ∈ l → Sh c) : (l.flatMap C.pages).length ≤ 4 * l.length := by
  induction l with
  | nil => exact Nat.le_refl _
  | cons c l ih =>
    have h1 := ih fun c hc => h c (List.mem_cons_of_mem _ hc)
    have h2 := (h c List.mem_cons_self).2.2
    rw [List.flatMap_cons, List.length_append, List.length_cons]; omega
theorem pg1_le {d : Nat} {x : N} (h : Nd d x) : (pg1 x).length ≤ 1 + if x.leaf then 4 * x.l.length else 0 := by
  unfold pg1
  rw [List.length_append]
  have h1 : (if x.page ≠ 0 then [x.page] else []).length ≤ 1 := by split <;> simp
  have h2 : ((if x.leaf then x.l else []).flatMap C.pages).length ≤ if x.leaf then 4 * x.l.length else 0 := by
    split
    · exact pages_le (nd_sh h)
    · simp
  omega
theorem pgS_le (ends : N → Bool) {d : Nat} {n : N} (h : Nd d n) : (pgS (visN ends n)).length ≤ 1 + 5 * totN n := by
  have := wT_le ends (fun x => (pg1 x).length) (fun d x hx => pg1_le hx) d n h
  unfold wT at this
  unfold pgS
  rw [List.length_flatMap]
  exact this
/-- What a tree takes. -/
def frT (n : N) : Nat := frS (visN laidB n)
theorem frT_le {d : Nat} {n : N} (h : Nd d n) : frT n ≤ 1 + 5 * totN n := wT_le laidB fr1 (fun _ x _ => fr1_le x) d n h
def rfC (b : Bool) (c : C) : Nat := if b then fc1 c else frT (kid0 c)
def rfS (b : Bool) (l : List C) : Nat := (l.map (rfC b)).sum
theorem rfS_succ {b : Bool} {l : List C} {k : Nat} {c : C} (h : l[k]? = some c) : rfS b (l.take (k + 1)) = rfS b (l.take k) + rfC b c := by
  unfold rfS
  rw [List.take_add_one, h]; simp
theorem rfS_take (b : Bool) (l : List C) (k : Nat) : rfS b (l.take k) ≤ rfS b l := by
  have := congrArg (rfS b) (List.take_append_drop k l)
  simp only [rfS, List.map_append, List.sum_append] at this ⊢
  omega
theorem frT_eq {d : Nat} {n : N} (h : Nd d n) : frT n = if n.page ≠ 0 then 0 else if n.leaf = true ∧ n.l = [] then 0 else 1 + rfS n.leaf n.l := by
  have h1 : frT n = wT laidB fr1 n := rfl
  have e : fr1 n = if n.page ≠ 0 then 0 else if n.leaf = true ∧ n.l = [] then 0 else 1 + fcS (if n.leaf then n.l else []) := rfl
  rw [h1, wT_eq, e]
  by_cases hp : n.page ≠ 0
  · have hb : laidB n = true := decide_eq_true hp
    rw [if_pos hp, if_pos hp, hb]; rfl
  · have hb : laidB n = false := decide_eq_false hp
    rw [if_neg hp, if_neg hp, hb]
    have e2 : ∀ x : Nat, (if false = true then 0 else x) = x := fun x => if_neg (by simp)
    rw [e2]
    by_cases hz : n.leaf = true ∧ n.l = []
    · rw [if_pos hz, if_pos hz, kidsOf_leaf hz.1]; rfl
    · rw [if_neg hz, if_neg hz]
      cases d with
      | zero => rw [kidsOf_leaf h.1, h.1]; rfl
      | succ d =>
        rw [kids_nd h, h.1, List.map_map, show (if false = true then n.l else []) = [] from rfl, show fcS [] = 0 from rfl]
        rfl
set_option maxHeartbeats 4000000 in
theorem freshR (w0 : W0) : ∀ (d : Nat) (n : N) (S : St), Nd d n → totN n ≤ 131072 → ACall Try.prog w0 31 [eN n] S (fun e S' => e = dI (frT n) ∧ S' = S) := by
  intro d
  induction d with
  | zero =>
    intro n S hn ht
    have hlf := hn.1
    have hl := tot_len n
    have hq := frT_eq hn
    have hle := frT_le hn
    rw [hlf] at hq
    refine fnS [] mx Try.func31 rfl rfl (by kernel_rfl) ?_; simp (maxDischargeDepth := 12) (maxSteps := 1000000) -implicitDefEqProofs only [Try.ntmps31, go_sem, Nat.reduceAdd, Nat.reduceSub, Nat.reduceMul, Nat.reduceLeDiff, Nat.reduceEqDiff, Nat.reduceGT, Nat.reduceBEq, reduceCtorEq, ↓reduceIte, Int.reduceToNat, Int.reduceLE, Int.reduceLT, Int.reduceNe, Int.reduceEq,  hlf]
    intro b
    refine ⟨fun hp => by rw [hq, if_pos hp]; rfl, fun hp => ⟨fun hl0 => by rw [hq, if_neg hp, if_pos ⟨rfl, List.eq_nil_of_length_eq_zero (by omega)⟩]; rfl, fun hl0 => ?_⟩⟩
    rw [if_neg hp, if_neg (fun e => by rw [e.2] at hl0; exact hl0 rfl)] at hq
    refine loopN [] n.l.length [1, 3, 4] (fun k => [(3, dI ((1 + rfS true (n.l.take k) : Nat) : Int)), (4, dI k)]) (fun k => ⟨(b.n, [dI n.page, dB true, .sl 4 false (n.l.map dC)]) :: S.box, S.acc⟩) (fun _ => True) mx (by kernel_rfl) ?_ ?_
    · simp (maxDischargeDepth := 12) (maxSteps := 1000000) -implicitDefEqProofs only [go_sem, Nat.reduceAdd, Nat.reduceSub, Nat.reduceMul, Nat.reduceLeDiff, Nat.reduceEqDiff, Nat.reduceGT, Nat.reduceBEq, reduceCtorEq, ↓reduceIte, Int.reduceToNat, Int.reduceLE, Int.reduceLT, Int.reduceNe, Int.reduceEq]
      rfl
    · intro k hk _
      have hrt := rfS_take true n.l k
      have hrt1 := rfS_take true n.l (k + 1)
      simp (maxDischargeDepth := 12) (maxSteps := 1000000) -implicitDefEqProofs only [go_sem, Nat.reduceAdd, Nat.reduceSub, Nat.reduceMul, Nat.reduceLeDiff, Nat.reduceEqDiff, Nat.reduceGT, Nat.reduceBEq, reduceCtorEq, ↓reduceIte, Int.reduceToNat, Int.reduceLE, Int.reduceLT, Int.reduceNe, Int.reduceEq]
      refine ⟨fun hlt => ⟨hlt, fun c hc b2 => ⟨fun hp0 => use1 (needR w0 _ _) ?_, fun hp0 => ⟨hlt, ?_, by rw [w64 (by omega) (by omega)]; omega⟩⟩⟩, fun hge => by rw [List.take_of_length_le (by omega), hq]⟩
      · have h1 := rfS_succ (b := true) hc
        have h2 : rfC true c = need (c.data.size : Int) := by
          show fc1 c = _
          exact if_pos (List.eq_nil_of_length_eq_zero (by omega))
        simp (maxDischargeDepth := 12) (maxSteps := 1000000) -implicitDefEqProofs only [go_sem, Nat.reduceAdd, Nat.reduceSub, Nat.reduceMul, Nat.reduceLeDiff, Nat.reduceEqDiff, Nat.reduceGT, Nat.reduceBEq, reduceCtorEq, ↓reduceIte, Int.reduceToNat, Int.reduceLE, Int.reduceLT, Int.reduceNe, Int.reduceEq]
        refine ⟨hlt, by rw [w64 (by omega) (by omega)]; omega, by rw [w64 (by omega) (by omega)]; omega⟩
      · have h1 := rfS_succ (b := true) hc
        have h2 : rfC true c = 0 := by
          show fc1 c = 0
          exact if_neg (fun e => by rw [e] at hp0; exact hp0 rfl)
        omega
  | succ d ih =>
    intro n S hn ht
    have hlf := hn.1
    have hl := tot_len n
    have hq := frT_eq hn
    have hle := frT_le hn
    rw [hlf] at hq
    refine fnS [] mx Try.func31 rfl rfl (by kernel_rfl) ?_; simp (maxDischargeDepth := 12) (maxSteps := 1000000) -implicitDefEqProofs only [Try.ntmps31, go_sem, Nat.reduceAdd, Nat.reduceSub, Nat.reduceMul, Nat.reduceLeDiff, Nat.reduceEqDiff, Nat.reduceGT, Nat.reduceBEq, reduceCtorEq, ↓reduceIte, Int.reduceToNat, Int.reduceLE, Int.reduceLT, Int.reduceNe, Int.reduceEq,  hlf]
    intro b
    refine ⟨fun hp => by rw [hq, if_pos hp]; rfl, fun hp => ?_⟩
    rw [if_neg hp, if_neg (by simp)] at hq
    refine loopN [] n.l.length [1, 3, 4] (fun k => [(3, dI ((1 + rfS false (n.l.take k) : Nat) : Int)), (4, dI k)]) (fun k => ⟨(b.n, [dI n.page, dB false, .sl 4 false (n.l.map dC)]) :: S.box, S.acc⟩) (fun _ => True) mx (by kernel_rfl) ?_ ?_
    · simp (maxDischargeDepth := 12) (maxSteps := 1000000) -implicitDefEqProofs only [go_sem, Nat.reduceAdd, Nat.reduceSub, Nat.reduceMul, Nat.reduceLeDiff, Nat.reduceEqDiff, Nat.reduceGT, Nat.reduceBEq, reduceCtorEq, ↓reduceIte, Int.reduceToNat, Int.reduceLE, Int.reduceLT, Int.reduceNe, Int.reduceEq]
      rfl
    · intro k hk _
      have hrt := rfS_take false n.l k
      have hrt1 := rfS_take false n.l (k + 1)
      simp (maxDischargeDepth := 12) (maxSteps := 1000000) -implicitDefEqProofs only [go_sem, Nat.reduceAdd, Nat.reduceSub, Nat.reduceMul, Nat.reduceLeDiff, Nat.reduceEqDiff, Nat.reduceGT, Nat.reduceBEq, reduceCtorEq, ↓reduceIte, Int.reduceToNat, Int.reduceLE, Int.reduceLT, Int.reduceNe, Int.reduceEq]
      refine ⟨fun hlt => ⟨hlt, fun c hc b2 => ?_⟩, fun hge => by rw [List.take_of_length_le (by omega), hq]⟩
      obtain ⟨_, kid, hkid, hnd⟩ := hn.2.2 c (List.mem_of_getElem? hc)
      have h1 := rfS_succ (b := false) hc
      have h2 : rfC false c = frT kid := by rw [← kid0_eq hkid]; rfl
      have h3 := tot_kid (List.mem_of_getElem? hc) hkid
      rw [hkid]
      refine ⟨by simp, fun kid' hk' => ?_⟩
      cases hk'
      refine use1 (ih kid _ hnd (by omega)) ?_
      simp (maxDischargeDepth := 12) (maxSteps := 1000000) -implicitDefEqProofs only [go_sem, Nat.reduceAdd, Nat.reduceSub, Nat.reduceMul, Nat.reduceLeDiff, Nat.reduceEqDiff, Nat.reduceGT, Nat.reduceBEq, reduceCtorEq, ↓reduceIte, Int.reduceToNat, Int.reduceLE, Int.reduceLT, Int.reduceNe, Int.reduceEq]
      refine ⟨hlt, by rw [w64 (by omega) (by omega)]; omega, by rw [w64 (by omega) (by omega)]; omega⟩
mutual
/-- All pages, as the reference gathers them. -/
def alN : N → List Int
  | .mk p b l => (if p ≠ 0 then [p] else []) ++ alCs b l
def alC (b : Bool) : C → List Int
  | .mk _ _ ps kid => ps ++ if b then [] else alNs kid
def alCs (b : Bool) : List C → List Int
  | [] => []
  | c :: l => alC b c ++ alCs b l
def alNs : List N → List Int
  | [] => []
  | n :: _ => alN n
end
theorem alCs_flat (b : Bool) (l : List C) : alCs b l = l.flatMap (alC b) := by
  induction l with
  | nil => rfl
  | cons c l ih => rw [alCs, ih, List.flatMap_cons]
theorem alN_eq (n : N) : alN n = (if n.page ≠ 0 then [n.page] else []) ++ n.l.flatMap (alC n.leaf) := by
  cases n; rw [alN, alCs_flat]; rfl
theorem alC_leaf (c : C) : alC true c = c.pages := by cases c; simp [alC, C.pages]
theorem alC_br {c : C} {k : N} (h : c.kid = [k]) : alC false c = c.pages ++ alN k := by
  cases c with | mk a b d e =>
  simp only [C.kid_mk] at h
  subst h
  simp [alC, alNs, C.pages]
theorem flat_perm {α β : Type} {f g : α → List β} {l : List α} (h : ∀ a, a ∈ l → (f a).Perm (g a)) : (l.flatMap f).Perm (l.flatMap g) := by
  induction l with
  | nil => exact .refl _
  | cons a l ih =>
    rw [List.flatMap_cons, List.flatMap_cons]
    exact (h a List.mem_cons_self).append (ih fun x hx => h x (List.mem_cons_of_mem _ hx))
theorem al_perm : ∀ (d : Nat) (n : N), Nd d n → (alN n).Perm (pgS (visN noB n))
  | 0, n, h => by
    rw [alN_eq, visN_eq, kidsOf_leaf h.1]
    have : pgS (n :: if noB n = true then [] else List.flatMap (visN noB) [].reverse) = pg1 n := by simp [pgS, noB]
    rw [this]
    unfold pg1
    rw [h.1, if_pos rfl]
    rw [show alC true = C.pages from funext alC_leaf]
  | d + 1, n, h => by
    rw [alN_eq, visN_eq, kids_nd h, h.1]
    have e1 : pgS (n :: if noB n = true then [] else (n.l.map kid0).reverse.flatMap (visN noB)) = pg1 n ++ pgS ((n.l.map kid0).reverse.flatMap (visN noB)) := by simp [pgS, noB]
    have e2 : pg1 n = if n.page ≠ 0 then [n.page] else [] := by unfold pg1; rw [h.1]; simp
    rw [e1, e2]
    refine .append_left _ ?_
    have e3 : ∀ l : List N, pgS (l.flatMap (visN noB)) = l.flatMap fun k => pgS (visN noB k) := fun l => by unfold pgS; rw [List.flatMap_assoc]
    rw [e3]
    refine .trans ?_ (.symm ((List.reverse_perm _).flatMap_right _))
    rw [List.flatMap_map]
    refine flat_perm fun c hc => ?_
    obtain ⟨hs, k, hk, hnd⟩ := h.2.2 c hc
    rw [alC_br hk, kid0_eq hk, List.eq_nil_of_length_eq_zero (Nat.le_zero.1 hs.2.2), List.nil_append]
    exact al_perm d k hnd
end Go.Proofs.Ytkibkahknibgfaa
