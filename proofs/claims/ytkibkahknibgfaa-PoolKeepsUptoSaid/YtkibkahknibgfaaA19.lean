/-
  Reckoning over statements whose order is open. By an AI agent.
-/
import Derived.Test.YtkibkahknibgfaaA18
namespace Aml
open Go Go.RowKit
set_option linter.unusedVariables false
set_option linter.unusedSimpArgs false

section
variable {P : Program} {w0 : World} {S : St} {K : DV → Prop}

theorem det_pick {c a b : DV} (h : vPick c a b K) : ∃ d, vPick c a b (· = d) ∧ K d := by
  unfold vPick at *
  split at h
  · rename_i t
    cases t
    · exact ⟨b, ⟨by simp, fun _ => rfl⟩, h.2 rfl⟩
    · exact ⟨a, ⟨fun _ => rfl, by simp⟩, h.1 rfl⟩
  · exact h.elim
theorem det_hd {ds : List DV} (h : hdK ds K) : ∃ d, hdK ds (· = d) ∧ K d := by
  unfold hdK at *
  split at h
  · exact ⟨_, rfl, h⟩
  · exact h.elim
theorem det_ld {k : TK} {ds : List DV} (h : ldK k ds K) : ∃ d, ldK k ds (· = d) ∧ K d := by
  unfold ldK at *
  split at h
  · exact ⟨_, ⟨h.1, rfl⟩, h.2⟩
  · exact ⟨_, ⟨h.1, rfl⟩, h.2⟩
  · exact h.elim
  · exact det_hd h
theorem det_load {k : TK} {x : DV} (h : vLoad k S x K) : ∃ d, vLoad k S x (· = d) ∧ K d := by
  unfold vLoad at *
  split at h
  · split at h
    · rename_i hb; (try simp only [hb]); exact det_ld h
    · exact h.elim
  · exact det_ld h
  · split at h
    · rename_i hb
      obtain ⟨h1, h2, d, h3, h4, h5⟩ := h
      obtain ⟨e, q1, q2⟩ := det_ld h5
      exact ⟨e, by first | exact ⟨h1, h2, d, h3, h4, q1⟩ | (simp only [hb]; exact ⟨h1, h2, d, h3, h4, q1⟩), q2⟩
    · rename_i hb
      obtain ⟨h1, h2, d, h3, h4, h5⟩ := h
      obtain ⟨e, q1, q2⟩ := det_ld h5
      exact ⟨e, by first | exact ⟨h1, h2, d, h3, h4, q1⟩ | (simp only [hb]; exact ⟨h1, h2, d, h3, h4, q1⟩), q2⟩
    · exact h.elim
  · exact h.elim
theorem det_field {k : TK} {f : Nat} {x : DV} (h : vField k f x K) : ∃ d, vField k f x (· = d) ∧ K d := by
  unfold vField at *
  split at h
  · split at h
    · rename_i hf
      try simp only [hf]
      obtain ⟨h1, h⟩ := h
      split at h
      · exact ⟨_, ⟨h1, rfl⟩, h⟩
      · exact ⟨_, ⟨h1, h.1, rfl⟩, h.2⟩
      · exact ⟨_, ⟨h1, rfl⟩, h⟩
      · exact h.elim
    · exact h.elim
  · exact h.elim
theorem det_indexAddr {k : TK} {x i : DV} (h : vIndexAddr k x i K) : ∃ d, vIndexAddr k x i (· = d) ∧ K d := by
  unfold vIndexAddr at *
  split at h
  · split at h
    · obtain ⟨h1, h2, h3, h4⟩ := h
      rename_i z _ _ _ xs
      have hlt : z.toNat < xs.length := by omega
      obtain ⟨h5, h6⟩ := h4 _ (List.getElem?_eq_getElem hlt)
      exact ⟨_, ⟨h1, h2, h3, fun d hd => by rw [List.getElem?_eq_getElem hlt] at hd; cases hd; exact ⟨h5, rfl⟩⟩, h6⟩
    · exact ⟨_, ⟨h.1, h.2.1, rfl⟩, h.2.2⟩
    · exact h.elim
  · exact h.elim
theorem det_index {k : TK} {x i : DV} (h : vIndex k x i K) : ∃ d, vIndex k x i (· = d) ∧ K d := by
  unfold vIndex at *
  split at h
  · obtain ⟨h1, h2, h3⟩ := h
    rename_i s _ z
    have hlt : z.toNat < s.data.toList.length := by simp; have : s.data.size = s.size := rfl; omega
    exact ⟨_, ⟨h1, h2, fun d hd => by rw [List.getElem?_eq_getElem hlt] at hd; cases hd; rfl⟩, h3 _ (List.getElem?_eq_getElem hlt)⟩
  · exact h.elim
theorem det_fieldV {k : TK} {f : Nat} {x : DV} (h : vFieldV k f x K) : ∃ d, vFieldV k f x (· = d) ∧ K d := by
  unfold vFieldV at *
  split at h
  · split at h
    · rename_i hf
      try simp only [hf]
      split at h
      · obtain ⟨h1, h⟩ := h
        split at h
        · exact ⟨_, ⟨h1, rfl⟩, h⟩
        · split at h
          · rename_i hd; (try simp only [hd]); exact ⟨_, ⟨h1, rfl⟩, h⟩
          · exact h.elim
      · exact h.elim
    · exact h.elim
  · exact h.elim
theorem det_extract {i : Nat} {x : DV} (h : vExtract i x K) : ∃ d, vExtract i x (· = d) ∧ K d := by
  unfold vExtract at *
  split at h
  · split at h
    · rename_i hd; (try simp only [hd]); exact ⟨_, rfl, h⟩
    · exact h.elim
  · exact h.elim
theorem det_binI {op : BinOp} {k : IntKind} {m n : Int} (h : vBinI op k m n K) : ∃ d, vBinI op k m n (· = d) ∧ K d := by
  cases op <;> simp only [vBinI] at h ⊢ <;> first | exact ⟨_, rfl, h⟩ | exact ⟨_, ⟨h.1, rfl⟩, h.2⟩
theorem det_binS {op : BinOp} {x y : ByteArray} (h : vBinS op x y K) : ∃ d, vBinS op x y (· = d) ∧ K d := by
  cases op <;> simp only [vBinS] at h ⊢ <;> first | exact ⟨_, rfl, h⟩ | exact ⟨_, ⟨h.1, rfl⟩, h.2⟩
theorem det_bin {op : BinOp} {t : TK} {cx cy : Bool} {x y : DV} (h : vBin op t cx cy x y K) : ∃ d, vBin op t cx cy x y (· = d) ∧ K d := by
  unfold vBin at *
  split at h
  · obtain ⟨d, q1, q2⟩ := det_binI h.2
    exact ⟨d, ⟨h.1, q1⟩, q2⟩
  · exact det_binS h
  · split at h <;> first | exact ⟨_, rfl, h⟩ | exact h.elim
  · split at h <;> first | exact ⟨_, ⟨h.1, rfl⟩, h.2⟩ | exact h.elim
  · split at h <;> first | exact ⟨_, rfl, h⟩ | exact h.elim
  · split at h <;> first | exact ⟨_, rfl, h⟩ | exact h.elim
  · split at h <;> first | exact ⟨_, ⟨h.1, rfl⟩, h.2⟩ | exact h.elim
  · exact h.elim
theorem det_un {op : UnOp} {x : DV} (h : vUn op x K) : ∃ d, vUn op x (· = d) ∧ K d := by
  unfold vUn at *
  split at h <;> first | exact ⟨_, rfl, h⟩ | exact h.elim
theorem det_conv {a b : TK} {x : DV} (h : vConv a b x K) : ∃ d, vConv a b x (· = d) ∧ K d := by
  unfold vConv at *
  split at h <;> first | exact ⟨_, rfl, h⟩ | exact h.elim
theorem det_func {fn : Fn} {a b : List DV} (h : vFunc fn a b K) : ∃ d, vFunc fn a b (· = d) ∧ K d := by
  unfold vFunc at *
  split at h <;> first | exact ⟨_, rfl, h⟩ | exact h.elim
theorem det_bnd {x : Option DV} {z : Int} {F : (DV → Prop) → Int → Prop} (hF : ∀ n, F K n → ∃ d, F (· = d) n ∧ K d) (h : bnd x z (F K)) : ∃ d, bnd x z (F (· = d)) ∧ K d := by
  unfold bnd at *
  split at h <;> first | exact hF _ h | exact h.elim
theorem det_slice {k : TK} {x : DV} {lo hi mx : Option DV} (h : vSlice k x lo hi mx K) : ∃ d, vSlice k x lo hi mx (· = d) ∧ K d := by
  unfold vSlice at *
  split at h
  · obtain ⟨h1, h⟩ := h
    rename_i e s b s' f xs
    obtain ⟨d, q1, q2⟩ := det_bnd (F := fun K l => bnd hi xs.length fun h => bnd mx h fun m => 0 ≤ l ∧ l ≤ h ∧ h ≤ m ∧ m ≤ xs.length ∧
      K (.sl s (if mx.isSome then decide (m = h) else (f && (hi.isNone || xs.isEmpty))) ((xs.take h.toNat).drop l.toNat))) (fun l h => det_bnd (F := fun K h => bnd mx h fun m => 0 ≤ l ∧ l ≤ h ∧ h ≤ m ∧ m ≤ xs.length ∧
      K (.sl s (if mx.isSome then decide (m = h) else (f && (hi.isNone || xs.isEmpty))) ((xs.take h.toNat).drop l.toNat))) (fun hh h => det_bnd (F := fun K m => 0 ≤ l ∧ l ≤ hh ∧ hh ≤ m ∧ m ≤ xs.length ∧
      K (.sl s (if mx.isSome then decide (m = hh) else (f && (hi.isNone || xs.isEmpty))) ((xs.take hh.toNat).drop l.toNat))) (fun m h => ⟨_, ⟨h.1, h.2.1, h.2.2.1, h.2.2.2.1, rfl⟩, h.2.2.2.2⟩) h) h) h
    exact ⟨d, ⟨h1, q1⟩, q2⟩
  · obtain ⟨h1, h⟩ := h
    rename_i s
    obtain ⟨d, q1, q2⟩ := det_bnd (F := fun K l => bnd hi s.size fun h => 0 ≤ l ∧ l ≤ h ∧ h ≤ s.size ∧ K (.v (.string (s.extract l.toNat h.toNat)))) (fun l h => det_bnd (F := fun K h => 0 ≤ l ∧ l ≤ h ∧ h ≤ s.size ∧ K (.v (.string (s.extract l.toNat h.toNat))))
      (fun hh h => ⟨_, ⟨h.1, h.2.1, h.2.2.1, rfl⟩, h.2.2.2⟩) h) h
    exact ⟨d, ⟨h1, q1⟩, q2⟩
  · exact h.elim
theorem det_len {k : TK} {x : DV} (h : vLen k x K) : ∃ d, vLen k x (· = d) ∧ K d := by
  unfold vLen at *
  split at h <;> first | exact ⟨_, rfl, h⟩ | exact h.elim
theorem det_cap {k : TK} {x : DV} (h : vCap k x K) : ∃ d, vCap k x (· = d) ∧ K d := by
  unfold vCap at *
  split at h <;> first | exact ⟨_, rfl, h⟩ | exact h.elim
theorem det_min {x y : DV} (h : vMin x y K) : ∃ d, vMin x y (· = d) ∧ K d := by
  unfold vMin at *
  split at h <;> first | exact ⟨_, rfl, h⟩ | exact h.elim
theorem det_max {x y : DV} (h : vMax x y K) : ∃ d, vMax x y (· = d) ∧ K d := by
  unfold vMax at *
  split at h <;> first | exact ⟨_, rfl, h⟩ | exact h.elim
theorem det_build {t : TypeId} {parts : List (Nat × DV)} (h : vBuild P t parts K) : ∃ d, vBuild P t parts (· = d) ∧ K d := by
  unfold vBuild at *
  split at h
  · split at h
    · rename_i hf; (try simp only [hf]); exact ⟨_, rfl, h⟩
    · exact h.elim
  · exact h.elim
theorem det_buildSlice {k : TK} {z : DV} {len : Nat} {parts : List (Nat × DV)} (h : vBuildSlice k z len parts K) : ∃ d, vBuildSlice k z len parts (· = d) ∧ K d := by
  unfold vBuildSlice at *
  split at h
  · obtain ⟨h1, h2, h3, h⟩ := h
    split at h
    · rename_i hf; (try simp only [hf]); exact ⟨_, ⟨h1, h2, h3, rfl⟩, h⟩
    · exact h.elim
  · exact h.elim

def nacc : DV → Bool
  | .acc _ _ => false
  | _ => true
def naccA : DV → Bool
  | .agg ds => ds.all nacc
  | d => nacc d
theorem shr1_id {K : DV → St → Prop} {d : DV} (hd : nacc d = true) (h : K d S) : shr1 S d K := by
  cases d <;> first | (cases hd; done) | exact h
theorem sliceX_id {K : DV → St → Prop} {k : TK} {x : DV} {lo hi mx : Option DV} (hx : nacc x = true) (h : vSliceS k S x lo hi mx K) : vSliceX k S x lo hi mx K := by
  cases x <;> first | (cases hx; done) | exact h
theorem shr1s_id : ∀ {ds : List DV} {K : List DV → St → Prop}, ds.all nacc = true → K ds S → shr1s S ds K
  | [], K, _, h => h
  | d :: ds, K, hd, h => by
    simp only [List.all_cons, Bool.and_eq_true] at hd
    exact shr1_id hd.1 (shr1s_id hd.2 h)
theorem shr_id {K : DV → St → Prop} {d : DV} (hd : naccA d = true) (h : K d S) : shr S d K := by
  cases d with
  | agg ds => exact shr1s_id hd h
  | acc l n => cases hd
  | _ => exact h
theorem shrs_id : ∀ {ds : List DV} {K : List DV → St → Prop}, ds.all naccA = true → K ds S → shrs S ds K
  | [], K, _, h => h
  | d :: ds, K, hd, h => by
    simp only [List.all_cons, Bool.and_eq_true] at hd
    exact shr_id hd.1 (shrs_id hd.2 h)

theorem callK_id {ds : List DV} {F : List DV → St → Prop} (hd : ds.all naccA = true) (h : F ds S) : callK S ds F := by
  unfold callK
  split
  · exact .inl h
  · exact shrs_id hd h
/-- A call that hands back one value and leaves the store. -/
def vCallQ (P : Program) (w0 : World) (cal : DV) (ds : List DV) (S : St) (K : DV → Prop) : Prop := match cal with
  | .v (.func (.func f) a cap) => a.size = 0 ∧ okF P f = true ∧ cap.toList.all (fun u => u.oneCell') = true ∧ ds.all naccA = true ∧ ∃ d, ACall P w0 f (ds ++ cap.toList.map .v) S (fun d' S' => d' = d ∧ S' = S) ∧ K d
  | _ => False
def vcOpQ (P : Program) (w0 : World) (op : Op) (fr : List DV) (S : St) (K : DV → Prop) : Prop := match op with
  | .move x => K (ev fr x)
  | .assign x => K (ev fr x)
  | .pick c a b => vPick (ev fr c) (ev fr a) (ev fr b) K
  | .load t x => vLoad (tk P t) S (ev fr x) K
  | .fieldAddr t x f => vField (tk P t) f (ev fr x) K
  | .indexAddr t x i => vIndexAddr (tk P t) (ev fr x) (ev fr i) K
  | .index t x i => vIndex (tk P t) (ev fr x) (ev fr i) K
  | .field t x f => vFieldV (tk P t) f (ev fr x) K
  | .extract x i => vExtract i (ev fr x) K
  | .nilCheck x => notNil (ev fr x) = true ∧ K (ev fr x)
  | .binOp b t x y _ => isNilC y = false ∧ vBin b (tk P t) (isC x) (isC y) (ev fr x) (ev fr y) K
  | .unOp b _ x => vUn b (ev fr x) K
  | .convert s d x => vConv (tk P s) (tk P d) (ev fr x) K
  | .makeInterface t x => isIfc (tk P t) = false ∧ naccA (ev fr x) = true ∧ K (.ifc t (ev fr x))
  | .makeFunc fn a b => vFunc fn (a.toList.map (ev fr)) (b.toList.map (ev fr)) K
  | .slice t x lo hi mx => (mx.isSome = true → hi.isSome = true) ∧ nacc (ev fr x) = true ∧ vSlice (tk P t) (ev fr x) (lo.map (ev fr)) (hi.map (ev fr)) (mx.map (ev fr)) K
  | .build t parts => (parts.toList.map fun p => ev fr p.2).all naccA = true ∧ vBuild P t ((parts.toList.map (·.1)).zip (parts.toList.map fun p => ev fr p.2)) K
  | .buildSlice t len parts => (parts.toList.map fun p => ev fr p.2).all naccA = true ∧ vBuildSlice (tk P t) (zD P (elT P t)) len ((parts.toList.map (·.1)).zip (parts.toList.map fun p => ev fr p.2)) K
  | .call c => match c.callee with
    | .builtin .len => (match c.args.toList, c.argTypes.toList with
      | [x], [t] => vLen (tk P t) (ev fr x) K
      | _, _ => False)
    | .builtin .cap => (match c.args.toList, c.argTypes.toList with
      | [x], [t] => vCap (tk P t) (ev fr x) K
      | _, _ => False)
    | .builtin .min => (match c.args.toList with
      | [x, y] => vMin (ev fr x) (ev fr y) K
      | _ => False)
    | .builtin .max => (match c.args.toList with
      | [x, y] => vMax (ev fr x) (ev fr y) K
      | _ => False)
    | .value cal => vCallQ P w0 (ev fr cal) (c.args.toList.map (ev fr)) S K
    | _ => False
  | _ => False

theorem vcOpQ_sound {o : Oper} {fr : List DV} (hs : okSl o.op = true) (h : vcOpQ P w0 o.op fr S K) : ∃ d, QY P w0 S o fr d ∧ K d := by
  have fin : ∀ {d : DV}, vcOp P w0 o.op fr S (fun d' S' => d' = d ∧ S' = S) → K d → ∃ d, QY P w0 S o fr d ∧ K d := fun h1 h2 => ⟨_, vcOp_sound hs h1, h2⟩
  cases hop : o.op with
  | move x => rw [hop] at h; exact fin (by rw [hop]; exact ⟨rfl, rfl⟩) h
  | assign x => rw [hop] at h; exact fin (by rw [hop]; exact ⟨rfl, rfl⟩) h
  | pick c a b => rw [hop] at h; obtain ⟨d, q1, q2⟩ := det_pick h; exact fin (by rw [hop]; simpa [vcOp] using q1) q2
  | load t x => rw [hop] at h; obtain ⟨d, q1, q2⟩ := det_load h; exact fin (by rw [hop]; simpa [vcOp] using q1) q2
  | fieldAddr t x f => rw [hop] at h; obtain ⟨d, q1, q2⟩ := det_field h; exact fin (by rw [hop]; simpa [vcOp] using q1) q2
  | indexAddr t x i => rw [hop] at h; obtain ⟨d, q1, q2⟩ := det_indexAddr h; exact fin (by rw [hop]; simpa [vcOp] using q1) q2
  | index t x i => rw [hop] at h; obtain ⟨d, q1, q2⟩ := det_index h; exact fin (by rw [hop]; simpa [vcOp] using q1) q2
  | field t x f => rw [hop] at h; obtain ⟨d, q1, q2⟩ := det_fieldV h; exact fin (by rw [hop]; simpa [vcOp] using q1) q2
  | extract x i => rw [hop] at h; obtain ⟨d, q1, q2⟩ := det_extract h; exact fin (by rw [hop]; simpa [vcOp] using q1) q2
  | nilCheck x => rw [hop] at h; exact fin (by rw [hop]; exact ⟨h.1, rfl, rfl⟩) h.2
  | binOp b t x y t' => rw [hop] at h; obtain ⟨d, q1, q2⟩ := det_bin h.2; exact fin (by rw [hop]; simp only [vcOp, h.1]; simpa using q1) q2
  | unOp b t x => rw [hop] at h; obtain ⟨d, q1, q2⟩ := det_un h; exact fin (by rw [hop]; simpa [vcOp] using q1) q2
  | convert s d x => rw [hop] at h; obtain ⟨d, q1, q2⟩ := det_conv h; exact fin (by rw [hop]; simpa [vcOp] using q1) q2
  | makeInterface t x => rw [hop] at h; exact fin (by rw [hop]; exact ⟨h.1, shr_id h.2.1 ⟨rfl, rfl⟩⟩) h.2.2
  | makeFunc fn a b => rw [hop] at h; obtain ⟨d, q1, q2⟩ := det_func h; exact fin (by rw [hop]; simpa [vcOp] using q1) q2
  | slice t x lo hi mx => rw [hop] at h; obtain ⟨d, q1, q2⟩ := det_slice h.2.2; exact fin (by rw [hop]; exact ⟨h.1, sliceX_id h.2.1 (shr1_id h.2.1 (by simpa using q1))⟩) q2
  | build t parts => rw [hop] at h; obtain ⟨d, q1, q2⟩ := det_build h.2; exact fin (by rw [hop]; exact shrs_id h.1 (by simpa using q1)) q2
  | buildSlice t len parts => rw [hop] at h; obtain ⟨d, q1, q2⟩ := det_buildSlice h.2; exact fin (by rw [hop]; exact shrs_id h.1 (by simpa using q1)) q2
  | call c =>
    rw [hop] at h
    obtain ⟨callee, args, ts⟩ := c
    simp only [vcOpQ] at h
    split at h
    · split at h
      · rename_i x t e1 e2
        obtain ⟨d, q1, q2⟩ := det_len h
        exact fin (by rw [hop]; simp only [vcOp, e1, e2]; simpa using q1) q2
      · exact h.elim
    · split at h
      · rename_i x t e1 e2
        obtain ⟨d, q1, q2⟩ := det_cap h
        exact fin (by rw [hop]; simp only [vcOp, e1, e2]; simpa using q1) q2
      · exact h.elim
    · split at h
      · rename_i x y e1
        obtain ⟨d, q1, q2⟩ := det_min h
        exact fin (by rw [hop]; simp only [vcOp, e1]; simpa using q1) q2
      · exact h.elim
    · split at h
      · rename_i x y e1
        obtain ⟨d, q1, q2⟩ := det_max h
        exact fin (by rw [hop]; simp only [vcOp, e1]; simpa using q1) q2
      · exact h.elim
    · rename_i cal
      unfold vCallQ at h
      split at h
      · rename_i f a cap hcal
        obtain ⟨h1, h2, h3, h4, d, h5, h6⟩ := h
        exact fin (by rw [hop]; simp only [vcOp, vCall, hcal]; exact ⟨h1, h2, h3, callK_id h4 h5⟩) h6
      · exact h.elim
    · exact h.elim
  | _ => rw [hop] at h; exact h.elim

def vcLQ (P : Program) (w0 : World) (S : St) (ops : Array Oper) (K : List DV → Prop) : List Oper → List DV → Prop
  | [], fr => K fr
  | o :: rest, fr => guardK ops fr o.guard (fun fr => vcOpQ P w0 o.op fr S fun d => vcLQ P w0 S ops K rest (pt fr o.dst d)) (fun fr => vcLQ P w0 S ops K rest (pt fr o.dst ud))
theorem vcLQ_sound {ops : Array Oper} {K : List DV → Prop} : ∀ (l : List Oper) {fr : List DV}, l.all (fun o => okSl o.op) = true → vcLQ P w0 S ops K l fr → LQ P w0 S ops K l fr
  | [], fr, _, h => h
  | o :: rest, fr, hs, h => by
    simp only [List.all_cons, Bool.and_eq_true] at hs
    refine guardK_mono (fun fr h => ?_) (fun fr h => vcLQ_sound rest hs.2 h) h
    obtain ⟨d, q1, q2⟩ := vcOpQ_sound hs.1 h
    exact ⟨d, q1, vcLQ_sound rest hs.2 q2⟩

/-- A region whose order is open. -/
theorem awp_drawQ {id : Nat} {l : List Oper} {fr : List DV} {Q : Exit → List DV → St → Prop} (hm : P.follows .mixedOrders = true) (hB : Region.lexB .any l.toArray = true) (hs : l.all (fun o => okSl o.op) = true)
    (h : vcLQ P w0 S l.toArray (fun fr => Q .normal fr S) l fr) : AWp P w0 (.region id l.toArray true) fr S Q :=
  awp_draw hm hB (vcLQ_sound l hs h)

end
end Aml
