/-
  Reckoning over statements whose order is open; The rules as they are used: functions, loops; plain values; wraps; Statements whose order is open but for their end: what writes comes behind all that reads; Which parts of the walk's words the reckoning may enter: what comes behind a step is entered when the step is done; The walk by reckoning, whole; functions and loops; Less is said of a value than is known: at calls, at results, at loops; From an argument that reads as a datum to an abstract value; from a walked call to the row's own words; The library's sort of ints, as the walk speaks; What the functions of pools compute; Rows of pages; rooms; what is the same; More forms of functions. By an AI agent.
-/
import Derived.Test.YtkibkahknibgfaaMT2
import Derived.Test.YtkibkahknibgfaaRows
import Derived.ProofKit
import Derived.OpenShut
import Derived.JoinedCond
import Derived.Carry
import Derived.Test.YtkibkahknibgfaaMT1
import Derived.Sort.Grow
namespace Aml
open Go Go.RowKit
set_option linter.unusedVariables false
set_option linter.unusedSimpArgs false

section
variable {P : Program} {w0 : W0} {S : St} {K : DV → Prop}

theorem det_pick {c a b : DV} (h : vPick c a b K) : ∃ d, vPick c a b (· = d) ∧ K d := by
  unfold vPick at *
  split at h
  · rename_i t
    cases t
    · exact ⟨b, ⟨by simp, fun _ => rfl⟩, h.2 rfl⟩
    · exact ⟨a, ⟨fun _ => rfl, by simp⟩, h.1 rfl⟩
  · exact h.elim
theorem det_hd {ds : List DV} (h : hdK ds K) : ∃ d, hdK ds (· = d) ∧ K d := by
  unfold hdK at *
  split at h
  · exact ⟨_, rfl, h⟩
  · exact h.elim
theorem det_ld {k : TK} {ds : List DV} (h : ldK k ds K) : ∃ d, ldK k ds (· = d) ∧ K d := by
  unfold ldK at *
  split at h
  · exact ⟨_, ⟨h.1, rfl⟩, h.2⟩
  · exact ⟨_, ⟨h.1, rfl⟩, h.2⟩
  · exact h.elim
  · exact det_hd h
theorem det_load {k : TK} {x : DV} (h : vLoad k S x K) : ∃ d, vLoad k S x (· = d) ∧ K d := by
  unfold vLoad at *
  split at h
  · split at h
    · rename_i hb; (try simp only [hb]); exact det_ld h
    · exact h.elim
  · exact det_ld h
  · split at h
    · rename_i hb
      obtain ⟨h1, h2, d, h3, h4, h5⟩ := h
      obtain ⟨e, q1, q2⟩ := det_ld h5
      exact ⟨e, by first | exact ⟨h1, h2, d, h3, h4, q1⟩ | (simp only [hb]; exact ⟨h1, h2, d, h3, h4, q1⟩), q2⟩
    · rename_i hb
      obtain ⟨h1, h2, d, h3, h4, h5⟩ := h
      obtain ⟨e, q1, q2⟩ := det_ld h5
      exact ⟨e, by first | exact ⟨h1, h2, d, h3, h4, q1⟩ | (simp only [hb]; exact ⟨h1, h2, d, h3, h4, q1⟩), q2⟩
    · exact h.elim
  · exact h.elim
theorem det_field {k : TK} {f : Nat} {x : DV} (h : vField k f x K) : ∃ d, vField k f x (· = d) ∧ K d := by
  unfold vField at *
  split at h
  · split at h
    · rename_i hf
      try simp only [hf]
      obtain ⟨h1, h⟩ := h
      split at h
      · exact ⟨_, ⟨h1, rfl⟩, h⟩
      · exact ⟨_, ⟨h1, h.1, rfl⟩, h.2⟩
      · exact ⟨_, ⟨h1, rfl⟩, h⟩
      · exact h.elim
    · exact h.elim
  · exact h.elim
theorem det_indexAddr {k : TK} {x i : DV} (h : vIndexAddr k x i K) : ∃ d, vIndexAddr k x i (· = d) ∧ K d := by
  unfold vIndexAddr at *
  split at h
  · split at h
    · obtain ⟨h1, h2, h3, h4⟩ := h
      rename_i z _ _ _ xs
      have hlt : z.toNat < xs.length := by omega
      obtain ⟨h5, h6⟩ := h4 _ (List.getElem?_eq_getElem hlt)
      exact ⟨_, ⟨h1, h2, h3, fun d hd => by rw [List.getElem?_eq_getElem hlt] at hd; cases hd; exact ⟨h5, rfl⟩⟩, h6⟩
    · exact ⟨_, ⟨h.1, h.2.1, rfl⟩, h.2.2⟩
    · exact h.elim
  · exact h.elim
theorem det_index {k : TK} {x i : DV} (h : vIndex k x i K) : ∃ d, vIndex k x i (· = d) ∧ K d := by
  unfold vIndex at *
  split at h
  · obtain ⟨h1, h2, h3⟩ := h
    rename_i s _ z
    have hlt : z.toNat < s.data.toList.length := by simp; have : s.data.size = s.size := rfl; omega
    exact ⟨_, ⟨h1, h2, fun d hd => by rw [List.getElem?_eq_getElem hlt] at hd; cases hd; rfl⟩, h3 _ (List.getElem?_eq_getElem hlt)⟩
  · exact h.elim
theorem det_fieldV {k : TK} {f : Nat} {x : DV} (h : vFieldV k f x K) : ∃ d, vFieldV k f x (· = d) ∧ K d := by
  unfold vFieldV at *
  split at h
  · split at h
    · rename_i hf
      try simp only [hf]
      split at h
      · obtain ⟨h1, h⟩ := h
        split at h
        · exact ⟨_, ⟨h1, rfl⟩, h⟩
        · split at h
          · rename_i hd; (try simp only [hd]); exact ⟨_, ⟨h1, rfl⟩, h⟩
          · exact h.elim
      · exact h.elim
    · exact h.elim
  · exact h.elim
theorem det_extract {i : Nat} {x : DV} (h : vExtract i x K) : ∃ d, vExtract i x (· = d) ∧ K d := by
  unfold vExtract at *
  split at h
  · split at h
    · rename_i hd; (try simp only [hd]); exact ⟨_, rfl, h⟩
    · exact h.elim
  · exact h.elim
theorem det_binI {op : BinOp} {k : IntKind} {m n : Int} (h : vBinI op k m n K) : ∃ d, vBinI op k m n (· = d) ∧ K d := by
  cases op <;> simp only [vBinI] at h ⊢ <;> first | exact ⟨_, rfl, h⟩ | exact ⟨_, ⟨h.1, rfl⟩, h.2⟩
theorem det_binS {op : BinOp} {x y : ByteArray} (h : vBinS op x y K) : ∃ d, vBinS op x y (· = d) ∧ K d := by
  cases op <;> simp only [vBinS] at h ⊢ <;> first | exact ⟨_, rfl, h⟩ | exact ⟨_, ⟨h.1, rfl⟩, h.2⟩
theorem det_bin {op : BinOp} {t : TK} {cx cy : Bool} {x y : DV} (h : vBin op t cx cy x y K) : ∃ d, vBin op t cx cy x y (· = d) ∧ K d := by
  unfold vBin at *
  split at h
  · obtain ⟨d, q1, q2⟩ := det_binI h.2
    exact ⟨d, ⟨h.1, q1⟩, q2⟩
  · exact det_binS h
  · split at h <;> first | exact ⟨_, rfl, h⟩ | exact h.elim
  · split at h <;> first | exact ⟨_, ⟨h.1, rfl⟩, h.2⟩ | exact h.elim
  · split at h <;> first | exact ⟨_, rfl, h⟩ | exact h.elim
  · split at h <;> first | exact ⟨_, rfl, h⟩ | exact h.elim
  · split at h <;> first | exact ⟨_, ⟨h.1, rfl⟩, h.2⟩ | exact h.elim
  · exact h.elim
theorem det_un {op : UnOp} {x : DV} (h : vUn op x K) : ∃ d, vUn op x (· = d) ∧ K d := by
  unfold vUn at *
  split at h <;> first | exact ⟨_, rfl, h⟩ | exact h.elim
theorem det_conv {a b : TK} {x : DV} (h : vConv a b x K) : ∃ d, vConv a b x (· = d) ∧ K d := by
  unfold vConv at *
  split at h <;> first | exact ⟨_, rfl, h⟩ | exact h.elim
theorem det_func {fn : Fn} {a b : List DV} (h : vFunc fn a b K) : ∃ d, vFunc fn a b (· = d) ∧ K d := by
  unfold vFunc at *
  split at h <;> first | exact ⟨_, rfl, h⟩ | exact h.elim
theorem det_bnd {x : Option DV} {z : Int} {F : (DV → Prop) → Int → Prop} (hF : ∀ n, F K n → ∃ d, F (· = d) n ∧ K d) (h : bnd x z (F K)) : ∃ d, bnd x z (F (· = d)) ∧ K d := by
  unfold bnd at *
  split at h <;> first | exact hF _ h | exact h.elim
theorem det_slice {k : TK} {x : DV} {lo hi mx : Option DV} (h : vSlice k x lo hi mx K) : ∃ d, vSlice k x lo hi mx (· = d) ∧ K d := by
  unfold vSlice at *
  split at h
  · obtain ⟨h1, h⟩ := h
    rename_i e s b s' f xs
    obtain ⟨d, q1, q2⟩ := det_bnd (F := fun K l => bnd hi xs.length fun h => bnd mx h fun m => 0 ≤ l ∧ l ≤ h ∧ h ≤ m ∧ m ≤ xs.length ∧
      K (.sl s (if mx.isSome then decide (m = h) else (f && (hi.isNone || xs.isEmpty))) ((xs.take h.toNat).drop l.toNat))) (fun l h => det_bnd (F := fun K h => bnd mx h fun m => 0 ≤ l ∧ l ≤ h ∧ h ≤ m ∧ m ≤ xs.length ∧
      K (.sl s (if mx.isSome then decide (m = h) else (f && (hi.isNone || xs.isEmpty))) ((xs.take h.toNat).drop l.toNat))) (fun hh h => det_bnd (F := fun K m => 0 ≤ l ∧ l ≤ hh ∧ hh ≤ m ∧ m ≤ xs.length ∧
      K (.sl s (if mx.isSome then decide (m = hh) else (f && (hi.isNone || xs.isEmpty))) ((xs.take hh.toNat).drop l.toNat))) (fun m h => ⟨_, ⟨h.1, h.2.1, h.2.2.1, h.2.2.2.1, rfl⟩, h.2.2.2.2⟩) h) h) h
    exact ⟨d, ⟨h1, q1⟩, q2⟩
  · obtain ⟨h1, h⟩ := h
    rename_i s
    obtain ⟨d, q1, q2⟩ := det_bnd (F := fun K l => bnd hi s.size fun h => 0 ≤ l ∧ l ≤ h ∧ h ≤ s.size ∧ K (.v (.string (s.extract l.toNat h.toNat)))) (fun l h => det_bnd (F := fun K h => 0 ≤ l ∧ l ≤ h ∧ h ≤ s.size ∧ K (.v (.string (s.extract l.toNat h.toNat))))
      (fun hh h => ⟨_, ⟨h.1, h.2.1, h.2.2.1, rfl⟩, h.2.2.2⟩) h) h
    exact ⟨d, ⟨h1, q1⟩, q2⟩
  · exact h.elim
theorem det_len {k : TK} {x : DV} (h : vLen k x K) : ∃ d, vLen k x (· = d) ∧ K d := by
  unfold vLen at *
  split at h <;> first | exact ⟨_, rfl, h⟩ | exact h.elim
theorem det_cap {k : TK} {x : DV} (h : vCap k x K) : ∃ d, vCap k x (· = d) ∧ K d := by
  unfold vCap at *
  split at h <;> first | exact ⟨_, rfl, h⟩ | exact h.elim
theorem det_min {x y : DV} (h : vMin x y K) : ∃ d, vMin x y (· = d) ∧ K d := by
  unfold vMin at *
  split at h <;> first | exact ⟨_, rfl, h⟩ | exact h.elim
theorem det_max {x y : DV} (h : vMax x y K) : ∃ d, vMax x y (· = d) ∧ K d := by
  unfold vMax at *
  split at h <;> first | exact ⟨_, rfl, h⟩ | exact h.elim
theorem det_build {t : TypeId} {parts : List (Nat × DV)} (h : vBuild P t parts K) : ∃ d, vBuild P t parts (· = d) ∧ K d := by
  unfold vBuild at *
  split at h
  · split at h
    · rename_i hf; (try simp only [hf]); exact ⟨_, rfl, h⟩
    · exact h.elim
  · exact h.elim
theorem det_buildSlice {k : TK} {z : DV} {len : Nat} {parts : List (Nat × DV)} (h : vBuildSlice k z len parts K) : ∃ d, vBuildSlice k z len parts (· = d) ∧ K d := by
  unfold vBuildSlice at *
  split at h
  · obtain ⟨h1, h2, h3, h⟩ := h
    split at h
    · rename_i hf; (try simp only [hf]); exact ⟨_, ⟨h1, h2, h3, rfl⟩, h⟩
    · exact h.elim
  · exact h.elim

def nacc : DV → Bool
  | .acc _ _ => false
  | _ => true
def naccA : DV → Bool
  | .agg ds => ds.all nacc
  | d => nacc d
theorem shr1_id {K : DV → St → Prop} {d : DV} (hd : nacc d = true) (h : K d S) : shr1 S d K := by
  cases d <;> first | (cases hd; done) | exact h
theorem sliceX_id {K : DV → St → Prop} {k : TK} {x : DV} {lo hi mx : Option DV} (hx : nacc x = true) (h : vSliceS k S x lo hi mx K) : vSliceX k S x lo hi mx K := by
  cases x <;> first | (cases hx; done) | exact h
theorem shr1s_id : ∀ {ds : List DV} {K : List DV → St → Prop}, ds.all nacc = true → K ds S → shr1s S ds K
  | [], K, _, h => h
  | d :: ds, K, hd, h => by
    simp only [List.all_cons, Bool.and_eq_true] at hd
    exact shr1_id hd.1 (shr1s_id hd.2 h)
theorem shr_id {K : DV → St → Prop} {d : DV} (hd : naccA d = true) (h : K d S) : shr S d K := by
  cases d with
  | agg ds => exact shr1s_id hd h
  | acc l n => cases hd
  | _ => exact h
theorem shrs_id : ∀ {ds : List DV} {K : List DV → St → Prop}, ds.all naccA = true → K ds S → shrs S ds K
  | [], K, _, h => h
  | d :: ds, K, hd, h => by
    simp only [List.all_cons, Bool.and_eq_true] at hd
    exact shr_id hd.1 (shrs_id hd.2 h)

theorem callK_id {ds : List DV} {F : List DV → St → Prop} (hd : ds.all naccA = true) (h : F ds S) : callK S ds F := by
  unfold callK
  split
  · exact .inl h
  · exact shrs_id hd h
/-- A call that hands back one value and leaves the store. -/
def vCallQ (P : Program) (w0 : W0) (cal : DV) (ds : List DV) (S : St) (K : DV → Prop) : Prop := match cal with
  | .v (.func (.func f) a cap) => a.size = 0 ∧ okF P f = true ∧ cap.toList.all (fun u => u.oneCell') = true ∧ ds.all naccA = true ∧ ∃ d, ACall P w0 f (ds ++ cap.toList.map .v) S (fun d' S' => d' = d ∧ S' = S) ∧ K d
  | _ => False
def vcOpQ (P : Program) (w0 : W0) (op : Op) (fr : List DV) (S : St) (K : DV → Prop) : Prop := match op with
  | .move x => K (ev fr x)
  | .assign x => K (ev fr x)
  | .pick c a b => vPick (ev fr c) (ev fr a) (ev fr b) K
  | .load t x => vLoad (tk P t) S (ev fr x) K
  | .fieldAddr t x f => vField (tk P t) f (ev fr x) K
  | .indexAddr t x i => vIndexAddr (tk P t) (ev fr x) (ev fr i) K
  | .index t x i => vIndex (tk P t) (ev fr x) (ev fr i) K
  | .field t x f => vFieldV (tk P t) f (ev fr x) K
  | .extract x i => vExtract i (ev fr x) K
  | .nilCheck x => notNil (ev fr x) = true ∧ K (ev fr x)
  | .binOp b t x y _ => isNilC y = false ∧ vBin b (tk P t) (isC x) (isC y) (ev fr x) (ev fr y) K
  | .unOp b _ x => vUn b (ev fr x) K
  | .convert s d x => vConv (tk P s) (tk P d) (ev fr x) K
  | .makeInterface t x => isIfc (tk P t) = false ∧ naccA (ev fr x) = true ∧ K (.ifc t (ev fr x))
  | .makeFunc fn a b => vFunc fn (a.toList.map (ev fr)) (b.toList.map (ev fr)) K
  | .slice t x lo hi mx => (mx.isSome = true → hi.isSome = true) ∧ nacc (ev fr x) = true ∧ vSlice (tk P t) (ev fr x) (lo.map (ev fr)) (hi.map (ev fr)) (mx.map (ev fr)) K
  | .build t parts => (parts.toList.map fun p => ev fr p.2).all naccA = true ∧ vBuild P t ((parts.toList.map (·.1)).zip (parts.toList.map fun p => ev fr p.2)) K
  | .buildSlice t len parts => (parts.toList.map fun p => ev fr p.2).all naccA = true ∧ vBuildSlice (tk P t) (zD P (elT P t)) len ((parts.toList.map (·.1)).zip (parts.toList.map fun p => ev fr p.2)) K
  | .call c => match c.callee with
    | .builtin .len => (match c.args.toList, c.argTypes.toList with
      | [x], [t] => vLen (tk P t) (ev fr x) K
      | _, _ => False)
    | .builtin .cap => (match c.args.toList, c.argTypes.toList with
      | [x], [t] => vCap (tk P t) (ev fr x) K
      | _, _ => False)
    | .builtin .min => (match c.args.toList with
      | [x, y] => vMin (ev fr x) (ev fr y) K
      | _ => False)
    | .builtin .max => (match c.args.toList with
      | [x, y] => vMax (ev fr x) (ev fr y) K
      | _ => False)
    | .value cal => vCallQ P w0 (ev fr cal) (c.args.toList.map (ev fr)) S K
    | _ => False
  | _ => False

theorem vcOpQ_sound {o : Oper} {fr : List DV} (hs : okSl o.op = true) (h : vcOpQ P w0 o.op fr S K) : ∃ d, QY P w0 S o fr d ∧ K d := by
  have fin : ∀ {d : DV}, vcOp P w0 o.op fr S (fun d' S' => d' = d ∧ S' = S) → K d → ∃ d, QY P w0 S o fr d ∧ K d := fun h1 h2 => ⟨_, vcOp_sound hs h1, h2⟩
  cases hop : o.op with
  | move x => rw [hop] at h; exact fin (by rw [hop]; exact ⟨rfl, rfl⟩) h
  | assign x => rw [hop] at h; exact fin (by rw [hop]; exact ⟨rfl, rfl⟩) h
  | pick c a b => rw [hop] at h; obtain ⟨d, q1, q2⟩ := det_pick h; exact fin (by rw [hop]; simpa [vcOp] using q1) q2
  | load t x => rw [hop] at h; obtain ⟨d, q1, q2⟩ := det_load h; exact fin (by rw [hop]; simpa [vcOp] using q1) q2
  | fieldAddr t x f => rw [hop] at h; obtain ⟨d, q1, q2⟩ := det_field h; exact fin (by rw [hop]; simpa [vcOp] using q1) q2
  | indexAddr t x i => rw [hop] at h; obtain ⟨d, q1, q2⟩ := det_indexAddr h; exact fin (by rw [hop]; simpa [vcOp] using q1) q2
  | index t x i => rw [hop] at h; obtain ⟨d, q1, q2⟩ := det_index h; exact fin (by rw [hop]; simpa [vcOp] using q1) q2
  | field t x f => rw [hop] at h; obtain ⟨d, q1, q2⟩ := det_fieldV h; exact fin (by rw [hop]; simpa [vcOp] using q1) q2
  | extract x i => rw [hop] at h; obtain ⟨d, q1, q2⟩ := det_extract h; exact fin (by rw [hop]; simpa [vcOp] using q1) q2
  | nilCheck x => rw [hop] at h; exact fin (by rw [hop]; exact ⟨h.1, rfl, rfl⟩) h.2
  | binOp b t x y t' => rw [hop] at h; obtain ⟨d, q1, q2⟩ := det_bin h.2; exact fin (by rw [hop]; simp only [vcOp, h.1]; simpa using q1) q2
  | unOp b t x => rw [hop] at h; obtain ⟨d, q1, q2⟩ := det_un h; exact fin (by rw [hop]; simpa [vcOp] using q1) q2
  | convert s d x => rw [hop] at h; obtain ⟨d', q1, q2⟩ := det_conv h; exact fin (by rw [hop]; simpa [vcOp] using vConvS_of (ke := tk P (elT P s)) (S := S) q1) q2
  | makeInterface t x => rw [hop] at h; exact fin (by rw [hop]; exact ⟨h.1, shr_id h.2.1 ⟨rfl, rfl⟩⟩) h.2.2
  | makeFunc fn a b => rw [hop] at h; obtain ⟨d, q1, q2⟩ := det_func h; exact fin (by rw [hop]; simpa [vcOp] using q1) q2
  | slice t x lo hi mx => rw [hop] at h; obtain ⟨d, q1, q2⟩ := det_slice h.2.2; exact fin (by rw [hop]; exact ⟨h.1, sliceX_id h.2.1 (shr1_id h.2.1 (by simpa using q1))⟩) q2
  | build t parts => rw [hop] at h; obtain ⟨d, q1, q2⟩ := det_build h.2; exact fin (by rw [hop]; exact shrs_id h.1 (by simpa using q1)) q2
  | buildSlice t len parts => rw [hop] at h; obtain ⟨d, q1, q2⟩ := det_buildSlice h.2; exact fin (by rw [hop]; exact shrs_id h.1 (by simpa using q1)) q2
  | call c =>
    rw [hop] at h
    obtain ⟨callee, args, ts⟩ := c
    simp only [vcOpQ] at h
    split at h
    · split at h
      · rename_i x t e1 e2
        obtain ⟨d, q1, q2⟩ := det_len h
        exact fin (by rw [hop]; simp only [vcOp, e1, e2]; simpa using q1) q2
      · exact h.elim
    · split at h
      · rename_i x t e1 e2
        obtain ⟨d, q1, q2⟩ := det_cap h
        exact fin (by rw [hop]; simp only [vcOp, e1, e2]; simpa using q1) q2
      · exact h.elim
    · split at h
      · rename_i x y e1
        obtain ⟨d, q1, q2⟩ := det_min h
        exact fin (by rw [hop]; simp only [vcOp, e1]; simpa using q1) q2
      · exact h.elim
    · split at h
      · rename_i x y e1
        obtain ⟨d, q1, q2⟩ := det_max h
        exact fin (by rw [hop]; simp only [vcOp, e1]; simpa using q1) q2
      · exact h.elim
    · rename_i cal
      unfold vCallQ at h
      split at h
      · rename_i f a cap hcal
        obtain ⟨h1, h2, h3, h4, d, h5, h6⟩ := h
        exact fin (by rw [hop]; simp only [vcOp, vCall, hcal]; exact ⟨h1, h2, h3, callK_id h4 h5⟩) h6
      · exact h.elim
    · exact h.elim
  | _ => rw [hop] at h; exact h.elim

def vcLQ (P : Program) (w0 : W0) (S : St) (ops : Array Oper) (K : List DV → Prop) : List Oper → List DV → Prop
  | [], fr => K fr
  | o :: rest, fr => guardK ops fr o.guard (fun fr => vcOpQ P w0 o.op fr S fun d => vcLQ P w0 S ops K rest (pt fr o.dst d)) (fun fr => vcLQ P w0 S ops K rest (pt fr o.dst ud))
theorem vcLQ_sound {ops : Array Oper} {K : List DV → Prop} : ∀ (l : List Oper) {fr : List DV}, l.all (fun o => okSl o.op) = true → vcLQ P w0 S ops K l fr → LQ P w0 S ops K l fr
  | [], fr, _, h => h
  | o :: rest, fr, hs, h => by
    simp only [List.all_cons, Bool.and_eq_true] at hs
    refine guardK_mono (fun fr h => ?_) (fun fr h => vcLQ_sound rest hs.2 h) h
    obtain ⟨d, q1, q2⟩ := vcOpQ_sound hs.1 h
    exact ⟨d, q1, vcLQ_sound rest hs.2 q2⟩

/-- A region whose order is open. -/
theorem awp_drawQ {id : Nat} {l : List Oper} {fr : List DV} {Q : Exit → List DV → St → Prop} (hm : P.follows .mixedOrders = true) (hB : Region.lexB .any l.toArray = true) (hs : l.all (fun o => okSl o.op) = true)
    (h : vcLQ P w0 S l.toArray (fun fr => Q .normal fr S) l fr) : AWp P w0 (.region id l.toArray true) fr S Q :=
  awp_draw hm hB (vcLQ_sound l hs h)

end
end Aml

namespace Aml
open Go Go.RowKit
set_option linter.unusedVariables false
set_option linter.unusedSimpArgs false

def dI (n : Int) : DV := .v (.int .i64 n)
def dU (n : Int) : DV := .v (.int .u64 n)
def dY (n : Int) : DV := .v (.int .u8 n)
def dB (b : Bool) : DV := .v (.bool b)
def dS (s : ByteArray) : DV := .v (.string s)

theorem wu64 {n : Int} (h0 : 0 ≤ n) (h1 : n ≤ 18446744073709551615) : IntKind.u64.wrap n = n := by
  show n % 18446744073709551616 = n
  omega
theorem wu8 {n : Int} (h0 : 0 ≤ n) (h1 : n ≤ 255) : IntKind.u8.wrap n = n := by
  show n % 256 = n
  omega

section
variable {P : Program} {w0 : W0}
/-- The length of a slice in a slot is a length. -/
theorem awp_len (i : Nat) {c : Code} {fr : List DV} {S : St} {Q : Exit → List DV → St → Prop} {s : Nat} {f : Bool} {xs : List DV} (hi : fr[i]? = some (.sl s f xs)) (h : xs.length ≤ maxLen → AWp P w0 c fr S Q) : AWp P w0 c fr S Q := by
  intro g a w h1 h2 h3
  have hlt : i < a.tmps.toList.length := by rw [← h2.len]; exact (List.getElem?_eq_some_iff.1 hi).1
  have hr := h2.at_ i _ _ hi (List.getElem?_eq_getElem hlt)
  refine h ?_ g a w h1 h2 h3
  rcases rep_sl hr with ⟨he, _⟩ | ⟨b, o', c', us, hv', hr, hfl, hlc, hcm, _⟩
  · rw [he]; simp
  · omega
/-- The same at a call. -/
theorem acall_len (i : Nat) {f : FuncId} {args : List DV} {S : St} {K : DV → St → Prop} {s : Nat} {fl : Bool} {xs : List DV} (hi : args[i]? = some (.sl s fl xs)) (h : xs.length ≤ 9223372036854775807 → ACall P w0 f args S K) : ACall P w0 f args S K := by
  intro g vs w h1 h2
  have hlt : i < vs.toList.length := by rw [← h2.len]; exact (List.getElem?_eq_some_iff.1 hi).1
  have hr := h2.at_ i _ _ hi (List.getElem?_eq_getElem hlt)
  refine h ?_ g vs w h1 h2
  rcases rep_sl hr with ⟨he, _⟩ | ⟨b, o', c', us, hv', hr, hfl, hlc, hcm, _⟩
  · rw [he]; simp
  · have : maxLen = 9223372036854775807 := rfl
    omega
end
end Aml

namespace Aml
open Go Go.RowKit
set_option linter.unusedVariables false
set_option linter.unusedSimpArgs false

def isQ : Op → Bool
  | .store .. | .box .. | .alloc .. | .makeSlice .. | .mapUpdate .. | .makeMap .. => false
  | .call c => match c.callee with
    | .builtin .append | .builtin .clear | .builtin .delete | .builtin .copy => false
    | _ => true
  | _ => true
def reachB (md : Region.Mode) (ops : Array Oper) : Nat → Nat → Nat → Bool
  | 0, _, _ => false
  | n + 1, k, i => match ops[k]? with
    | none => false
    | some o => o.after.any fun e => Region.binds md e && (e.on == i || reachB md ops n e.on i)
def backB (md : Region.Mode) (ops : Array Oper) : Bool := (List.range ops.size).all fun k => match ops[k]? with
  | none => true
  | some o => o.after.all fun e => !Region.binds md e || decide (e.on < k)
def tailB (md : Region.Mode) (ops : Array Oper) (n : Nat) : Bool := backB md ops &&
  ((List.range ops.size).all fun k => decide (k < n) || (List.range k).all fun i => reachB md ops ops.size k i) &&
  (ops.toList.take n).all fun o => match o.guard with | none => true | some (j, _) => decide (j < n)

section
variable {P : Program} {w0 : W0} {ops : Array Oper} {md : Region.Mode}

theorem back_spec (h : backB md ops = true) {k : Nat} {o : Oper} (hk : ops[k]? = some o) : ∀ e ∈ o.after, Region.binds md e = true → e.on < k := by
  intro e he hb
  have hlt : k < ops.size := (Array.getElem?_eq_some_iff.1 hk).1
  have := List.all_eq_true.1 h k (List.mem_range.2 hlt)
  simp only [hk] at this
  have := Array.all_eq_true'.1 this e he
  simpa [hb] using this
/-- What is listed has what it stands behind listed. -/
def Clo (md : Region.Mode) (ops : Array Oper) (L : Array Bool) : Prop := ∀ (j : Nat) (o : Oper), ops[j]? = some o → L[j]? = some true → ∀ e ∈ o.after, Region.binds md e = true → L[e.on]? = some true
theorem reach_listed {L : Array Bool} (hc : Clo md ops L) : ∀ (n k i : Nat) (o : Oper), ops[k]? = some o → (∀ e ∈ o.after, Region.binds md e = true → L[e.on]? = some true) → reachB md ops n k i = true → L[i]? = some true
  | 0, _, _, _, _, _, h => by cases h
  | n + 1, k, i, o, hk, ha, h => by
    simp only [reachB, hk] at h
    obtain ⟨e, he, h⟩ := Array.any_eq_true'.1 h
    simp only [Bool.and_eq_true, Bool.or_eq_true, beq_iff_eq] at h
    rcases h.2 with h' | h'
    · rw [← h']; exact ha e he h.1
    · have hl := ha e he h.1
      cases ho : ops[e.on]? with
      | none => cases n <;> simp [reachB, ho] at h'
      | some o' => exact reach_listed hc n e.on i o' ho (hc e.on o' ho hl) h'
theorem getD_false {L : Array Bool} {i : Nat} : L.getD i false = true ↔ L[i]? = some true := by
  rw [Array.getD_eq_getD_getElem?]
  cases L[i]? <;> simp
theorem getD_true {L : Array Bool} {i : Nat} : L.getD i true = false ↔ L[i]? = some false := by
  rw [Array.getD_eq_getD_getElem?]
  cases L[i]? <;> simp

theorem step_op {ro : Option Nat} {g0 g : Gh} {Q : Exit → List DV → St → Prop} {o : Oper} {fr : List DV} {S : St} {a : Act} {w : World} {K : List DV → St → Prop} {K' : Act → World → Prop} (k : g0.le g) (h1 : Rel w0 g S w) (h2 : RepL g fr a.tmps.toList) (h3 : Dk w0 g.obj a w)
    (hK : ∀ fr S g a w, g0.le g → Rel w0 g S w → RepL g fr a.tmps.toList → Dk w0 g.obj a w → K fr S → K' a w)
    (h : guardK ops fr o.guard (fun fr => YieldsE P w0 o (ev fr) S fun d S' => K (pt fr o.dst d) S') (fun fr => K (pt fr o.dst ud) S)) {i : Nat} (hi : ops[i]? = some o) :
    wpOpIn (fz ro) 0 P ops (Good w0 g0 Q) i K' a w := by
  unfold wpOpIn
  simp only [hi]
  rcases guard_sound h2 h with ⟨hw, fr', h2', hA⟩ | ⟨hw, fr', h2', hB⟩
  · rw [if_pos hw]
    refine wpIn_of_yields hA h1 (fun x _ => rep_ev h2' x) h3 fun g' d u S' w' k1 k2 k3 k4 k5 => ?_
    exact hK _ _ g' _ _ (k.trans k1) k2 (repL_put (h2'.mono k1) _ k3) (k1.dk k5) k4
  · rw [if_neg (by simp [hw])]
    exact ⟨fun _ _ => trivial, hK _ _ g _ _ k h1 (repL_put h2' _ (rep_ud g)) (h3.keep (put_defers _ _ _) fun _ _ h _ => h) hB⟩

theorem LQ_mono {S : St} {K K' : List DV → Prop} (hk : ∀ fr, K fr → K' fr) : ∀ {l : List Oper} {fr : List DV}, LQ P w0 S ops K l fr → LQ P w0 S ops K' l fr
  | [], fr, h => hk _ h
  | o :: rest, fr, h => guardK_mono (fun fr ⟨d, q1, q2⟩ => ⟨d, q1, LQ_mono hk q2⟩) (fun fr h => LQ_mono hk h) h
theorem wpAny_tail {ro : Option Nat} {g0 : Gh} {Q : Exit → List DV → St → Prop} {n : Nat} (hB : tailB md ops n = true) : ∀ (l : List Oper) (k fuel : Nat) (L : Array Bool) (fr : List DV) (S : St) (g : Gh) (a : Act) (w : World),
    (∀ j, l[j]? = ops[k + j]?) → n ≤ k → k ≤ ops.size → l.length ≤ fuel → L.size = ops.size → (∀ i, i < k → L[i]? = some true) → (∀ i, k ≤ i → i < ops.size → L[i]? = some false) → g0.le g → Rel w0 g S w → RepL g fr a.tmps.toList → Dk w0 g.obj a w →
    LWp P w0 ops (fun fr S => Q .normal fr S) l fr S → wpAnyIn (fz ro) 0 P md ops (Good w0 g0 Q) fuel L a w := by
  simp only [tailB, Bool.and_eq_true] at hB
  obtain ⟨⟨hb, ha⟩, -⟩ := hB
  have none_ready : ∀ (k : Nat) (L : Array Bool), ops.size ≤ k → L.size = ops.size → (∀ i, i < k → L[i]? = some true ∨ ops.size ≤ i) → ∀ i, i ∉ Region.ready md ops L := by
    intro k L hk hs hl i hi
    obtain ⟨h1, o, ho, _⟩ := mem_ready.1 hi
    rw [getD_true] at h1
    have hlt : i < ops.size := (Array.getElem?_eq_some_iff.1 ho).1
    rcases hl i (by omega) with h | h
    · rw [h] at h1; cases h1
    · omega
  intro l
  induction l with
  | nil =>
    intro k fuel L fr S g a w hl hn hk hf hs ht hu k1 h1 h2 h3 h
    have hk' : ops.size ≤ k := by
      have := hl 0
      simp only [List.getElem?_nil, Nat.add_zero] at this
      exact Array.getElem?_eq_none_iff.1 this.symm
    have hno := none_ready k L hk' hs (fun i hi => .inl (ht i hi))
    have hemp : Region.ready md ops L = [] := List.eq_nil_iff_forall_not_mem.2 hno
    cases fuel with
    | zero => exact ⟨hemp, k1.kd h3, g, fr, S, k1, h1, h2, h⟩
    | succ fuel => exact ⟨fun _ => ⟨k1.kd h3, g, fr, S, k1, h1, h2, h⟩, fun i hi => absurd hi (hno i)⟩
  | cons o rest ih =>
    intro k fuel L fr S g a w hl hn hk hf hs ht hu k1 h1 h2 h3 h
    have h0 : ops[k]? = some o := by simpa using (hl 0).symm
    have hklt : k < ops.size := (Array.getElem?_eq_some_iff.1 h0).1
    have hready : k ∈ Region.ready md ops L := mem_ready.2 ⟨getD_true.2 (hu k (Nat.le_refl _) hklt), o, h0, fun e he hbe => getD_false.2 (ht _ (back_spec hb h0 e he hbe))⟩
    cases fuel with
    | zero => simp at hf
    | succ fuel =>
      refine ⟨fun h => (by rw [h] at hready; cases hready), fun i hi => ?_⟩
      obtain ⟨hi1, oi, hoi, hia⟩ := mem_ready.1 hi
      rw [getD_true] at hi1
      have hilt : i < ops.size := (Array.getElem?_eq_some_iff.1 hoi).1
      have hclo : Clo md ops L := fun j oj hj hlj e he hbe => by
        have hjk : j < k := by
          rcases Nat.lt_or_ge j k with h | h
          · exact h
          · rw [hu j h (Array.getElem?_eq_some_iff.1 hj).1] at hlj; cases hlj
        exact ht _ (Nat.lt_trans (back_spec hb hj e he hbe) hjk)
      have hik : i = k := by
        rcases Nat.lt_trichotomy i k with h | h | h
        · rw [ht i h] at hi1; cases hi1
        · exact h
        · have hr := List.all_eq_true.1 ha i (List.mem_range.2 hilt)
          rw [Bool.or_eq_true] at hr
          rcases hr with hr | hr
          · have := of_decide_eq_true hr; omega
          · have hr := List.all_eq_true.1 hr k (List.mem_range.2 h)
            have := reach_listed hclo _ i k oi hoi (fun e he hbe => getD_false.1 (hia e he hbe)) hr
            rw [hu k (Nat.le_refl _) hklt] at this; cases this
      subst hik
      refine step_op (o := o) k1 h1 h2 h3 (K := LWp P w0 ops (fun fr S => Q .normal fr S) rest) ?_ h h0
      intro fr' S' g' a' w' q1 q2 q3 q4 q5
      refine ih (i + 1) fuel (L.setIfInBounds i true) fr' S' g' a' w' (fun j => by have := hl (j + 1); simpa [Nat.add_assoc, Nat.add_comm 1 j] using this) (by omega) (by omega) (by simpa using hf) (by simpa using hs) ?_ ?_ q1 q2 q3 q4 q5
      · intro j hj
        rw [Array.getElem?_setIfInBounds]
        split
        · rename_i e; rw [if_pos (by omega)]
        · exact ht j (by omega)
      · intro j hj hj'
        rw [Array.getElem?_setIfInBounds, if_neg (by omega)]
        exact hu j (by omega) hj'

theorem wpAny_pre {ro : Option Nat} {g0 : Gh} {Q : Exit → List DV → St → Prop} {S : St} {n : Nat} (hB : tailB md ops n = true) (hn : n ≤ ops.size) : ∀ (fuel F : Nat) (L M : Array Bool) (fr : List DV) (g : Gh) (a : Act) (w : World),
    L.size = n → M.size = ops.size → (∀ i, i < n → M[i]? = L[i]?) → (∀ i, n ≤ i → i < ops.size → M[i]? = some false) → Clo md ops M → fuel + (ops.size - n) ≤ F → g0.le g → Rel w0 g S w → RepL g fr a.tmps.toList → Dk w0 g.obj a w →
    wpAnyD P w0 S md (ops.toList.take n).toArray (fun fr => LWp P w0 ops (fun fr S => Q .normal fr S) (ops.toList.drop n) fr S) fuel L fr → wpAnyIn (fz ro) 0 P md ops (Good w0 g0 Q) F M a w := by
  have hB' := hB
  simp only [tailB, Bool.and_eq_true] at hB'
  obtain ⟨⟨hb, ha⟩, hg⟩ := hB'
  have hpre : ∀ i, i < n → (ops.toList.take n).toArray[i]? = ops[i]? := fun i hi => by simp [List.getElem?_take, hi]
  have full : ∀ (L M : Array Bool), L.size = n → M.size = ops.size → (∀ i, i < n → M[i]? = L[i]?) → Region.ready md (ops.toList.take n).toArray L = [] → ∀ i, i < n → M[i]? = some true := by
    intro L M hs hM hLM hr i
    induction i using Nat.strongRecOn with
    | _ i ih =>
      intro hi
      have hlt : i < M.size := by omega
      have hsome : ∃ o, ops[i]? = some o := ⟨_, Array.getElem?_eq_getElem (by omega)⟩
      obtain ⟨o, ho⟩ := hsome
      cases hx : M[i]? with
      | none => rw [Array.getElem?_eq_getElem hlt] at hx; cases hx
      | some x =>
        cases x with
        | true => rfl
        | false =>
          have : i ∈ Region.ready md (ops.toList.take n).toArray L := mem_ready.2 ⟨getD_true.2 (by rw [← hLM i hi]; exact hx), o, by rw [hpre i hi]; exact ho, fun e he hbe => by
            have hlt' := back_spec hb ho e he hbe
            rw [getD_false, ← hLM _ (by omega)]
            exact ih _ hlt' (by omega)⟩
          rw [hr] at this; cases this
  have tail : ∀ (F : Nat) (L M : Array Bool) (fr : List DV) (g : Gh) (a : Act) (w : World), L.size = n → M.size = ops.size → (∀ i, i < n → M[i]? = L[i]?) → (∀ i, n ≤ i → i < ops.size → M[i]? = some false) → ops.size - n ≤ F → g0.le g → Rel w0 g S w → RepL g fr a.tmps.toList → Dk w0 g.obj a w →
      Region.ready md (ops.toList.take n).toArray L = [] → LWp P w0 ops (fun fr S => Q .normal fr S) (ops.toList.drop n) fr S → wpAnyIn (fz ro) 0 P md ops (Good w0 g0 Q) F M a w := by
    intro F L M fr g a w hs hM hLM hM0 hF q1 q2 q3 q4 hr h
    exact wpAny_tail hB (ops.toList.drop n) n F M fr S g a w (fun j => by simp [List.getElem?_drop]) (Nat.le_refl _) hn (by simp; omega) hM (full L M hs hM hLM hr) hM0 q1 q2 q3 q4 h
  intro fuel
  induction fuel with
  | zero =>
    intro F L M fr g a w hs hM hLM hM0 hc hF q1 q2 q3 q4 h
    exact tail F L M fr g a w hs hM hLM hM0 (by omega) q1 q2 q3 q4 h.1 h.2
  | succ fuel ih =>
    intro F L M fr g a w hs hM hLM hM0 hc hF q1 q2 q3 q4 h
    by_cases hr : Region.ready md (ops.toList.take n).toArray L = []
    · exact tail F L M fr g a w hs hM hLM hM0 (by omega) q1 q2 q3 q4 hr (h.1 hr)
    · obtain ⟨F, rfl⟩ : ∃ F', F = F' + 1 := ⟨F - 1, by omega⟩
      have up : ∀ i, i ∈ Region.ready md (ops.toList.take n).toArray L → i ∈ Region.ready md ops M := by
        intro i hi
        obtain ⟨h1, o, ho, h2⟩ := mem_ready.1 hi
        have hi' : i < n := by have := (Array.getElem?_eq_some_iff.1 ho).1; simp at this; omega
        rw [hpre i hi'] at ho
        refine mem_ready.2 ⟨getD_true.2 (by rw [hLM i hi']; exact getD_true.1 h1), o, ho, fun e he hbe => ?_⟩
        have hlt := back_spec hb ho e he hbe
        rw [getD_false, hLM _ (by omega)]
        exact getD_false.1 (h2 e he hbe)
      refine ⟨fun h0 => ?_, fun i hi => ?_⟩
      · exfalso
        obtain ⟨x, xs, hx⟩ : ∃ x xs, Region.ready md (ops.toList.take n).toArray L = x :: xs := by
          cases he : Region.ready md (ops.toList.take n).toArray L with
          | nil => exact absurd he hr
          | cons x xs => exact ⟨x, xs, rfl⟩
        have := up x (by rw [hx]; exact List.mem_cons_self)
        rw [h0] at this; cases this
      · obtain ⟨hi1, oi, hoi, hia⟩ := mem_ready.1 hi
        rw [getD_true] at hi1
        have hilt : i < ops.size := (Array.getElem?_eq_some_iff.1 hoi).1
        by_cases hin : i < n
        · have hiL : i ∈ Region.ready md (ops.toList.take n).toArray L := mem_ready.2 ⟨getD_true.2 (by rw [← hLM i hin]; exact hi1), oi, by rw [hpre i hin]; exact hoi, fun e he hbe => by
            have hlt := back_spec hb hoi e he hbe
            rw [getD_false, ← hLM _ (by omega)]
            exact getD_false.1 (hia e he hbe)⟩
          have hq := h.2 i hiL
          have hgi : ∀ j want, oi.guard = some (j, want) → j < n := by
            intro j want hgj
            have hmem : oi ∈ ops.toList.take n := by
              have : (ops.toList.take n)[i]? = some oi := by rw [List.getElem?_take, if_pos hin]; simpa using hoi
              exact List.mem_of_getElem? this
            have := List.all_eq_true.1 hg oi hmem
            simpa [hgj] using this
          have hwant : ∀ fr, wantB (ops.toList.take n).toArray fr oi.guard = wantB ops fr oi.guard := by
            intro fr
            cases hgo : oi.guard with
            | none => rfl
            | some p =>
              obtain ⟨j, want⟩ := p
              simp only [wantB, hpre j (hgi j want hgo)]
          have hLs : (L.setIfInBounds i true).size = n := by simpa using hs
          have hMs : (M.setIfInBounds i true).size = ops.size := by simpa using hM
          have hLM' : ∀ j, j < n → (M.setIfInBounds i true)[j]? = (L.setIfInBounds i true)[j]? := by
            intro j hj
            rw [Array.getElem?_setIfInBounds, Array.getElem?_setIfInBounds, hLM j hj]
            split
            · rw [if_pos (by omega), if_pos (by omega)]
            · rfl
          have hM0' : ∀ j, n ≤ j → j < ops.size → (M.setIfInBounds i true)[j]? = some false := by
            intro j hj hj'
            rw [Array.getElem?_setIfInBounds, if_neg (by omega)]
            exact hM0 j hj hj'
          have hc' : Clo md ops (M.setIfInBounds i true) := by
            intro j oj hj hlj e he hbe
            rw [Array.getElem?_setIfInBounds]
            split
            · rw [if_pos (by omega)]
            · rw [Array.getElem?_setIfInBounds] at hlj
              split at hlj
              · rename_i hij
                subst hij
                rw [hoi] at hj; cases hj
                exact getD_false.1 (hia e he hbe)
              · exact hc j oj hj hlj e he hbe
          have cont : ∀ fr' g' a' w', g0.le g' → Rel w0 g' S w' → RepL g' fr' a'.tmps.toList → Dk w0 g'.obj a' w' → wpAnyD P w0 S md (ops.toList.take n).toArray (fun fr => LWp P w0 ops (fun fr S => Q .normal fr S) (ops.toList.drop n) fr S) fuel (L.setIfInBounds i true) fr' →
              wpAnyIn (fz ro) 0 P md ops (Good w0 g0 Q) F (M.setIfInBounds i true) a' w' := fun fr' g' a' w' p1 p2 p3 p4 p5 =>
            ih F _ _ fr' g' a' w' hLs hMs hLM' hM0' hc' (by omega) p1 p2 p3 p4 p5
          unfold qOp at hq
          rw [hpre i hin] at hq
          unfold wpOpIn
          simp only [hoi] at hq ⊢
          rcases hq with ⟨hw, d, hy, hk⟩ | ⟨hw, hk⟩
          · rw [hwant] at hw
            have hw' := wantB_sound (o := oi) q3 hw
            rw [if_pos hw']
            refine wpIn_of_yields hy q2 (fun x _ => rep_ev q3 x) q4 fun g' d' u S' w' k1 k2 k3 k4 k5 => ?_
            obtain ⟨hd, hS⟩ := k4
            rw [hS] at k2
            rw [hd] at k3
            exact cont _ g' _ _ (q1.trans k1) k2 (repL_put (q3.mono k1) _ k3) (k1.dk k5) hk
          · rw [hwant] at hw
            have hw' := wantB_sound (o := oi) q3 hw
            rw [if_neg (by simp [hw'])]
            exact ⟨fun _ _ => trivial, cont _ g _ _ q1 q2 (repL_put q3 _ (rep_ud g)) (q4.keep (put_defers _ _ _) fun _ _ h _ => h) hk⟩
        · exfalso
          have hall : ∀ j, j < n → M[j]? = some true := by
            intro j hj
            have hr' := List.all_eq_true.1 ha i (List.mem_range.2 hilt)
            rw [Bool.or_eq_true] at hr'
            rcases hr' with hr' | hr'
            · exact absurd (of_decide_eq_true hr') hin
            · have hr' := List.all_eq_true.1 hr' j (List.mem_range.2 (by omega))
              exact reach_listed hc _ i j oi hoi (fun e he hbe => getD_false.1 (hia e he hbe)) hr'
          refine hr (List.eq_nil_iff_forall_not_mem.2 fun j hj => ?_)
          obtain ⟨h1, o, ho, _⟩ := mem_ready.1 hj
          have hj' : j < n := by have := (Array.getElem?_eq_some_iff.1 ho).1; simp at this; omega
          rw [getD_true, ← hLM j hj', hall j hj'] at h1
          cases h1

def npre (l : List Oper) : Nat := (l.takeWhile fun o => isQ o.op).length

/-- A region that draws the order of what reads; what writes comes behind. -/
theorem awp_drawT {id : Nat} {l : List Oper} {fr : List DV} {S : St} {Q : Exit → List DV → St → Prop} (n : Nat) (hn : n ≤ l.length) (hm : P.follows .mixedOrders = true) (hB : Region.lexB .any (l.take n).toArray = true) (hT : tailB .any l.toArray n = true) (hs : l.all (fun o => okSl o.op) = true)
    (h : LQ P w0 S (l.take n).toArray (fun fr => vcL P w0 l.toArray (fun fr S => Q .normal fr S) (l.drop n) fr S) (l.take n) fr) : AWp P w0 (.region id l.toArray true) fr S Q := by
  intro g a w h1 h2 h3
  simp only [Region.lexB, Bool.and_eq_true] at hB
  refine wpA_region_any hm fun ro => ?_
  have hR : Rel w0 g S { w with drawn := w.drawn + 1 } := h1.grow (below_drew w)
  have hs1 : (l.take n).all (fun o => okSl o.op) = true := List.all_eq_true.2 fun o ho => List.all_eq_true.1 hs o (List.mem_of_mem_take ho)
  have hs2 : (l.drop n).all (fun o => okSl o.op) = true := List.all_eq_true.2 fun o ho => List.all_eq_true.1 hs o (List.mem_of_mem_drop ho)
  have hLQ : LQ P w0 S (l.take n).toArray (fun fr => LWp P w0 l.toArray (fun fr S => Q .normal fr S) (l.drop n) fr S) (l.take n) fr := by
    exact LQ_mono (fun fr h => vcL_sound _ hs2 h) h
  have := wpAnyD_lex (P := P) (w0 := w0) (S := S) (md := .any) (ops := (l.take n).toArray) (l.take n) 0 (Array.replicate (l.take n).toArray.size false) fr (by simp) (by simpa using hB.2) hLQ
  refine wpAny_pre (n := n) (S := S) hT (by simpa using hn) (l.take n).length _ (Array.replicate (l.take n).toArray.size false) _ fr g a _ (by simp; omega) (by simp) ?_ ?_ ?_ (by simp; omega) (.refl g) hR h2 (h3.keep rfl fun _ _ h _ => h) (by simpa using this)
  · intro i hi
    simp only [Array.getElem?_replicate, List.size_toArray, List.length_take]
    rw [if_pos (by omega), if_pos (by omega)]
  · intro i hi hi'
    simp only [Array.getElem?_replicate]
    rw [if_pos hi']
  · intro j o hj hl
    simp [Array.getElem?_replicate] at hl
end
end Aml

namespace Aml
open Go Go.RowKit
set_option linter.unusedVariables false
set_option linter.unusedSimpArgs false

@[congr] theorem c_condD {d : DV} {d' : DV} {A : Prop} {B : Prop} (hd : d = d') : condD d A B = condD d' A B := by cases hd; rfl
@[congr] theorem c_hdK {ds : List DV} {ds' : List DV} {K : DV → Prop} (hds : ds = ds') : hdK ds K = hdK ds' K := by cases hds; rfl
@[congr] theorem c_ldK {k : TK} {k' : TK} {ds : List DV} {ds' : List DV} {K : DV → Prop} (hk : k = k') (hds : ds = ds') : ldK k ds K = ldK k' ds' K := by cases hk; cases hds; rfl
@[congr] theorem c_vPick {c : DV} {c' : DV} {a : DV} {a' : DV} {b : DV} {b' : DV} {K : DV → Prop} (hc : c = c') (ha : a = a') (hb : b = b') : vPick c a b K = vPick c' a' b' K := by cases hc; cases ha; cases hb; rfl
@[congr] theorem c_vLoad {k : TK} {k' : TK} {S : St} {S' : St} {x : DV} {x' : DV} {K : DV → Prop} (hk : k = k') (hS : S = S') (hx : x = x') : vLoad k S x K = vLoad k' S' x' K := by cases hk; cases hS; cases hx; rfl
@[congr] theorem c_vField {k : TK} {k' : TK} {f : Nat} {f' : Nat} {x : DV} {x' : DV} {K : DV → Prop} (hk : k = k') (hf : f = f') (hx : x = x') : vField k f x K = vField k' f' x' K := by cases hk; cases hf; cases hx; rfl
@[congr] theorem c_vIndexAddr {k : TK} {k' : TK} {x : DV} {x' : DV} {i : DV} {i' : DV} {K : DV → Prop} (hk : k = k') (hx : x = x') (hi : i = i') : vIndexAddr k x i K = vIndexAddr k' x' i' K := by cases hk; cases hx; cases hi; rfl
@[congr] theorem c_vExtract {i : Nat} {i' : Nat} {x : DV} {x' : DV} {K : DV → Prop} (hi : i = i') (hx : x = x') : vExtract i x K = vExtract i' x' K := by cases hi; cases hx; rfl
@[congr] theorem c_vFieldV {k : TK} {k' : TK} {f : Nat} {f' : Nat} {x : DV} {x' : DV} {K : DV → Prop} (hk : k = k') (hf : f = f') (hx : x = x') : vFieldV k f x K = vFieldV k' f' x' K := by cases hk; cases hf; cases hx; rfl
@[congr] theorem c_vBinI {op : BinOp} {k : IntKind} {m : Int} {m' : Int} {n : Int} {n' : Int} {K : DV → Prop} (hm : m = m') (hn : n = n') : vBinI op k m n K = vBinI op k m' n' K := by cases hm; cases hn; rfl
@[congr] theorem c_vBinS {op : BinOp} {x : ByteArray} {x' : ByteArray} {y : ByteArray} {y' : ByteArray} {K : DV → Prop} (hx : x = x') (hy : y = y') : vBinS op x y K = vBinS op x' y' K := by cases hx; cases hy; rfl
@[congr] theorem c_vBin {op : BinOp} {t : TK} {t' : TK} {cx : Bool} {cx' : Bool} {cy : Bool} {cy' : Bool} {x : DV} {x' : DV} {y : DV} {y' : DV} {K : DV → Prop} (ht : t = t') (hcx : cx = cx') (hcy : cy = cy') (hx : x = x') (hy : y = y') : vBin op t cx cy x y K = vBin op t' cx' cy' x' y' K := by cases ht; cases hcx; cases hcy; cases hx; cases hy; rfl
@[congr] theorem c_vUn {op : UnOp} {x : DV} {x' : DV} {K : DV → Prop} (hx : x = x') : vUn op x K = vUn op x' K := by cases hx; rfl
@[congr] theorem c_vConv {a : TK} {a' : TK} {b : TK} {b' : TK} {x : DV} {x' : DV} {K : DV → Prop} (ha : a = a') (hb : b = b') (hx : x = x') : vConv a b x K = vConv a' b' x' K := by cases ha; cases hb; cases hx; rfl
@[congr] theorem c_vConvS {a : TK} {a' : TK} {b : TK} {b' : TK} {ke : TK} {ke' : TK} {S : St} {S' : St} {x : DV} {x' : DV} {K : DV → Prop} (ha : a = a') (hb : b = b') (hke : ke = ke') (hS : S = S') (hx : x = x') : vConvS a b ke S x K = vConvS a' b' ke' S' x' K := by cases ha; cases hb; cases hke; cases hS; cases hx; rfl
@[congr] theorem c_vIndex {k : TK} {k' : TK} {x : DV} {x' : DV} {i : DV} {i' : DV} {K : DV → Prop} (hk : k = k') (hx : x = x') (hi : i = i') : vIndex k x i K = vIndex k' x' i' K := by cases hk; cases hx; cases hi; rfl
@[congr] theorem c_bnd {d : Option DV} {d' : Option DV} {z : Int} {z' : Int} {K : Int → Prop} (hd : d = d') (hz : z = z') : bnd d z K = bnd d' z' K := by cases hd; cases hz; rfl
@[congr] theorem c_vSlice {k : TK} {k' : TK} {x : DV} {x' : DV} {lo : Option DV} {lo' : Option DV} {hi : Option DV} {hi' : Option DV} {mx : Option DV} {mx' : Option DV} {K : DV → Prop} (hk : k = k') (hx : x = x') (hlo : lo = lo') (hhi : hi = hi') (hmx : mx = mx') : vSlice k x lo hi mx K = vSlice k' x' lo' hi' mx' K := by cases hk; cases hx; cases hlo; cases hhi; cases hmx; rfl
@[congr] theorem c_vLen {k : TK} {k' : TK} {x : DV} {x' : DV} {K : DV → Prop} (hk : k = k') (hx : x = x') : vLen k x K = vLen k' x' K := by cases hk; cases hx; rfl
@[congr] theorem c_vCap {k : TK} {k' : TK} {x : DV} {x' : DV} {K : DV → Prop} (hk : k = k') (hx : x = x') : vCap k x K = vCap k' x' K := by cases hk; cases hx; rfl
@[congr] theorem c_vMin {x : DV} {x' : DV} {y : DV} {y' : DV} {K : DV → Prop} (hx : x = x') (hy : y = y') : vMin x y K = vMin x' y' K := by cases hx; cases hy; rfl
@[congr] theorem c_vMax {x : DV} {x' : DV} {y : DV} {y' : DV} {K : DV → Prop} (hx : x = x') (hy : y = y') : vMax x y K = vMax x' y' K := by cases hx; cases hy; rfl
@[congr] theorem c_vStore {n : Nat} {n' : Nat} {S : St} {S' : St} {x : DV} {x' : DV} {y : DV} {y' : DV} {K : St → Prop} (hn : n = n') (hS : S = S') (hx : x = x') (hy : y = y') : vStore n S x y K = vStore n' S' x' y' K := by cases hn; cases hS; cases hx; cases hy; rfl
@[congr] theorem c_vStoreX {n : Nat} {n' : Nat} {S : St} {S' : St} {x : DV} {x' : DV} {y : DV} {y' : DV} {K : St → Prop} (hn : n = n') (hS : S = S') (hx : x = x') (hy : y = y') : vStoreX n S x y K = vStoreX n' S' x' y' K := by cases hn; cases hS; cases hx; cases hy; rfl
@[congr] theorem c_vBuildSlice {k : TK} {k' : TK} {z : DV} {z' : DV} {len : Nat} {len' : Nat} {parts : List (Nat × DV)} {parts' : List (Nat × DV)} {K : DV → Prop} (hk : k = k') (hz : z = z') (hlen : len = len') (hparts : parts = parts') : vBuildSlice k z len parts K = vBuildSlice k' z' len' parts' K := by cases hk; cases hz; cases hlen; cases hparts; rfl
@[congr] theorem c_contK {S : St} {S' : St} {d : DV} {d' : DV} {K : Nat → List DV → Prop} (hS : S = S') (hd : d = d') : contK S d K = contK S' d' K := by cases hS; cases hd; rfl
@[congr] theorem c_vApp {s : Nat} {s' : Nat} {b : Nat} {b' : Nat} {S : St} {S' : St} {x : DV} {x' : DV} {ys : List DV} {ys' : List DV} {K : DV → St → Prop} (hs : s = s') (hb : b = b') (hS : S = S') (hx : x = x') (hys : ys = ys') : vApp s b S x ys K = vApp s' b' S' x' ys' K := by cases hs; cases hb; cases hS; cases hx; cases hys; rfl
@[congr] theorem c_vAppend {k : TK} {k' : TK} {k2 : TK} {k2' : TK} {S : St} {S' : St} {x : DV} {x' : DV} {y : DV} {y' : DV} {K : DV → St → Prop} (hk : k = k') (hk2 : k2 = k2') (hS : S = S') (hx : x = x') (hy : y = y') : vAppend k k2 S x y K = vAppend k' k2' S' x' y' K := by cases hk; cases hk2; cases hS; cases hx; cases hy; rfl
@[congr] theorem c_vAppInt {k : TK} {k' : TK} {z : DV} {z' : DV} {S : St} {S' : St} {x : DV} {x' : DV} {y : DV} {y' : DV} {K : DV → St → Prop} (hk : k = k') (hz : z = z') (hS : S = S') (hx : x = x') (hy : y = y') : vAppInt k z S x y K = vAppInt k' z' S' x' y' K := by cases hk; cases hz; cases hS; cases hx; cases hy; rfl
@[congr] theorem c_vNilEq {op : BinOp} {k : TK} {k' : TK} {x : DV} {x' : DV} {K : DV → Prop} (hk : k = k') (hx : x = x') : vNilEq op k x K = vNilEq op k' x' K := by cases hk; cases hx; rfl
@[congr] theorem c_vCut0 {S : St} {S' : St} {x : DV} {x' : DV} {z : Nat} {z' : Nat} {K : DV → St → Prop} (hS : S = S') (hx : x = x') (hz : z = z') : vCut0 S x z K = vCut0 S' x' z' K := by cases hS; cases hx; cases hz; rfl
@[congr] theorem c_vSliceX {k : TK} {k' : TK} {S : St} {S' : St} {x : DV} {x' : DV} {lo : Option DV} {lo' : Option DV} {hi : Option DV} {hi' : Option DV} {mx : Option DV} {mx' : Option DV} {K : DV → St → Prop} (hk : k = k') (hS : S = S') (hx : x = x') (hlo : lo = lo') (hhi : hi = hi') (hmx : mx = mx') : vSliceX k S x lo hi mx K = vSliceX k' S' x' lo' hi' mx' K := by cases hk; cases hS; cases hx; cases hlo; cases hhi; cases hmx; rfl
@[congr] theorem c_vSliceS {k : TK} {k' : TK} {S : St} {S' : St} {x : DV} {x' : DV} {lo : Option DV} {lo' : Option DV} {hi : Option DV} {hi' : Option DV} {mx : Option DV} {mx' : Option DV} {K : DV → St → Prop} (hk : k = k') (hS : S = S') (hx : x = x') (hlo : lo = lo') (hhi : hi = hi') (hmx : mx = mx') : vSliceS k S x lo hi mx K = vSliceS k' S' x' lo' hi' mx' K := by cases hk; cases hS; cases hx; cases hlo; cases hhi; cases hmx; rfl
@[congr] theorem c_vMakeSlice {k : TK} {k' : TK} {z : DV} {z' : DV} {x : DV} {x' : DV} {y : DV} {y' : DV} {S : St} {S' : St} {K : DV → St → Prop} (hk : k = k') (hz : z = z') (hx : x = x') (hy : y = y') (hS : S = S') : vMakeSlice k z x y S K = vMakeSlice k' z' x' y' S' K := by cases hk; cases hz; cases hx; cases hy; cases hS; rfl
@[congr] theorem c_shr1 {S : St} {S' : St} {d : DV} {d' : DV} {K : DV → St → Prop} (hS : S = S') (hd : d = d') : shr1 S d K = shr1 S' d' K := by cases hS; cases hd; rfl
@[congr] theorem c_shr1s {S : St} {S' : St} {d : List DV} {d' : List DV} {K : List DV → St → Prop} (hS : S = S') (hd : d = d') : shr1s S d K = shr1s S' d' K := by cases hS; cases hd; rfl
@[congr] theorem c_shr {S : St} {S' : St} {d : DV} {d' : DV} {K : DV → St → Prop} (hS : S = S') (hd : d = d') : shr S d K = shr S' d' K := by cases hS; cases hd; rfl
@[congr] theorem c_shrs {S : St} {S' : St} {d : List DV} {d' : List DV} {K : List DV → St → Prop} (hS : S = S') (hd : d = d') : shrs S d K = shrs S' d' K := by cases hS; cases hd; rfl
@[congr] theorem c_shrT {S : St} {S' : St} {d : DV} {d' : DV} {K : DV → St → Prop} (hS : S = S') (hd : d = d') : shrT S d K = shrT S' d' K := by cases hS; cases hd; rfl
@[congr] theorem c_callK {S : St} {S' : St} {d : List DV} {d' : List DV} {F : List DV → St → Prop} (hS : S = S') (hd : d = d') : callK S d F = callK S' d' F := by cases hS; cases hd; rfl
@[congr] theorem c_fiK {p : Option (Nat × Nat × Bool)} {p' : Option (Nat × Nat × Bool)} {x : DV} {x' : DV} {K : DV → Prop} (hp : p = p') (hx : x = x') : fiK p x K = fiK p' x' K := by cases hp; cases hx; rfl
@[congr] theorem c_fvK {p : Option (Nat × Nat × Bool)} {p' : Option (Nat × Nat × Bool)} {ds : List DV} {ds' : List DV} {K : DV → Prop} (hp : p = p') (hds : ds = ds') : fvK p ds K = fvK p' ds' K := by cases hp; cases hds; rfl
@[congr] theorem c_gD {t : Nat} {t' : Nat} {d : DV} {d' : DV} {fr : List DV} {fr' : List DV} {want : Bool} {want' : Bool} {A : List DV → Prop} {B : List DV → Prop} (ht : t = t') (hd : d = d') (hfr : fr = fr') (hwant : want = want') : gD t d fr want A B = gD t' d' fr' want' A B := by cases ht; cases hd; cases hfr; cases hwant; rfl
@[congr] theorem c_gK {t : Option Tmp} {t' : Option Tmp} {fr : List DV} {fr' : List DV} {want : Bool} {want' : Bool} {A : List DV → Prop} {B : List DV → Prop} (ht : t = t') (hfr : fr = fr') (hwant : want = want') : gK t fr want A B = gK t' fr' want' A B := by cases ht; cases hfr; cases hwant; rfl
@[congr] theorem c_guardK {ops : Array Oper} {fr : List DV} {fr' : List DV} {gd : Option (Nat × Bool)} {gd' : Option (Nat × Bool)} {A : List DV → Prop} {B : List DV → Prop} (hfr : fr = fr') (hgd : gd = gd') : guardK ops fr gd A B = guardK ops fr' gd' A B := by cases hfr; cases hgd; rfl
@[congr] theorem c_buK {k : TK} {k' : TK} {z : DV} {z' : DV} {parts : List (Nat × DV)} {parts' : List (Nat × DV)} {K : DV → Prop} (hk : k = k') (hz : z = z') (hparts : parts = parts') : buK k z parts K = buK k' z' parts' K := by cases hk; cases hz; cases hparts; rfl
@[congr] theorem c_elK {xs : List DV} {xs' : List DV} {i : Nat} {i' : Nat} {F : DV → Prop} (hxs : xs = xs') (hi : i = i') : elK xs i F = elK xs' i' F := by cases hxs; cases hi; rfl
@[congr] theorem c_exK {xs : List DV} {xs' : List DV} {i : Nat} {i' : Nat} {F : DV → Prop} (hxs : xs = xs') (hi : i = i') : exK xs i F = exK xs' i' F := by cases hxs; cases hi; rfl
@[congr] theorem c_bK {o : Option Ob} {o' : Option Ob} {F : Nat → List DV → Prop} {G : Nat → List DV → Prop} (ho : o = o') : bK o F G = bK o' F G := by cases ho; rfl
@[congr] theorem c_oK {α : Type} {o o' : Option α} {F : α → Prop} (h : o = o') : oK o F = oK o' F := by cases h; rfl
@[congr] theorem c_vcOp {P : Program} {w0 : W0} {op : Op} {fr : List DV} {fr' : List DV} {S : St} {S' : St} {K : DV → St → Prop} (hfr : fr = fr') (hS : S = S') : vcOp P w0 op fr S K = vcOp P w0 op fr' S' K := by cases hfr; cases hS; rfl
@[congr] theorem c_vcOpQ {P : Program} {w0 : W0} {op : Op} {fr : List DV} {fr' : List DV} {S : St} {S' : St} {K : DV → Prop} (hfr : fr = fr') (hS : S = S') : vcOpQ P w0 op fr S K = vcOpQ P w0 op fr' S' K := by cases hfr; cases hS; rfl
@[congr] theorem c_vCall {P : Program} {w0 : W0} {cal : DV} {cal' : DV} {ds : List DV} {ds' : List DV} {S : St} {S' : St} {K : DV → St → Prop} (hcal : cal = cal') (hds : ds = ds') (hS : S = S') : vCall P w0 cal ds S K = vCall P w0 cal' ds' S' K := by cases hcal; cases hds; cases hS; rfl
@[congr] theorem c_vCallQ {P : Program} {w0 : W0} {cal : DV} {cal' : DV} {ds : List DV} {ds' : List DV} {S : St} {S' : St} {K : DV → Prop} (hcal : cal = cal') (hds : ds = ds') (hS : S = S') : vCallQ P w0 cal ds S K = vCallQ P w0 cal' ds' S' K := by cases hcal; cases hds; cases hS; rfl
@[congr] theorem c_vcL {P : Program} {w0 : W0} {ops : Array Oper} {K : List DV → St → Prop} {l : List Oper} {fr : List DV} {fr' : List DV} {S : St} {S' : St} (hfr : fr = fr') (hS : S = S') : vcL P w0 ops K l fr S = vcL P w0 ops K l fr' S' := by cases hfr; cases hS; rfl
@[congr] theorem c_vBuild {P : Program} {t : TypeId} {parts : List (Nat × DV)} {parts' : List (Nat × DV)} {K : DV → Prop} (hparts : parts = parts') : vBuild P t parts K = vBuild P t parts' K := by cases hparts; rfl
@[congr] theorem c_vAssert {P : Program} {t : TypeId} {ok : Bool} {ok' : Bool} {x : DV} {x' : DV} {K : DV → Prop} (hok : ok = ok') (hx : x = x') : vAssert P t ok x K = vAssert P t ok' x' K := by cases hok; cases hx; rfl
@[congr] theorem c_resK1 {P : Program} {fr : List DV} {fr' : List DV} {S : St} {S' : St} {K : DV → Prop} {r : ResultVar} (hfr : fr = fr') (hS : S = S') : resK1 P fr S K r = resK1 P fr' S' K r := by cases hfr; cases hS; rfl
@[congr] theorem c_resKs {P : Program} {fr : List DV} {fr' : List DV} {S : St} {S' : St} {r : List ResultVar} {K : List DV → Prop} (hfr : fr = fr') (hS : S = S') : resKs P fr S r K = resKs P fr' S' r K := by cases hfr; cases hS; rfl
@[congr] theorem c_resK {P : Program} {fr : List DV} {fr' : List DV} {S : St} {S' : St} {r : List ResultVar} {K : DV → Prop} (hfr : fr = fr') (hS : S = S') : resK P fr S r K = resK P fr' S' r K := by cases hfr; cases hS; rfl

def selK (b : Bool) (A B : Prop) : Prop := match b with
  | true => A
  | false => B
theorem n_sel_t (A B : Prop) : selK true A B = A := rfl
theorem n_sel_f (A B : Prop) : selK false A B = B := rfl
@[congr] theorem c_selK {b b' : Bool} {A B : Prop} (h : b = b') : selK b A B = selK b' A B := by cases h; rfl
theorem n_callK (S : St) (ds : List DV) (F : List DV → St → Prop) : callK S ds F = selK (hasAcc ds) (F ds S ∨ shrs S ds F) (shrs S ds F) := by
  unfold callK selK; cases hasAcc ds <;> rfl
attribute [go_sem ↓] n_sel_t n_sel_f n_callK
/-- A new box. -/
def bxK (S : St) (d : DV) (K : DV → St → Prop) : Prop := ∀ b, nin S.box b → K (.v (.pointer (some ⟨b, 0, none⟩))) ⟨(b, cd d) :: S.box, S.acc⟩
@[congr] theorem c_bxK {S S' : St} {d d' : DV} {K : DV → St → Prop} (h1 : S = S') (h2 : d = d') : bxK S d K = bxK S' d' K := by cases h1; cases h2; rfl
theorem e_isQ_move (x : Operand) : isQ (.move x) = true := rfl
theorem e_isQ_assign (x : Operand) : isQ (.assign x) = true := rfl
theorem e_isQ_pick (c a b : Operand) : isQ (.pick c a b) = true := rfl
theorem e_isQ_load (t : TypeId) (x : Operand) : isQ (.load t x) = true := rfl
theorem e_isQ_fieldAddr (t : TypeId) (x : Operand) (f : Nat) : isQ (.fieldAddr t x f) = true := rfl
theorem e_isQ_indexAddr (t : TypeId) (x i : Operand) : isQ (.indexAddr t x i) = true := rfl
theorem e_isQ_index (t : TypeId) (x i : Operand) : isQ (.index t x i) = true := rfl
theorem e_isQ_field (t : TypeId) (x : Operand) (f : Nat) : isQ (.field t x f) = true := rfl
theorem e_isQ_extract (x : Operand) (i : Nat) : isQ (.extract x i) = true := rfl
theorem e_isQ_nilCheck (x : Operand) : isQ (.nilCheck x) = true := rfl
theorem e_isQ_binOp (b : BinOp) (t : TypeId) (x y : Operand) (t' : TypeId) : isQ (.binOp b t x y t') = true := rfl
theorem e_isQ_unOp (b : UnOp) (t : TypeId) (x : Operand) : isQ (.unOp b t x) = true := rfl
theorem e_isQ_convert (s d : TypeId) (x : Operand) : isQ (.convert s d x) = true := rfl
theorem e_isQ_makeInterface (t : TypeId) (x : Operand) : isQ (.makeInterface t x) = true := rfl
theorem e_isQ_typeAssert (x : Operand) (xt t : TypeId) (ok : Bool) : isQ (.typeAssert x xt t ok) = true := rfl
theorem e_isQ_build (t : TypeId) (parts : Array (Nat × Operand)) : isQ (.build t parts) = true := rfl
theorem e_isQ_buildSlice (t : TypeId) (len : Nat) (parts : Array (Nat × Operand)) : isQ (.buildSlice t len parts) = true := rfl
theorem e_isQ_makeFunc (fn : Fn) (a b : Array Operand) : isQ (.makeFunc fn a b) = true := rfl
theorem e_isQ_slice (t : TypeId) (x : Operand) (lo hi mx : Option Operand) : isQ (.slice t x lo hi mx) = true := rfl
theorem e_isQ_box (t : TypeId) (x : Operand) : isQ (.box t x) = false := rfl
theorem e_isQ_alloc (t : TypeId) : isQ (.alloc t) = false := rfl
theorem e_isQ_store (t : TypeId) (x y : Operand) : isQ (.store t x y) = false := rfl
theorem e_isQ_makeSlice (t : TypeId) (x y : Operand) : isQ (.makeSlice t x y) = false := rfl
theorem e_isQ_lookup (t : TypeId) (x i : Operand) (ok : Bool) : isQ (.lookup t x i ok) = true := rfl
theorem e_isQ_range (t : TypeId) (x : Operand) : isQ (.range t x) = true := rfl
theorem e_isQ_next (x : Operand) (s : Bool) : isQ (.next x s) = true := rfl
theorem e_isQ_entry (x : Operand) : isQ (.entry x) = true := rfl
theorem e_isQ_makeMap (t : TypeId) (r : Option Operand) : isQ (.makeMap t r) = false := rfl
theorem e_isQ_mapUpdate (t : TypeId) (m k v : Operand) : isQ (.mapUpdate t m k v) = false := rfl
theorem e_isQ_val (x : Operand) (a : Array Operand) (ts : Array TypeId) : isQ (.call ⟨.value x, a, ts⟩) = true := rfl
theorem e_isQ_inv (x : Operand) (m : String) (a : Array Operand) (ts : Array TypeId) : isQ (.call ⟨.invoke x m, a, ts⟩) = true := rfl
theorem e_isQ_b_len (a : Array Operand) (ts : Array TypeId) : isQ (.call ⟨.builtin .len, a, ts⟩) = true := rfl
theorem e_isQ_b_cap (a : Array Operand) (ts : Array TypeId) : isQ (.call ⟨.builtin .cap, a, ts⟩) = true := rfl
theorem e_isQ_b_min (a : Array Operand) (ts : Array TypeId) : isQ (.call ⟨.builtin .min, a, ts⟩) = true := rfl
theorem e_isQ_b_max (a : Array Operand) (ts : Array TypeId) : isQ (.call ⟨.builtin .max, a, ts⟩) = true := rfl
theorem e_isQ_b_append (a : Array Operand) (ts : Array TypeId) : isQ (.call ⟨.builtin .append, a, ts⟩) = false := rfl
theorem e_isQ_b_clear (a : Array Operand) (ts : Array TypeId) : isQ (.call ⟨.builtin .clear, a, ts⟩) = false := rfl
theorem e_isQ_b_delete (a : Array Operand) (ts : Array TypeId) : isQ (.call ⟨.builtin .delete, a, ts⟩) = false := rfl
theorem e_isQ_b_copy (a : Array Operand) (ts : Array TypeId) : isQ (.call ⟨.builtin .copy, a, ts⟩) = false := rfl
theorem e_ev_tmp (fr : List DV) (t : Nat) : ev fr (.tmp t) = fr.getD t ud := rfl
theorem e_ev_const (fr : List DV) (u : Value) : ev fr (.const u) = cv u := rfl
theorem e_ev_glob (fr : List DV) (n : Nat) : ev fr (.global n) = .v (.pointer (some ⟨n, 0, none⟩)) := rfl
theorem e_ev_func (fr : List DV) (f : FuncId) : ev fr (.func f) = .v (.func (.func f) #[] #[]) := rfl
theorem e_pt_some (fr : List DV) (t : Nat) (d : DV) : pt fr (some t) d = fr.set t d := rfl
theorem e_pt_none (fr : List DV) (d : DV) : pt fr none d = fr := rfl
theorem e_cv0_int (k : IntKind) (n : Int) : cv0 (.int k n) = .v (.int k n) := rfl
theorem e_cv_int (k : IntKind) (n : Int) : cv (.int k n) = .v (.int k n) := rfl
theorem e_cv0_bool (b : Bool) : cv0 (.bool b) = .v (.bool b) := rfl
theorem e_cv_bool (b : Bool) : cv (.bool b) = .v (.bool b) := rfl
theorem e_cv0_str (s : ByteArray) : cv0 (.string s) = .v (.string s) := rfl
theorem e_cv_str (s : ByteArray) : cv (.string s) = .v (.string s) := rfl
theorem e_cv0_nil  : cv0 (.slice none 0 0) = .sl 0 true [] := rfl
theorem e_cv_nil  : cv (.slice none 0 0) = .sl 0 true [] := rfl
theorem e_cv0_ptr (a : Option Addr) : cv0 (.pointer a) = .v (.pointer a) := rfl
theorem e_cv_ptr (a : Option Addr) : cv (.pointer a) = .v (.pointer a) := rfl
theorem e_cv0_map (a : Option Nat) : cv0 (.map a) = .v (.map a) := rfl
theorem e_cv_map (a : Option Nat) : cv (.map a) = .v (.map a) := rfl
theorem e_cv0_nif  : cv0 (.nilIface) = .v .nilIface := rfl
theorem e_cv_nif  : cv (.nilIface) = .v .nilIface := rfl
theorem e_cv0_nfn  : cv0 (.nilFunc) = .v .nilFunc := rfl
theorem e_cv_nfn  : cv (.nilFunc) = .v .nilFunc := rfl
theorem e_cv_agg (l : List Value) : cv (.agg l.toArray) = if l.all (fun u => u.oneCell') = true then .agg (l.map cv0) else .any := by simp [cv]
theorem e_isIfc_one  : isIfc (.one ) = false := rfl
theorem e_isIfc_str  : isIfc (.str ) = false := rfl
theorem e_isIfc_int (k : IntKind) : isIfc (.int k) = false := rfl
theorem e_isIfc_sl (e s b : Nat) (i : Bool) : isIfc (.sl e s b i) = false := rfl
theorem e_isIfc_st (fs : List (Nat × Nat × Bool)) (n : Nat) : isIfc (.st fs n) = false := rfl
theorem e_isIfc_ar (l e s : Nat) (a : Bool) (n : Nat) : isIfc (.ar l e s a n) = false := rfl
theorem e_isIfc_map (k e : Nat) : isIfc (.map k e) = false := rfl
theorem e_isIfc_ptr (e : Nat) : isIfc (.ptr e) = false := rfl
theorem e_isIfc_ifc (m : List String) : isIfc (.ifc m) = true := rfl
theorem e_isIfc_fn  : isIfc (.fn ) = false := rfl
theorem e_intK_one  : intK (.one ) = false := rfl
theorem e_intK_str  : intK (.str ) = false := rfl
theorem e_intK_int (k : IntKind) : intK (.int k) = true := rfl
theorem e_intK_sl (e s b : Nat) (i : Bool) : intK (.sl e s b i) = false := rfl
theorem e_intK_st (fs : List (Nat × Nat × Bool)) (n : Nat) : intK (.st fs n) = false := rfl
theorem e_intK_ar (l e s : Nat) (a : Bool) (n : Nat) : intK (.ar l e s a n) = false := rfl
theorem e_intK_map (k e : Nat) : intK (.map k e) = false := rfl
theorem e_intK_ptr (e : Nat) : intK (.ptr e) = false := rfl
theorem e_intK_ifc (m : List String) : intK (.ifc m) = false := rfl
theorem e_intK_fn  : intK (.fn ) = false := rfl
theorem e_notInt_one  : notInt (.one ) = true := rfl
theorem e_notInt_str  : notInt (.str ) = true := rfl
theorem e_notInt_int (k : IntKind) : notInt (.int k) = false := rfl
theorem e_notInt_sl (e s b : Nat) (i : Bool) : notInt (.sl e s b i) = true := rfl
theorem e_notInt_st (fs : List (Nat × Nat × Bool)) (n : Nat) : notInt (.st fs n) = true := rfl
theorem e_notInt_ar (l e s : Nat) (a : Bool) (n : Nat) : notInt (.ar l e s a n) = true := rfl
theorem e_notInt_map (k e : Nat) : notInt (.map k e) = true := rfl
theorem e_notInt_ptr (e : Nat) : notInt (.ptr e) = true := rfl
theorem e_notInt_ifc (m : List String) : notInt (.ifc m) = true := rfl
theorem e_notInt_fn  : notInt (.fn ) = true := rfl
theorem e_nacc_v (u : Value) : nacc (.v u) = true := rfl
theorem e_nacc_sl (s : Nat) (f : Bool) (xs : List DV) : nacc (.sl s f xs) = true := rfl
theorem e_nacc_ifc (t : TypeId) (d : DV) : nacc (.ifc t d) = true := rfl
theorem e_nacc_ip (ds : List DV) : nacc (.ip ds) = true := rfl
theorem e_nacc_any  : nacc (.any ) = true := rfl
theorem e_nacc_acc (l n : Nat) : nacc (.acc l n) = false := rfl
theorem e_nacc_ap (l n s i o : Nat) : nacc (.ap l n s i o) = true := rfl
theorem e_nacc_tup (ds : List DV) : nacc (.tup ds) = true := rfl
theorem e_naccA_v (u : Value) : naccA (.v u) = true := rfl
theorem e_naccA_sl (s : Nat) (f : Bool) (xs : List DV) : naccA (.sl s f xs) = true := rfl
theorem e_naccA_ifc (t : TypeId) (d : DV) : naccA (.ifc t d) = true := rfl
theorem e_naccA_ip (ds : List DV) : naccA (.ip ds) = true := rfl
theorem e_naccA_any  : naccA (.any ) = true := rfl
theorem e_naccA_acc (l n : Nat) : naccA (.acc l n) = false := rfl
theorem e_naccA_ap (l n s i o : Nat) : naccA (.ap l n s i o) = true := rfl
theorem e_naccA_tup (ds : List DV) : naccA (.tup ds) = true := rfl
theorem e_nacc_agg (ds : List DV) : nacc (.agg ds) = true := rfl
theorem e_naccA_agg (ds : List DV) : naccA (.agg ds) = ds.all nacc := rfl
theorem e_isC_tmp (t : Nat) : isC (.tmp t) = false := rfl
theorem e_isC_const (u : Value) : isC (.const u) = true := rfl
theorem e_isC_global (n : Nat) : isC (.global n) = false := rfl
theorem e_isC_func (f : FuncId) : isC (.func f) = false := rfl
theorem e_vals_nil : vals [] = some [] := rfl
theorem e_vals_v (u : Value) (ds : List DV) : vals (.v u :: ds) = (vals ds).map (u :: ·) := rfl
theorem e_fillD_nil (fs : List (Nat × Nat × Bool)) (ds : List DV) : fillD fs ds [] = some ds := rfl
def fd1 (p : Option (Nat × Nat × Bool)) (fs : List (Nat × Nat × Bool)) (d : DV) (ds : List DV) (rest : List (Nat × DV)) : Option (List DV) := match p with
  | none => none
  | some (off, sz, _) => if okE d && (cd d).length == sz && decide (off + sz ≤ ds.length) then fillD fs (setAll ds off (cd d)) rest else none
theorem e_fillD_cons (fs : List (Nat × Nat × Bool)) (ds : List DV) (i : Nat) (d : DV) (rest : List (Nat × DV)) : fillD fs ds ((i, d) :: rest) = fd1 (fs[i]?) fs d ds rest := by rw [fillD]; unfold fd1; cases fs[i]? <;> rfl
theorem e_fd1 (off sz : Nat) (ag : Bool) (fs : List (Nat × Nat × Bool)) (d : DV) (ds : List DV) (rest : List (Nat × DV)) : fd1 (some (off, sz, ag)) fs d ds rest = if okE d && (cd d).length == sz && decide (off + sz ≤ ds.length) then fillD fs (setAll ds off (cd d)) rest else none := rfl
theorem e_fillE_nil (s : Nat) (ds : List DV) : fillE s ds [] = some ds := rfl
theorem e_fillE_cons (s : Nat) (ds : List DV) (i : Nat) (d : DV) (rest : List (Nat × DV)) : fillE s ds ((i, d) :: rest) = if okE d && (cd d).length == s && decide (i < ds.length) then fillE s (ds.set i d) rest else none := rfl
theorem e_setAll_nil (ds : List DV) (o : Nat) : setAll ds o [] = ds := rfl
theorem e_setAll_cons (ds : List DV) (o : Nat) (c : DV) (cs : List DV) : setAll ds o (c :: cs) = setAll (ds.set o c) (o + 1) cs := rfl
theorem e_elSet_all (d : DV) (n : Nat) (y : DV) : elSet d 0 n n y = some y := by simp [elSet]
theorem e_elSet_agg (ds : List DV) (o n s : Nat) (y : DV) : elSet (.agg ds) o n s y = if o = 0 ∧ n = s then some y else some (.agg (setAll ds o (cd y))) := rfl
theorem e_ren_nil (n : Nat) (p : Nat × Ob) : ren [] n p = [] := rfl
theorem e_ren_same (k : Nat) (x : Ob) (t : List (Nat × Ob)) (p : Nat × Ob) : ren ((k, x) :: t) k p = p :: t := by simp [ren]
theorem e_ren_ne {k n : Nat} (h : ¬ k = n) (x : Ob) (t : List (Nat × Ob)) (p : Nat × Ob) : ren ((k, x) :: t) n p = (k, x) :: ren t n p := by simp [ren, h]
theorem e_same_add (k : IntKind) : sameKind .add k k = true := by simp [sameKind]
theorem e_same_sub (k : IntKind) : sameKind .sub k k = true := by simp [sameKind]
theorem e_same_mul (k : IntKind) : sameKind .mul k k = true := by simp [sameKind]
theorem e_same_quo (k : IntKind) : sameKind .quo k k = true := by simp [sameKind]
theorem e_same_rem (k : IntKind) : sameKind .rem k k = true := by simp [sameKind]
theorem e_same_and (k : IntKind) : sameKind .and k k = true := by simp [sameKind]
theorem e_same_or (k : IntKind) : sameKind .or k k = true := by simp [sameKind]
theorem e_same_xor (k : IntKind) : sameKind .xor k k = true := by simp [sameKind]
theorem e_same_andNot (k : IntKind) : sameKind .andNot k k = true := by simp [sameKind]
theorem e_same_eql (k : IntKind) : sameKind .eql k k = true := by simp [sameKind]
theorem e_same_neq (k : IntKind) : sameKind .neq k k = true := by simp [sameKind]
theorem e_same_lss (k : IntKind) : sameKind .lss k k = true := by simp [sameKind]
theorem e_same_leq (k : IntKind) : sameKind .leq k k = true := by simp [sameKind]
theorem e_same_gtr (k : IntKind) : sameKind .gtr k k = true := by simp [sameKind]
theorem e_same_geq (k : IntKind) : sameKind .geq k k = true := by simp [sameKind]
theorem e_same_shl (k k' : IntKind) : sameKind .shl k k' = true := rfl
theorem e_same_shr (k k' : IntKind) : sameKind .shr k k' = true := rfl
theorem e_replicate_0 {α : Type} (a : α) : List.replicate 0 a = [] := rfl
theorem e_replicate_s {α : Type} (n : Nat) (a : α) : List.replicate (n + 1) a = a :: List.replicate n a := rfl
theorem e_set_0 {α : Type} (a b : α) (l : List α) : (a :: l).set 0 b = b :: l := rfl
theorem e_set_s {α : Type} (a b : α) (l : List α) (n : Nat) : (a :: l).set (n + 1) b = a :: l.set n b := rfl
theorem e_set_nil {α : Type} (b : α) (n : Nat) : ([] : List α).set n b = [] := rfl
theorem e_wk (live : List Nat) (fr : List DV) : wk live fr = wkA fr 0 live := rfl
theorem e_wkA_nil (i : Nat) (js : List Nat) : wkA [] i js = [] := rfl
theorem e_wkA_n (d : DV) (ds : List DV) (i : Nat) : wkA (d :: ds) i [] = .any :: wkA ds (i + 1) [] := rfl
theorem e_wkA_c (d : DV) (ds : List DV) (i j : Nat) (js : List Nat) : wkA (d :: ds) i (j :: js) = if i = j then d :: wkA ds (i + 1) js else .any :: wkA ds (i + 1) (j :: js) := rfl
theorem e_upds_nil (fr : List DV) : upds fr [] = fr := rfl
theorem e_upds_cons (fr : List DV) (i : Nat) (d : DV) (us : List (Nat × DV)) : upds fr ((i, d) :: us) = upds (fr.set i d) us := rfl
theorem e_app_nil {α : Type} (l : List α) : List.append [] l = l := rfl
theorem e_app_cons {α : Type} (a : α) (l m : List α) : List.append (a :: l) m = a :: List.append l m := rfl
theorem v_move {P : Program} {w0 : W0} {fr : List DV} {S : St} {K : DV → St → Prop} (x : Operand) : vcOp P w0 (.move x) fr S K = (K (ev fr x) S) := rfl
theorem v_assign {P : Program} {w0 : W0} {fr : List DV} {S : St} {K : DV → St → Prop} (x : Operand) : vcOp P w0 (.assign x) fr S K = (K (ev fr x) S) := rfl
theorem v_pick {P : Program} {w0 : W0} {fr : List DV} {S : St} {K : DV → St → Prop} (c a b : Operand) : vcOp P w0 (.pick c a b) fr S K = (vPick (ev fr c) (ev fr a) (ev fr b) (K · S)) := rfl
theorem v_load {P : Program} {w0 : W0} {fr : List DV} {S : St} {K : DV → St → Prop} (t : TypeId) (x : Operand) : vcOp P w0 (.load t x) fr S K = (vLoad (tk P t) S (ev fr x) (K · S)) := rfl
theorem v_fieldAddr {P : Program} {w0 : W0} {fr : List DV} {S : St} {K : DV → St → Prop} (t : TypeId) (x : Operand) (f : Nat) : vcOp P w0 (.fieldAddr t x f) fr S K = (vField (tk P t) f (ev fr x) (K · S)) := rfl
theorem v_indexAddr {P : Program} {w0 : W0} {fr : List DV} {S : St} {K : DV → St → Prop} (t : TypeId) (x i : Operand) : vcOp P w0 (.indexAddr t x i) fr S K = (vIndexAddr (tk P t) (ev fr x) (ev fr i) (K · S)) := rfl
theorem v_index {P : Program} {w0 : W0} {fr : List DV} {S : St} {K : DV → St → Prop} (t : TypeId) (x i : Operand) : vcOp P w0 (.index t x i) fr S K = (vIndex (tk P t) (ev fr x) (ev fr i) (K · S)) := rfl
theorem v_field {P : Program} {w0 : W0} {fr : List DV} {S : St} {K : DV → St → Prop} (t : TypeId) (x : Operand) (f : Nat) : vcOp P w0 (.field t x f) fr S K = (vFieldV (tk P t) f (ev fr x) (K · S)) := rfl
theorem v_extract {P : Program} {w0 : W0} {fr : List DV} {S : St} {K : DV → St → Prop} (x : Operand) (i : Nat) : vcOp P w0 (.extract x i) fr S K = (vExtract i (ev fr x) (K · S)) := rfl
theorem v_nilCheck {P : Program} {w0 : W0} {fr : List DV} {S : St} {K : DV → St → Prop} (x : Operand) : vcOp P w0 (.nilCheck x) fr S K = (notNil (ev fr x) = true ∧ K (ev fr x) S) := rfl
theorem v_binOp {P : Program} {w0 : W0} {fr : List DV} {S : St} {K : DV → St → Prop} (b : BinOp) (t : TypeId) (x y : Operand) (t' : TypeId) : vcOp P w0 (.binOp b t x y t') fr S K = (selK (isNilC y) (vNilEq b (tk P t) (ev fr x) (K · S)) (vBin b (tk P t) (isC x) (isC y) (ev fr x) (ev fr y) (K · S))) := by simp only [vcOp]; unfold selK; cases isNilC y <;> rfl
theorem v_unOp {P : Program} {w0 : W0} {fr : List DV} {S : St} {K : DV → St → Prop} (b : UnOp) (t : TypeId) (x : Operand) : vcOp P w0 (.unOp b t x) fr S K = (vUn b (ev fr x) (K · S)) := rfl
theorem v_convert {P : Program} {w0 : W0} {fr : List DV} {S : St} {K : DV → St → Prop} (s d : TypeId) (x : Operand) : vcOp P w0 (.convert s d x) fr S K = (vConvS (tk P s) (tk P d) (tk P (elT P s)) S (ev fr x) (K · S)) := rfl
theorem v_mkIfc {P : Program} {w0 : W0} {fr : List DV} {S : St} {K : DV → St → Prop} (t : TypeId) (x : Operand) : vcOp P w0 (.makeInterface t x) fr S K = (isIfc (tk P t) = false ∧ shr S (ev fr x) fun d S => K (.ifc t d) S) := rfl
theorem v_assert {P : Program} {w0 : W0} {fr : List DV} {S : St} {K : DV → St → Prop} (x : Operand) (xt t : TypeId) (ok : Bool) : vcOp P w0 (.typeAssert x xt t ok) fr S K = (vAssert P t ok (ev fr x) (K · S)) := rfl
theorem v_build {P : Program} {w0 : W0} {fr : List DV} {S : St} {K : DV → St → Prop} (t : TypeId) (parts : List (Nat × Operand)) : vcOp P w0 (.build t parts.toArray) fr S K = (shrs S (parts.map fun p => ev fr p.2) fun ds S => vBuild P t ((parts.map (·.1)).zip ds) (K · S)) := rfl
theorem v_buildSlice {P : Program} {w0 : W0} {fr : List DV} {S : St} {K : DV → St → Prop} (t : TypeId) (len : Nat) (parts : List (Nat × Operand)) : vcOp P w0 (.buildSlice t len parts.toArray) fr S K = (shrs S (parts.map fun p => ev fr p.2) fun ds S => vBuildSlice (tk P t) (zD P (elT P t)) len ((parts.map (·.1)).zip ds) (K · S)) := rfl
theorem v_makeFunc {P : Program} {w0 : W0} {fr : List DV} {S : St} {K : DV → St → Prop} (fn : Fn) (a b : List Operand) : vcOp P w0 (.makeFunc fn a.toArray b.toArray) fr S K = (vFunc fn (a.map (ev fr)) (b.map (ev fr)) (K · S)) := rfl
theorem v_slice {P : Program} {w0 : W0} {fr : List DV} {S : St} {K : DV → St → Prop} (t : TypeId) (x : Operand) (lo hi mx : Option Operand) : vcOp P w0 (.slice t x lo hi mx) fr S K = ((mx.isSome = true → hi.isSome = true) ∧ vSliceX (tk P t) S (ev fr x) (lo.map (ev fr)) (hi.map (ev fr)) (mx.map (ev fr)) K) := rfl
theorem v_box {P : Program} {w0 : W0} {fr : List DV} {S : St} {K : DV → St → Prop} (t : TypeId) (x : Operand) : vcOp P w0 (.box t x) fr S K = (okE (ev fr x) = true ∧ bxK S (ev fr x) K) := rfl
theorem v_alloc {P : Program} {w0 : W0} {fr : List DV} {S : St} {K : DV → St → Prop} (t : TypeId) : vcOp P w0 (.alloc t) fr S K = (okE (zD P t) = true ∧ bxK S (zD P t) K) := rfl
theorem v_store {P : Program} {w0 : W0} {fr : List DV} {S : St} {K : DV → St → Prop} (t : TypeId) (x y : Operand) : vcOp P w0 (.store t x y) fr S K = ((P.info? t).isSome = true ∧ vStoreX (P.cellsOf t) S (ev fr x) (ev fr y) (K ud)) := rfl
theorem v_makeSlice {P : Program} {w0 : W0} {fr : List DV} {S : St} {K : DV → St → Prop} (t : TypeId) (x y : Operand) : vcOp P w0 (.makeSlice t x y) fr S K = (vMakeSlice (tk P t) (zD P (elT P t)) (ev fr x) (ev fr y) S K) := rfl
theorem v_len {P : Program} {w0 : W0} {fr : List DV} {S : St} {K : DV → St → Prop} (x : Operand) (t : TypeId) : vcOp P w0 (.call ⟨.builtin .len, #[x], #[t]⟩) fr S K = (vLen (tk P t) (ev fr x) (K · S)) := rfl
theorem v_cap {P : Program} {w0 : W0} {fr : List DV} {S : St} {K : DV → St → Prop} (x : Operand) (t : TypeId) : vcOp P w0 (.call ⟨.builtin .cap, #[x], #[t]⟩) fr S K = (vCap (tk P t) (ev fr x) (K · S)) := rfl
theorem v_append {P : Program} {w0 : W0} {fr : List DV} {S : St} {K : DV → St → Prop} (x y : Operand) (t t' : TypeId) : vcOp P w0 (.call ⟨.builtin .append, #[x, y], #[t, t']⟩) fr S K = (selK (intK (tk P t')) (vAppInt (tk P t) (zD P (elT P t)) S (ev fr x) (ev fr y) K) (vAppend (tk P t) (tk P t') S (ev fr x) (ev fr y) K)) := by simp only [vcOp]; unfold selK; cases intK (tk P t') <;> rfl
theorem v_min {P : Program} {w0 : W0} {fr : List DV} {S : St} {K : DV → St → Prop} (x y : Operand) (ts : Array TypeId) : vcOp P w0 (.call ⟨.builtin .min, #[x, y], ts⟩) fr S K = (vMin (ev fr x) (ev fr y) (K · S)) := rfl
theorem v_max {P : Program} {w0 : W0} {fr : List DV} {S : St} {K : DV → St → Prop} (x y : Operand) (ts : Array TypeId) : vcOp P w0 (.call ⟨.builtin .max, #[x, y], ts⟩) fr S K = (vMax (ev fr x) (ev fr y) (K · S)) := rfl
theorem v_call {P : Program} {w0 : W0} {fr : List DV} {S : St} {K : DV → St → Prop} (cal : Operand) (a : List Operand) (ts : Array TypeId) : vcOp P w0 (.call ⟨.value cal, a.toArray, ts⟩) fr S K = (vCall P w0 (ev fr cal) (a.map (ev fr)) S K) := rfl
theorem w_move {P : Program} {w0 : W0} {fr : List DV} {S : St} {K : DV → Prop} (x : Operand) : vcOpQ P w0 (.move x) fr S K = (K (ev fr x)) := rfl
theorem w_assign {P : Program} {w0 : W0} {fr : List DV} {S : St} {K : DV → Prop} (x : Operand) : vcOpQ P w0 (.assign x) fr S K = (K (ev fr x)) := rfl
theorem w_pick {P : Program} {w0 : W0} {fr : List DV} {S : St} {K : DV → Prop} (c a b : Operand) : vcOpQ P w0 (.pick c a b) fr S K = (vPick (ev fr c) (ev fr a) (ev fr b) K) := rfl
theorem w_load {P : Program} {w0 : W0} {fr : List DV} {S : St} {K : DV → Prop} (t : TypeId) (x : Operand) : vcOpQ P w0 (.load t x) fr S K = (vLoad (tk P t) S (ev fr x) K) := rfl
theorem w_fieldAddr {P : Program} {w0 : W0} {fr : List DV} {S : St} {K : DV → Prop} (t : TypeId) (x : Operand) (f : Nat) : vcOpQ P w0 (.fieldAddr t x f) fr S K = (vField (tk P t) f (ev fr x) K) := rfl
theorem w_indexAddr {P : Program} {w0 : W0} {fr : List DV} {S : St} {K : DV → Prop} (t : TypeId) (x i : Operand) : vcOpQ P w0 (.indexAddr t x i) fr S K = (vIndexAddr (tk P t) (ev fr x) (ev fr i) K) := rfl
theorem w_index {P : Program} {w0 : W0} {fr : List DV} {S : St} {K : DV → Prop} (t : TypeId) (x i : Operand) : vcOpQ P w0 (.index t x i) fr S K = (vIndex (tk P t) (ev fr x) (ev fr i) K) := rfl
theorem w_field {P : Program} {w0 : W0} {fr : List DV} {S : St} {K : DV → Prop} (t : TypeId) (x : Operand) (f : Nat) : vcOpQ P w0 (.field t x f) fr S K = (vFieldV (tk P t) f (ev fr x) K) := rfl
theorem w_extract {P : Program} {w0 : W0} {fr : List DV} {S : St} {K : DV → Prop} (x : Operand) (i : Nat) : vcOpQ P w0 (.extract x i) fr S K = (vExtract i (ev fr x) K) := rfl
theorem w_nilCheck {P : Program} {w0 : W0} {fr : List DV} {S : St} {K : DV → Prop} (x : Operand) : vcOpQ P w0 (.nilCheck x) fr S K = (notNil (ev fr x) = true ∧ K (ev fr x)) := rfl
theorem w_binOp {P : Program} {w0 : W0} {fr : List DV} {S : St} {K : DV → Prop} (b : BinOp) (t : TypeId) (x y : Operand) (t' : TypeId) : vcOpQ P w0 (.binOp b t x y t') fr S K = (isNilC y = false ∧ vBin b (tk P t) (isC x) (isC y) (ev fr x) (ev fr y) K) := rfl
theorem w_unOp {P : Program} {w0 : W0} {fr : List DV} {S : St} {K : DV → Prop} (b : UnOp) (t : TypeId) (x : Operand) : vcOpQ P w0 (.unOp b t x) fr S K = (vUn b (ev fr x) K) := rfl
theorem w_convert {P : Program} {w0 : W0} {fr : List DV} {S : St} {K : DV → Prop} (s d : TypeId) (x : Operand) : vcOpQ P w0 (.convert s d x) fr S K = (vConv (tk P s) (tk P d) (ev fr x) K) := rfl
theorem w_mkIfc {P : Program} {w0 : W0} {fr : List DV} {S : St} {K : DV → Prop} (t : TypeId) (x : Operand) : vcOpQ P w0 (.makeInterface t x) fr S K = (isIfc (tk P t) = false ∧ naccA (ev fr x) = true ∧ K (.ifc t (ev fr x))) := rfl
theorem w_makeFunc {P : Program} {w0 : W0} {fr : List DV} {S : St} {K : DV → Prop} (fn : Fn) (a b : List Operand) : vcOpQ P w0 (.makeFunc fn a.toArray b.toArray) fr S K = (vFunc fn (a.map (ev fr)) (b.map (ev fr)) K) := rfl
theorem w_slice {P : Program} {w0 : W0} {fr : List DV} {S : St} {K : DV → Prop} (t : TypeId) (x : Operand) (lo hi mx : Option Operand) : vcOpQ P w0 (.slice t x lo hi mx) fr S K = ((mx.isSome = true → hi.isSome = true) ∧ nacc (ev fr x) = true ∧ vSlice (tk P t) (ev fr x) (lo.map (ev fr)) (hi.map (ev fr)) (mx.map (ev fr)) K) := rfl
theorem w_build {P : Program} {w0 : W0} {fr : List DV} {S : St} {K : DV → Prop} (t : TypeId) (parts : List (Nat × Operand)) : vcOpQ P w0 (.build t parts.toArray) fr S K = ((parts.map fun p => ev fr p.2).all naccA = true ∧ vBuild P t ((parts.map (·.1)).zip (parts.map fun p => ev fr p.2)) K) := rfl
theorem w_buildSlice {P : Program} {w0 : W0} {fr : List DV} {S : St} {K : DV → Prop} (t : TypeId) (len : Nat) (parts : List (Nat × Operand)) : vcOpQ P w0 (.buildSlice t len parts.toArray) fr S K = ((parts.map fun p => ev fr p.2).all naccA = true ∧ vBuildSlice (tk P t) (zD P (elT P t)) len ((parts.map (·.1)).zip (parts.map fun p => ev fr p.2)) K) := rfl
theorem w_len {P : Program} {w0 : W0} {fr : List DV} {S : St} {K : DV → Prop} (x : Operand) (t : TypeId) : vcOpQ P w0 (.call ⟨.builtin .len, #[x], #[t]⟩) fr S K = (vLen (tk P t) (ev fr x) K) := rfl
theorem w_cap {P : Program} {w0 : W0} {fr : List DV} {S : St} {K : DV → Prop} (x : Operand) (t : TypeId) : vcOpQ P w0 (.call ⟨.builtin .cap, #[x], #[t]⟩) fr S K = (vCap (tk P t) (ev fr x) K) := rfl
theorem w_min {P : Program} {w0 : W0} {fr : List DV} {S : St} {K : DV → Prop} (x y : Operand) (ts : Array TypeId) : vcOpQ P w0 (.call ⟨.builtin .min, #[x, y], ts⟩) fr S K = (vMin (ev fr x) (ev fr y) K) := rfl
theorem w_max {P : Program} {w0 : W0} {fr : List DV} {S : St} {K : DV → Prop} (x y : Operand) (ts : Array TypeId) : vcOpQ P w0 (.call ⟨.builtin .max, #[x, y], ts⟩) fr S K = (vMax (ev fr x) (ev fr y) K) := rfl
theorem w_call {P : Program} {w0 : W0} {fr : List DV} {S : St} {K : DV → Prop} (cal : Operand) (a : List Operand) (ts : Array TypeId) : vcOpQ P w0 (.call ⟨.value cal, a.toArray, ts⟩) fr S K = (vCallQ P w0 (ev fr cal) (a.map (ev fr)) S K) := rfl
attribute [go_sem ↓] v_move v_assign v_pick v_load v_fieldAddr v_indexAddr v_index v_field v_extract v_nilCheck v_binOp v_unOp v_convert v_mkIfc v_assert v_build v_buildSlice v_makeFunc v_slice v_box v_alloc v_store v_makeSlice v_len v_cap v_append v_min v_max v_call w_move w_assign w_pick w_load w_fieldAddr w_indexAddr w_index w_field w_extract w_nilCheck w_binOp
attribute [go_sem ↓] w_unOp w_convert w_mkIfc w_makeFunc w_slice w_build w_buildSlice w_len w_cap w_min w_max w_call
attribute [go_sem] e_isQ_move e_isQ_assign e_isQ_pick e_isQ_load e_isQ_fieldAddr e_isQ_indexAddr e_isQ_index e_isQ_field e_isQ_extract e_isQ_nilCheck e_isQ_binOp e_isQ_unOp e_isQ_convert e_isQ_makeInterface e_isQ_typeAssert e_isQ_build e_isQ_buildSlice e_isQ_makeFunc e_isQ_slice e_isQ_box e_isQ_alloc e_isQ_store e_isQ_makeSlice e_isQ_lookup e_isQ_range e_isQ_next e_isQ_entry e_isQ_makeMap e_isQ_mapUpdate e_isQ_val e_isQ_inv e_isQ_b_len e_isQ_b_cap e_isQ_b_min e_isQ_b_max e_isQ_b_append e_isQ_b_clear e_isQ_b_delete e_isQ_b_copy e_ev_tmp
attribute [go_sem] e_ev_const e_ev_glob e_ev_func e_pt_some e_pt_none e_cv0_int e_cv_int e_cv0_bool e_cv_bool e_cv0_str e_cv_str e_cv0_nil e_cv_nil e_cv0_ptr e_cv_ptr e_cv0_map e_cv_map e_cv0_nif e_cv_nif e_cv0_nfn e_cv_nfn e_cv_agg e_isIfc_one e_isIfc_str e_isIfc_int e_isIfc_sl e_isIfc_st e_isIfc_ar e_isIfc_map e_isIfc_ptr e_isIfc_ifc e_isIfc_fn e_intK_one e_intK_str e_intK_int e_intK_sl e_intK_st e_intK_ar e_intK_map e_intK_ptr
attribute [go_sem] e_intK_ifc e_intK_fn e_notInt_one e_notInt_str e_notInt_int e_notInt_sl e_notInt_st e_notInt_ar e_notInt_map e_notInt_ptr e_notInt_ifc e_notInt_fn e_nacc_v e_nacc_sl e_nacc_ifc e_nacc_ip e_nacc_any e_nacc_acc e_nacc_ap e_nacc_tup e_naccA_v e_naccA_sl e_naccA_ifc e_naccA_ip e_naccA_any e_naccA_acc e_naccA_ap e_naccA_tup e_nacc_agg e_naccA_agg e_isC_tmp e_isC_const e_isC_global e_isC_func e_vals_nil e_vals_v e_fillD_nil e_fillD_cons e_fd1 e_fillE_nil
attribute [go_sem] e_fillE_cons e_setAll_nil e_setAll_cons e_elSet_all e_elSet_agg e_ren_nil e_ren_same e_ren_ne e_same_add e_same_sub e_same_mul e_same_quo e_same_rem e_same_and e_same_or e_same_xor e_same_andNot e_same_eql e_same_neq e_same_lss e_same_leq e_same_gtr e_same_geq e_same_shl e_same_shr e_replicate_0 e_replicate_s e_set_0 e_set_s e_set_nil e_wk e_wkA_nil e_wkA_n e_wkA_c e_upds_nil e_upds_cons e_app_nil e_app_cons
section
variable {P : Program} {w0 : W0} {K : DV → Prop} {A B : Prop} {F G : List DV → Prop}
/- Tests: what is known is gone by; what can't be known parts the way. -/
theorem n_cond_t : condD (.v (.bool true)) A B = A := by simp [condD]
theorem n_cond_f : condD (.v (.bool false)) A B = B := by simp [condD]
theorem n_cond_d (p : Prop) [Decidable p] : condD (.v (.bool (decide p))) A B = ((p → A) ∧ (¬ p → B)) := by simp [condD]
theorem n_cond_n (b : Bool) : condD (.v (.bool (!b))) A B = condD (.v (.bool b)) B A := by
  simp only [condD, Bool.not_eq_eq_eq_not, Bool.not_true, Bool.not_false]
  exact propext ⟨fun h => ⟨h.2, h.1⟩, fun h => ⟨h.2, h.1⟩⟩
theorem n_cond_b (b : Bool) : condD (.v (.bool b)) A B = ((b = true → A) ∧ (b = false → B)) := rfl
theorem n_pick_t (a b : DV) : vPick (.v (.bool true)) a b K = K a := by simp [vPick]
theorem n_pick_f (a b : DV) : vPick (.v (.bool false)) a b K = K b := by simp [vPick]
theorem n_pick_d (p : Prop) [Decidable p] (a b : DV) : vPick (.v (.bool (decide p))) a b K = ((p → K a) ∧ (¬ p → K b)) := by simp [vPick]
theorem n_pick_n (t : Bool) (a b : DV) : vPick (.v (.bool (!t))) a b K = vPick (.v (.bool t)) b a K := by
  simp only [vPick, Bool.not_eq_eq_eq_not, Bool.not_true, Bool.not_false]
  exact propext ⟨fun h => ⟨h.2, h.1⟩, fun h => ⟨h.2, h.1⟩⟩
theorem n_pick_b (t : Bool) (a b : DV) : vPick (.v (.bool t)) a b K = ((t = true → K a) ∧ (t = false → K b)) := rfl
/- A choice between what is known is the test itself. -/
theorem n_pick_tf (t : Bool) : vPick (.v (.bool t)) (.v (.bool true)) (.v (.bool false)) K = K (.v (.bool t)) := by cases t <;> simp [vPick]
theorem n_pick_ft (t : Bool) : vPick (.v (.bool t)) (.v (.bool false)) (.v (.bool true)) K = K (.v (.bool (!t))) := by cases t <;> simp [vPick]
theorem n_gD_tt (t : Nat) (fr : List DV) : gD t (.v (.bool true)) fr true F G = F (fr.set t (.v (.bool true))) := by simp [gD]
theorem n_gD_tf (t : Nat) (fr : List DV) : gD t (.v (.bool true)) fr false F G = G (fr.set t (.v (.bool true))) := by simp [gD]
theorem n_gD_ft (t : Nat) (fr : List DV) : gD t (.v (.bool false)) fr true F G = G (fr.set t (.v (.bool false))) := by simp [gD]
theorem n_gD_ff (t : Nat) (fr : List DV) : gD t (.v (.bool false)) fr false F G = F (fr.set t (.v (.bool false))) := by simp [gD]
theorem n_gD_dt (p : Prop) [Decidable p] (t : Nat) (fr : List DV) : gD t (.v (.bool (decide p))) fr true F G = ((p → F (fr.set t (.v (.bool true)))) ∧ (¬ p → G (fr.set t (.v (.bool false))))) := by simp [gD]
theorem n_gD_df (p : Prop) [Decidable p] (t : Nat) (fr : List DV) : gD t (.v (.bool (decide p))) fr false F G = ((p → G (fr.set t (.v (.bool true)))) ∧ (¬ p → F (fr.set t (.v (.bool false))))) := by
  simp only [gD, decide_eq_false_iff_not, Bool.not_false, decide_eq_true_eq]
  exact propext ⟨fun h => ⟨h.2, h.1⟩, fun h => ⟨h.2, h.1⟩⟩
theorem n_gD_bt (b : Bool) (t : Nat) (fr : List DV) : gD t (.v (.bool b)) fr true F G = ((b = true → F (fr.set t (.v (.bool true)))) ∧ (b = false → G (fr.set t (.v (.bool false))))) := by simp [gD]
theorem n_gD_bf (b : Bool) (t : Nat) (fr : List DV) : gD t (.v (.bool b)) fr false F G = ((b = true → G (fr.set t (.v (.bool true)))) ∧ (b = false → F (fr.set t (.v (.bool false))))) := by
  simp only [gD, Bool.not_false]
  exact propext ⟨fun h => ⟨h.2, h.1⟩, fun h => ⟨h.2, h.1⟩⟩
end
attribute [go_sem ↓] n_cond_t n_cond_f n_cond_d n_cond_n n_pick_t n_pick_f n_pick_d n_pick_n n_gD_tt n_gD_tf n_gD_ft n_gD_ff n_gD_dt n_gD_df
attribute [go_sem ↓ low] n_cond_b n_pick_b n_gD_bt n_gD_bf
attribute [go_sem] List.length_cons List.length_nil List.length_map List.cons_append List.nil_append List.map_cons List.map_nil List.zip_cons_cons List.zip_nil_right
section
variable {P : Program} {w0 : W0} {ops : Array Oper} {K : List DV → St → Prop} {fr : List DV} {S : St} {rest : List Oper} {dst : Option Tmp} {op : Op} {ty : TypeId} {pos : String} {aft : Array Edge}
theorem n_vcL_nil : vcL P w0 ops K [] fr S = K fr S := rfl
theorem n_vcL_none : vcL P w0 ops K (⟨dst, op, ty, pos, aft, none⟩ :: rest) fr S = vcOp P w0 op fr S fun d S' => vcL P w0 ops K rest (pt fr dst d) S' := rfl
theorem n_vcL_some (j : Nat) (want : Bool) : vcL P w0 ops K (⟨dst, op, ty, pos, aft, some (j, want)⟩ :: rest) fr S = gK ((ops[j]?).bind (·.dst)) fr want (fun fr => vcOp P w0 op fr S fun d S' => vcL P w0 ops K rest (pt fr dst d) S') (fun fr => vcL P w0 ops K rest (pt fr dst ud) S) := q_guard _ _ _ _ _ _
end
/-- A call that hands back one value. -/
def QC (P : Program) (w0 : W0) (f : FuncId) (ds : List DV) (S : St) [K : Cn (DV → Prop)] : Prop := ∃ d, ACall P w0 f ds S (fun d' S' => d' = d ∧ S' = S) ∧ K.k d
theorem n_callQ {P : Program} {w0 : W0} (f : FuncId) (a cap : Array Value) (ds : List DV) (S : St) (K : DV → Prop) : vCallQ P w0 (.v (.func (.func f) a cap)) ds S K = (a.size = 0 ∧ okF P f = true ∧ cap.toList.all (fun u => u.oneCell') = true ∧ ds.all naccA = true ∧ @QC P w0 f (ds ++ cap.toList.map .v) S ⟨K⟩) := rfl
attribute [go_sem ↓] n_vcL_nil n_vcL_none n_vcL_some n_callQ thenQ blockQ vBinI vSliceS resKs vCut0
attribute [go_sem] List.getD_cons_succ List.getD_cons_zero List.getElem?_cons_succ List.getElem?_cons_zero List.getElem?_toArray Option.bind_some List.all_cons List.all_nil Bool.and_self Bool.and_true
attribute [go_sem] Nat.zero_add true_and and_true List.drop_zero List.drop_succ_cons List.take_succ_cons List.take_zero Option.map_some Option.map_none Option.isSome_some Option.isSome_none Option.isNone_none Option.isNone_some
attribute [go_sem] Bool.false_eq_true if_true if_false or_true true_or false_or or_false forall_const false_implies imp_self Bool.not_true Bool.not_false beq_self_eq_true decide_eq_true_eq decide_eq_false_iff_not decide_true decide_false
attribute [go_sem] Int.toNat_natCast Int.natCast_nonneg Int.ofNat_lt Int.ofNat_le Int.natCast_inj List.getElem?_map Option.map_eq_some_iff forall_exists_index and_imp forall_apply_eq_imp_iff₂ forall_eq_apply_imp_iff ne_eq not_false_eq_true not_true_eq_false
attribute [go_sem] List.size_toArray List.append_nil Int.le_refl Nat.le_refl List.drop_nil List.take_nil Int.toNat_zero Int.natCast_zero Int.natCast_one Int.cast_ofNat_Int Bool.or_true Bool.or_false Bool.true_or Bool.false_or Bool.false_and Bool.and_false Bool.true_and List.isEmpty_nil List.isEmpty_cons
attribute [go_sem] dI dU dY dB dS Nat.lt_add_one forall_eq forall_eq' true_implies implies_true Option.some.injEq

/-- A name that a store doesn't have. -/
structure FN {α : Type} (l : List (Nat × α)) where
  n : Nat
  h : nin l n
theorem n_fresh {α : Type} (l : List (Nat × α)) (F : Nat → Prop) : (∀ b, nin l b → F b) = ∀ b : FN l, F b.n := propext ⟨fun h b => h b.n b.h, fun h b hb => h ⟨b, hb⟩⟩
theorem nin_lk {α : Type} : ∀ {l : List (Nat × α)} {b : Nat}, nin l b → lk l b = none
  | [], _, _ => rfl
  | (k, x) :: t, b, h => by
    simp only [nin] at h
    unfold lk
    rw [if_neg (by first | exact fun e => h.1 e | exact fun e => h.1 e.symm)]
    exact nin_lk (by first | exact h.2 | exact h.2.2)
theorem n_fn_ne {α : Type} {l : List (Nat × α)} (b : FN l) (c : Nat) (h : (lk l c).isSome = true) : (b.n = c) = False := by
  refine eq_false fun e => ?_
  subst e; rw [nin_lk b.h] at h; cases h
theorem n_fn_ne' {α : Type} {l : List (Nat × α)} (b : FN l) (c : Nat) (h : (lk l c).isSome = true) : (c = b.n) = False := by
  refine eq_false fun e => ?_
  subst e; rw [nin_lk b.h] at h; cases h
theorem n_fn_nin {α : Type} {l : List (Nat × α)} (b : FN l) : nin l b.n = True := eq_true b.h
section
variable {S : St} {K : DV → St → Prop}
theorem n_bx (d : DV) : bxK S d K = ∀ b : FN S.box, K (.v (.pointer (some ⟨b.n, 0, none⟩))) ⟨(b.n, cd d) :: S.box, S.acc⟩ := n_fresh S.box fun b => K (.v (.pointer (some ⟨b, 0, none⟩))) ⟨(b, cd d) :: S.box, S.acc⟩
theorem n_bx_agg (ds : List DV) : bxK S (.agg ds) K = ∀ b : FN S.box, K (.v (.pointer (some ⟨b.n, 0, none⟩))) ⟨(b.n, ds) :: S.box, S.acc⟩ := n_bx _
theorem n_bx_v (u : Value) : bxK S (.v u) K = ∀ b : FN S.box, K (.v (.pointer (some ⟨b.n, 0, none⟩))) ⟨(b.n, [.v u]) :: S.box, S.acc⟩ := n_bx _
theorem n_bx_sl (s : Nat) (f : Bool) (xs : List DV) : bxK S (.sl s f xs) K = ∀ b : FN S.box, K (.v (.pointer (some ⟨b.n, 0, none⟩))) ⟨(b.n, [.sl s f xs]) :: S.box, S.acc⟩ := n_bx _
theorem n_bx_ifc (t : TypeId) (d : DV) : bxK S (.ifc t d) K = ∀ b : FN S.box, K (.v (.pointer (some ⟨b.n, 0, none⟩))) ⟨(b.n, [.ifc t d]) :: S.box, S.acc⟩ := n_bx _
theorem n_bx_acc (l n : Nat) : bxK S (.acc l n) K = ∀ b : FN S.box, K (.v (.pointer (some ⟨b.n, 0, none⟩))) ⟨(b.n, [.acc l n]) :: S.box, S.acc⟩ := n_bx _
theorem n_bx_ip (ds : List DV) : bxK S (.ip ds) K = ∀ b : FN S.box, K (.v (.pointer (some ⟨b.n, 0, none⟩))) ⟨(b.n, [.ip ds]) :: S.box, S.acc⟩ := n_bx _
end
attribute [go_sem ↓] n_fresh n_bx_agg n_bx_v n_bx_sl n_bx_ifc n_bx_acc n_bx_ip
attribute [go_sem] n_fn_ne n_fn_ne' n_fn_nin Option.isSome_some

/-- A proposition as a Bool. -/
noncomputable def pB (P : Prop) : Bool := @decide P (Classical.propDecidable P)
theorem pB_true {P : Prop} (h : P) : pB P = true := @decide_eq_true _ (Classical.propDecidable _) h
theorem pB_false {P : Prop} (h : ¬ P) : pB P = false := @decide_eq_false _ (Classical.propDecidable _) h
theorem n_pBt (P : Prop) : (pB P = true) = P := propext ⟨fun h => @of_decide_eq_true _ (Classical.propDecidable _) h, pB_true⟩
theorem n_pBf (P : Prop) : (pB P = false) = ¬ P := propext ⟨fun h => @of_decide_eq_false _ (Classical.propDecidable _) h, pB_false⟩
theorem n_tpB (P : Prop) : (true = pB P) = P := (propext eq_comm).trans (n_pBt P)
theorem n_fpB (P : Prop) : (false = pB P) = ¬ P := (propext eq_comm).trans (n_pBf P)
theorem n_td (P : Prop) [Decidable P] : (true = decide P) = P := (propext eq_comm).trans decide_eq_true_eq
theorem n_fd (P : Prop) [Decidable P] : (false = decide P) = ¬ P := (propext eq_comm).trans (propext decide_eq_false_iff_not)
theorem n_cond_p (P A B : Prop) : condD (.v (.bool (pB P))) A B = ((P → A) ∧ (¬ P → B)) := by
  show ((pB P = true → A) ∧ (pB P = false → B)) = _
  rw [n_pBt, n_pBf]
theorem n_pick_p (P : Prop) (a b : DV) (K : DV → Prop) : vPick (.v (.bool (pB P))) a b K = ((P → K a) ∧ (¬ P → K b)) := by
  show ((pB P = true → K a) ∧ (pB P = false → K b)) = _
  rw [n_pBt, n_pBf]
theorem n_gD_pt (P : Prop) (t : Nat) (fr : List DV) (F G : List DV → Prop) : gD t (.v (.bool (pB P))) fr true F G = ((P → F (fr.set t (.v (.bool true)))) ∧ (¬ P → G (fr.set t (.v (.bool false))))) := by
  rw [n_gD_bt, n_pBt, n_pBf]
theorem n_gD_pf (P : Prop) (t : Nat) (fr : List DV) (F G : List DV → Prop) : gD t (.v (.bool (pB P))) fr false F G = ((P → G (fr.set t (.v (.bool true)))) ∧ (¬ P → F (fr.set t (.v (.bool false))))) := by
  rw [n_gD_bf, n_pBt, n_pBf]
theorem n_not_pB (P : Prop) : (!pB P) = pB (¬ P) := by
  by_cases h : P
  · rw [pB_true h, pB_false (fun k => k h)]; rfl
  · rw [pB_false h, pB_true h]; rfl
theorem n_pB_eq {P Q : Prop} (h : P ↔ Q) : pB P = pB Q := by rw [propext h]
attribute [go_sem ↓] n_cond_p n_pick_p n_gD_pt n_gD_pf
attribute [go_sem] n_pBt n_pBf n_tpB n_fpB n_td n_fd n_not_pB

theorem n_map_take {α β : Type} (f : α → β) (n : Nat) (l : List α) : List.take n (List.map f l) = List.map f (List.take n l) := List.map_take.symm
theorem n_map_drop {α β : Type} (f : α → β) (n : Nat) (l : List α) : List.drop n (List.map f l) = List.map f (List.drop n l) := List.map_drop.symm
theorem n_map_app {α β : Type} (f : α → β) (a b : List α) : List.map f a ++ List.map f b = List.map f (a ++ b) := List.map_append.symm
attribute [go_sem] n_map_take n_map_drop n_map_app List.length_append List.length_take List.length_drop List.take_length List.drop_length Nat.min_self

theorem n_dp (P Q : Prop) [Decidable P] : (decide P = pB Q) = (P ↔ Q) := propext ⟨fun h => ⟨fun p => (n_pBt Q).mp (h ▸ decide_eq_true p), fun q => of_decide_eq_true (h.trans (pB_true q))⟩, fun h => by
  by_cases p : P
  · rw [pB_true (h.1 p), decide_eq_true p]
  · rw [pB_false (fun q => p (h.2 q)), decide_eq_false p]⟩
theorem n_pd (P Q : Prop) [Decidable Q] : (pB P = decide Q) = (P ↔ Q) := (propext eq_comm).trans ((n_dp Q P).trans (propext ⟨Iff.symm, Iff.symm⟩))
theorem n_pp (P Q : Prop) : (pB P = pB Q) = (P ↔ Q) := propext ⟨fun h => ⟨fun p => (n_pBt Q).mp (h ▸ pB_true p), fun q => (n_pBt P).mp (h.trans (pB_true q))⟩, n_pB_eq⟩
theorem n_dd (P Q : Prop) [Decidable P] [Decidable Q] : (decide P = decide Q) = (P ↔ Q) := propext decide_eq_decide
attribute [go_sem] n_dp n_pd n_pp n_dd

theorem n_not_d (P : Prop) [Decidable P] : (!decide P) = decide (¬ P) := (decide_not).symm
attribute [go_sem] n_not_d Bool.not_eq_true' Bool.not_eq_false'

attribute [go_sem] Value.oneCell' false_and and_false and_self List.length_set

attribute [go_sem ↓] q_el_map q_el_nil q_el_zero q_el_succ q_ex_map q_ex_nil q_ex_zero q_ex_succ q_ld_int q_ld_one q_ld_fn q_ld_str q_ld_sl q_ld_map q_ld_ptr q_ld_ifc q_ld_st q_ld_ar q_load_ip q_ia_sl q_ia_acc q_index q_bin_ii q_bin_ss q_bin_be q_bin_bn q_bin_nne q_bin_nnn q_bin_ine q_bin_inn q_bin_ppe q_bin_ppn q_bin_pe q_bin_pn q_bin_ipe q_bin_ipn q_un_not q_un_neg q_conv_i q_conv_s q_shr1_v q_shr1_sl q_shr1_ifc q_shr1_ip q_shr1_any q_shr1s_nil q_shr1s_cons q_shr_v q_shr_sl q_shr_ifc q_shr_ip q_shr_any q_shr_acc q_shr_agg q_shrs_nil q_shrs_cons q_shrT_v q_shrT_sl q_shrT_ifc q_shrT_acc q_shrT_agg q_shrT_tup q_bnd_none q_bnd_some q_slice_sl q_slice_str q_len_sl q_len_acc q_len_str q_min q_max q_sliceX_sl q_sliceX_v q_sliceX_acc q_atZ q_nilEq_sl q_nilEq_sn q_nilEq_al q_nilEq_an q_appInt q_storeX_v q_makeSlice q_cap q_cont_sl q_cont_str q_append q_app_nil q_app_cons q_call q_res_tmp q_res_cell q_resK_one q_resK_nil q_resK_two q_g_none q_oK_some q_oK_none q_bK_arr q_bK_tl q_load_box q_load_ap q_field q_fi_ptr q_fi_ip q_fi_ap q_fieldV q_fv_t q_fv_f q_extract q_shr1_acc q_store q_storeX_ap q_cont_acc q_app_acc q_guard q_gK_none q_gK_some q_gD_ud q_func q_build q_bu q_bsl
attribute [go_sem] q_okE_v q_okE_sl q_okE_agg q_okE_ifc q_okE_acc q_okE_ip q_cd_v q_cd_sl q_cd_agg q_cd_ifc q_cd_acc q_cd_ip q_lk_nil q_lk_same q_lk_ne q_up_same q_up_ne q_nn_ptr q_nn_fn q_nn_ip q_nn_ap q_nn_ifc q_isZ q_isZ_n q_isNilC_t q_isNilC_g q_isNilC_i q_isNilC_b q_isNilC_s q_isNilC_f q_isNilC_p q_isNilC_n q_hasAcc_nil q_hasAcc_acc q_hasAcc_v q_hasAcc_sl q_hasAcc_agg q_hasAcc_ifc q_hasAcc_ip
end Aml

namespace Aml
open Go Go.RowKit
set_option linter.unusedVariables false
set_option linter.unusedSimpArgs false

/-- A region whose order is open: what reads, then what writes. -/
def vcLT (P : Program) (w0 : W0) (S : St) (ops : Array Oper) (K : List DV → St → Prop) : List Oper → List DV → Prop
  | [], fr => K fr S
  | o :: rest, fr => selK (isQ o.op)
    (guardK ops fr o.guard (fun fr => vcOpQ P w0 o.op fr S fun d => vcLT P w0 S ops K rest (pt fr o.dst d)) (fun fr => vcLT P w0 S ops K rest (pt fr o.dst ud)))
    (vcL P w0 ops K (o :: rest) fr S)

section
variable {P : Program} {w0 : W0}
theorem vcLT_split {S : St} {ops : Array Oper} {K : List DV → St → Prop} : ∀ {l : List Oper} {fr : List DV}, l.all (fun o => okSl o.op) = true → vcLT P w0 S ops K l fr → LQ P w0 S ops (fun fr => vcL P w0 ops K (l.drop (npre l)) fr S) (l.take (npre l)) fr
  | [], fr, _, h => h
  | o :: rest, fr, hs, h => by
    simp only [List.all_cons, Bool.and_eq_true] at hs
    unfold vcLT selK at h
    cases hq : isQ o.op with
    | true =>
      rw [hq] at h
      simp only at h
      have e : npre (o :: rest) = npre rest + 1 := by simp [npre, List.takeWhile_cons, hq]
      rw [e, List.take_succ_cons, List.drop_succ_cons]
      refine guardK_mono (fun fr h => ?_) (fun fr h => vcLT_split hs.2 h) h
      obtain ⟨d, q1, q2⟩ := vcOpQ_sound hs.1 h
      exact ⟨d, q1, vcLT_split hs.2 q2⟩
    | false =>
      rw [hq] at h
      have e : npre (o :: rest) = 0 := by simp [npre, List.takeWhile_cons, hq]
      rw [e]
      exact h
theorem LQ_arr {S : St} {a b : Array Oper} {K : List DV → Prop} : ∀ {l : List Oper} {fr : List DV}, (∀ o, o ∈ l → ∀ j want, o.guard = some (j, want) → a[j]? = b[j]?) → LQ P w0 S a K l fr → LQ P w0 S b K l fr
  | [], fr, _, h => h
  | o :: rest, fr, hg, h => by
    have h' : guardK a fr o.guard (fun fr => ∃ d, QY P w0 S o fr d ∧ LQ P w0 S b K rest (pt fr o.dst d)) (fun fr => LQ P w0 S b K rest (pt fr o.dst ud)) :=
      guardK_mono (fun fr ⟨d, q1, q2⟩ => ⟨d, q1, LQ_arr (fun o ho => hg o (List.mem_cons_of_mem _ ho)) q2⟩) (fun fr h => LQ_arr (fun o ho => hg o (List.mem_cons_of_mem _ ho)) h) h
    unfold guardK at h'
    show guardK b fr o.guard _ _
    unfold guardK
    cases hgo : o.guard with
    | none => rw [hgo] at h'; exact h'
    | some p =>
      obtain ⟨j, want⟩ := p
      rw [hgo] at h'
      simp only at h' ⊢
      rw [← hg o List.mem_cons_self j want hgo]
      exact h'

/-- A region that draws the order of what reads; what writes comes behind. -/
theorem awp_drawX {id : Nat} {l : List Oper} {fr : List DV} {S : St} {Q : Exit → List DV → St → Prop} (hm : P.follows .mixedOrders = true) (hB : Region.lexB .any (l.take (npre l)).toArray = true) (hT : tailB .any l.toArray (npre l) = true) (hs : l.all (fun o => okSl o.op) = true)
    (h : vcLT P w0 S l.toArray (fun fr S => Q .normal fr S) l fr) : AWp P w0 (.region id l.toArray true) fr S Q := by
  have hn : npre l ≤ l.length := by
    unfold npre
    exact List.Sublist.length_le (List.takeWhile_sublist _)
  refine awp_drawT (npre l) hn hm hB hT hs (LQ_arr ?_ (vcLT_split hs h))
  intro o ho j want hg
  simp only [tailB, Bool.and_eq_true] at hT
  have := List.all_eq_true.1 hT.2 o (by simpa using ho)
  simp only [hg, decide_eq_true_eq] at this
  simp [List.getElem?_take, this]

/-- A loop, left as it is. -/
def AL (P : Program) (w0 : W0) (fr : List DV) (S : St) [c : Cn (Code × (Exit → List DV → St → Prop))] : Prop := AWp P w0 c.k.1 fr S c.k.2
/-- What a region asks. -/
def vcR (P : Program) (w0 : W0) (c : Code) (fr : List DV) (S : St) (Q : Exit → List DV → St → Prop) : Prop := match c with
  | .region _ ops false => vcL P w0 ops (fun fr S => Q .normal fr S) ops.toList fr S
  | .region _ ops true => vcLT P w0 S ops (fun fr S => Q .normal fr S) ops.toList fr
  | _ => False
/-- The walk. -/
def vw (P : Program) (w0 : W0) (ss : List Nat) : Code → List DV → St → (Exit → List DV → St → Prop) → Prop
  | .skip, fr, S, Q => Q .normal fr S
  | .seq x y, fr, S, Q => vw P w0 ss x fr S (thenQ (fun fr S => vw P w0 ss y fr S Q) Q)
  | .cond c x y, fr, S, Q => condD (ev fr c) (vw P w0 ss x fr S Q) (vw P w0 ss y fr S Q)
  | .block n c, fr, S, Q => selK (ss.contains (n + 1000)) (@AL P w0 fr S ⟨((.block n c), Q)⟩) (vw P w0 ss c fr S (blockQ n Q))
  | .exit n, fr, S, Q => Q (.exit n) fr S
  | .ret, fr, S, Q => Q .ret fr S
  | .region n ops dr, fr, S, Q => selK (ss.contains n) (@AL P w0 fr S ⟨((.region n ops dr), Q)⟩)
    (selK dr (vcLT P w0 S ops (fun fr S => Q .normal fr S) ops.toList fr) (vcL P w0 ops (fun fr S => Q .normal fr S) ops.toList fr S))
  | c, fr, S, Q => @AL P w0 fr S ⟨(c, Q)⟩
/- How it goes. -/
section
variable {P : Program} {w0 : W0} {ss : List Nat} {fr : List DV} {S : St} {Q : Exit → List DV → St → Prop}
theorem n_vw_skip : vw P w0 ss .skip fr S Q = Q .normal fr S := rfl
theorem n_vw_seq (x y : Code) : vw P w0 ss (.seq x y) fr S Q = vw P w0 ss x fr S (thenQ (fun fr S => vw P w0 ss y fr S Q) Q) := rfl
theorem n_vw_cond (c : Operand) (x y : Code) : vw P w0 ss (.cond c x y) fr S Q = condD (ev fr c) (vw P w0 ss x fr S Q) (vw P w0 ss y fr S Q) := rfl
theorem n_vw_block (n : Nat) (c : Code) : vw P w0 ss (.block n c) fr S Q = selK (ss.contains (n + 1000)) (@AL P w0 fr S ⟨((.block n c), Q)⟩) (vw P w0 ss c fr S (blockQ n Q)) := rfl
theorem n_vw_exit (n : Nat) : vw P w0 ss (.exit n) fr S Q = Q (.exit n) fr S := rfl
theorem n_vw_ret : vw P w0 ss .ret fr S Q = Q .ret fr S := rfl
def normF (fr : List DV) (F : List DV → Prop) : Prop := F fr
@[congr] theorem c_normF {fr fr' : List DV} {F : List DV → Prop} (h : fr = fr') : normF fr F = normF fr' F := by cases h; rfl
theorem n_normF (d : DV) (fr : List DV) (F : List DV → Prop) : normF (d :: fr) F = F (d :: fr) := rfl
theorem n_normF_nil (F : List DV → Prop) : normF [] F = F [] := rfl
attribute [go_sem ↓] n_normF n_normF_nil
theorem n_vw_regF (n : Nat) (l : List Oper) : vw P w0 ss (.region n l.toArray false) fr S Q = selK (ss.contains n) (@AL P w0 fr S ⟨((.region n l.toArray false), Q)⟩) (vcL P w0 l.toArray (fun fr S => normF fr fun fr => Q .normal fr S) l fr S) := by simp [vw, selK, normF]
theorem n_vw_regT (n : Nat) (l : List Oper) : vw P w0 ss (.region n l.toArray true) fr S Q = selK (ss.contains n) (@AL P w0 fr S ⟨((.region n l.toArray true), Q)⟩) (vcLT P w0 S l.toArray (fun fr S => normF fr fun fr => Q .normal fr S) l fr) := by simp [vw, selK, normF]
section
variable {ops : Array Oper} {K : List DV → St → Prop} {rest : List Oper} {dst : Option Tmp} {op : Op} {ty : TypeId} {pos : String} {aft : Array Edge}
theorem n_LT_nil : vcLT P w0 S ops K [] fr = K fr S := rfl
theorem n_LT_none : vcLT P w0 S ops K (⟨dst, op, ty, pos, aft, none⟩ :: rest) fr = selK (isQ op) (vcOpQ P w0 op fr S fun d => vcLT P w0 S ops K rest (pt fr dst d)) (vcL P w0 ops K (⟨dst, op, ty, pos, aft, none⟩ :: rest) fr S) := rfl
theorem n_LT_some (j : Nat) (want : Bool) : vcLT P w0 S ops K (⟨dst, op, ty, pos, aft, some (j, want)⟩ :: rest) fr = selK (isQ op) (gK ((ops[j]?).bind (·.dst)) fr want (fun fr => vcOpQ P w0 op fr S fun d => vcLT P w0 S ops K rest (pt fr dst d)) (fun fr => vcLT P w0 S ops K rest (pt fr dst ud))) (vcL P w0 ops K (⟨dst, op, ty, pos, aft, some (j, want)⟩ :: rest) fr S) := by
  rw [← q_guard]; rfl
end
def normL (l : List Oper) (F : List Oper → Prop) : Prop := F l
@[congr] theorem c_normL {l l' : List Oper} {F : List Oper → Prop} (h : l = l') : normL l F = normL l' F := by cases h; rfl
theorem n_normL (l : List Oper) (F : List Oper → Prop) : normL l F = F l := rfl
theorem n_vw_regA (n : Nat) (l1 l2 : List Oper) (dr : Bool) : vw P w0 ss (.region n (l1.append l2).toArray dr) fr S Q = normL (l1.append l2) (fun l => vw P w0 ss (.region n l.toArray dr) fr S Q) := rfl
theorem n_vw_loop (c : Code) : vw P w0 ss (.loop c) fr S Q = @AL P w0 fr S ⟨((.loop c), Q)⟩ := rfl
@[congr] theorem c_vw {c : Code} {fr' : List DV} {S' : St} (h1 : fr = fr') (h2 : S = S') : vw P w0 ss c fr S Q = vw P w0 ss c fr' S' Q := by cases h1; cases h2; rfl
@[congr] theorem c_vcLT {ops : Array Oper} {K : List DV → St → Prop} {l : List Oper} {fr' : List DV} {S' : St} (h1 : fr = fr') (h2 : S = S') : vcLT P w0 S ops K l fr = vcLT P w0 S' ops K l fr' := by cases h1; cases h2; rfl
@[congr] theorem c_AWp {c : Code} {fr' : List DV} {S' : St} (h1 : fr = fr') (h2 : S = S') : AWp P w0 c fr S Q = AWp P w0 c fr' S' Q := by cases h1; cases h2; rfl
end
attribute [go_sem] n_normL List.contains_nil List.contains_cons
attribute [go_sem ↓] n_LT_nil n_LT_none n_LT_some n_vw_skip n_vw_seq n_vw_cond n_vw_block n_vw_exit n_vw_ret n_vw_regF n_vw_regT n_vw_loop
attribute [go_sem ↓ high] n_vw_regA
/-- What of it can be seen of the code alone. -/
def okC (ss : List Nat) : Code → Bool
  | .seq x y => okC ss x && okC ss y
  | .cond _ x y => okC ss x && okC ss y
  | .block n c => ss.contains (n + 1000) || okC ss c
  | .region n ops false => ss.contains n || ops.toList.all (fun o => okSl o.op)
  | .region n ops true => ss.contains n || (ops.toList.all (fun o => okSl o.op) && Region.lexB .any (ops.toList.take (npre ops.toList)).toArray && tailB .any ops (npre ops.toList))
  | _ => true
theorem vw_sound {ss : List Nat} (hm : P.follows .mixedOrders = true) : ∀ (c : Code) {fr : List DV} {S : St} {Q : Exit → List DV → St → Prop}, okC ss c = true → vw P w0 ss c fr S Q → AWp P w0 c fr S Q
  | .skip, fr, S, Q, _, h => awp_skip h
  | .seq x y, fr, S, Q, ho, h => by
    simp only [okC, Bool.and_eq_true] at ho
    exact awp_seq ((vw_sound hm x ho.1 h).mono fun e fr S hq => by cases e <;> first | exact vw_sound hm y ho.2 hq | exact hq)
  | .cond c x y, fr, S, Q, ho, h => by
    simp only [okC, Bool.and_eq_true] at ho
    exact awp_cond (condD_mono (fun h => vw_sound hm x ho.1 h) (fun h => vw_sound hm y ho.2 h) h)
  | .block n c, fr, S, Q, ho, h => by
    unfold vw selK at h
    unfold okC at ho
    split at h
    · exact h
    · rename_i hn
      rw [hn, Bool.false_or] at ho
      exact awp_block (vw_sound hm c ho h)
  | .exit n, fr, S, Q, _, h => awp_exit h
  | .ret, fr, S, Q, _, h => awp_ret h
  | .region n ops false, fr, S, Q, ho, h => by
    unfold vw at h
    unfold selK at h
    unfold okC at ho
    split at h
    · exact h
    rename_i hn
    rw [hn, Bool.false_or] at ho
    simp only at h
    have := vcL_sound _ ho h
    have := awp_region (id := n) (l := ops.toList) this
    simpa using this
  | .region n ops true, fr, S, Q, ho, h => by
    unfold vw at h
    unfold selK at h
    unfold okC at ho
    split at h
    · exact h
    rename_i hn
    rw [hn, Bool.false_or] at ho
    simp only [Bool.and_eq_true] at ho
    simp only at h
    have := awp_drawX (id := n) (l := ops.toList) (fr := fr) (S := S) (Q := Q) hm ho.1.2 ho.2 ho.1.1 h
    simpa using this
  | .loop c, fr, S, Q, _, h => h
  | .rangeFunc f ps a b, fr, S, Q, _, h => h
  | .scope c, fr, S, Q, _, h => h
  | .label l, fr, S, Q, _, h => h
  | .goto l, fr, S, Q, _, h => h
  | .refuse w, fr, S, Q, _, h => h

/-- A function, walked; n boxes and m growing slices of its own are forgotten. -/
theorem fnW (ss : List Nat) (n m : Nat) {f : FuncId} {fn : Func} {c : Code} {rs : List ResultVar} {args : List DV} {S : St} {K : DV → St → Prop} (hm : P.follows .mixedOrders = true) (hf : P.funcs[f]? = some fn) (hb : fn.body = some c) (hrs : fn.results = rs.toArray) (hc : okC ss c = true)
    (h : vw P w0 ss c (args ++ List.replicate (fn.ntmps - args.length) ud) S fun e fr S' => (e = .normal ∨ e = .ret) ∧ resK P fr S' rs fun d => shrT S' d fun d S'' => K d ⟨S''.box.drop n, S''.acc.drop m⟩) : ACall P w0 f args S K :=
  acall_fin n m hf hb hrs (vw_sound hm c hc h)
/-- The same, its result as it is. -/
theorem fnO (ss : List Nat) {f : FuncId} {fn : Func} {c : Code} {rs : List ResultVar} {args : List DV} {S : St} {K : DV → St → Prop} (hm : P.follows .mixedOrders = true) (hf : P.funcs[f]? = some fn) (hb : fn.body = some c) (hrs : fn.results = rs.toArray) (hc : okC ss c = true)
    (h : vw P w0 ss c (args ++ List.replicate (fn.ntmps - args.length) ud) S fun e fr S' => (e = .normal ∨ e = .ret) ∧ resK P fr S' rs fun d => K d S') : ACall P w0 f args S K :=
  acall_of hf hb hrs (vw_sound hm c hc h)

/-- A loop, walked. -/
theorem loopW {σ : Type} (ss : List Nat) (live : List Nat) (vals : σ → List (Nat × DV)) (st : σ → St) (inv : σ → Prop) (meas : σ → Nat) (s0 : σ) {c : Code} {fr : List DV} {S : St} {Q : Exit → List DV → St → Prop} (hm : P.follows .mixedOrders = true) (hc : okC ss c = true)
    (h0 : inv s0 ∧ upds (wk live fr) (vals s0) = wk live fr ∧ st s0 = S)
    (round : ∀ s, inv s → vw P w0 ss c (upds (wk live fr) (vals s)) (st s) (thenQ (fun fr' S' => ∃ s', inv s' ∧ meas s' < meas s ∧ wk live fr' = upds (wk live fr) (vals s') ∧ st s' = S') Q)) :
    AWp P w0 (.loop c) fr S Q :=
  awp_loopS live vals st inv meas s0 h0 fun s hs => vw_sound hm c hc (round s hs)

end
end Aml

namespace Aml
open Go Go.RowKit
set_option linter.unusedVariables false
set_option linter.unusedSimpArgs false

/-- What is d is e, too. -/
def Wk (d e : DV) : Prop := ∀ g u, Rep g d u → Rep g e u
def WkL : List DV → List DV → Prop
  | [], [] => True
  | d :: ds, e :: es => Wk d e ∧ WkL ds es
  | _, _ => False
theorem Wk.refl (d : DV) : Wk d d := fun _ _ h => h
theorem Wk.trans {a b c : DV} (h : Wk a b) (k : Wk b c) : Wk a c := fun g u r => k g u (h g u r)
theorem Wk.any (d : DV) : Wk d .any := fun g u _ => .any u
theorem Wk.nil (s s' : Nat) (f : Bool) : Wk (.sl s true []) (.sl s' f []) := fun g u r => by
  obtain ⟨o, h⟩ := rep_full_nil r
  rw [h]; exact .nil _ _ _ _ fun _ => rfl
theorem Wk.nilF (s s' : Nat) (f : Bool) : Wk (.sl s f []) (.sl s' false []) := fun g u r => by
  rcases rep_sl r with ⟨_, o', c, hv, hf⟩ | ⟨b, o', c', us, hv', hl, _⟩
  · rw [hv]; exact .nil _ _ _ _ (by simp)
  · have : us = [] := List.eq_nil_of_length_eq_zero (by have := hl.len; simpa using this.symm)
    rw [hv']; exact .nil _ _ _ _ (by simp)
theorem Wk.full (s : Nat) (f : Bool) (xs : List DV) : Wk (.sl s f xs) (.sl s false xs) := fun g u r => by
  cases r with
  | nil _ _ o c hc => exact .nil _ _ _ _ (by simp)
  | sl _ _ _ b o c us hl hf hc hm hr hz h1 hi => exact .sl _ _ _ _ _ _ us hl (by simp) hc hm hr hz h1 hi
theorem WkL.refl : ∀ ds, WkL ds ds
  | [] => trivial
  | d :: ds => ⟨.refl d, WkL.refl ds⟩
theorem WkL.spec : ∀ {ds es : List DV}, WkL ds es → ∀ {g : Gh} {us : List Value}, RepL g ds us → RepL g es us
  | [], [], _, _, _, r => r
  | d :: ds, e :: es, h, g, us, r => by
    obtain ⟨u, us', rfl, r1, r2⟩ := r.uncons
    exact RepL.cons (h.1 _ _ r1) (WkL.spec h.2 r2)
theorem WkL.length : ∀ {ds es : List DV}, WkL ds es → ds.length = es.length
  | [], [], _ => rfl
  | d :: ds, e :: es, h => by simp [WkL.length h.2]
theorem WkL.trans : ∀ {a b c : List DV}, WkL a b → WkL b c → WkL a c
  | [], [], [], _, _ => trivial
  | _ :: _, _ :: _, _ :: _, h, k => ⟨h.1.trans k.1, h.2.trans k.2⟩
theorem Wk.agg {ds es : List DV} (h : WkL ds es) : Wk (.agg ds) (.agg es) := fun g u r => by
  cases r with
  | agg _ us hl hr h1 =>
    have := h.spec (g := g) (us := us) ⟨hl, hr⟩
    exact .agg _ _ this.len this.at_ h1
theorem Wk.tup {ds es : List DV} (h : WkL ds es) : Wk (.tup ds) (.tup es) := fun g u r => by
  cases r with
  | tup _ us hl hr =>
    have := h.spec (g := g) (us := us) ⟨hl, hr⟩
    exact .tup _ _ this.len this.at_
theorem Wk.ifc {t : TypeId} {d e : DV} (h : Wk d e) : Wk (.ifc t d) (.ifc t e) := fun g u r => by
  cases r with
  | ifc _ _ u r => exact .ifc _ _ _ (h _ _ r)
/-- Elements, too. -/
theorem Wk.sl {s : Nat} {f : Bool} {xs ys : List DV} (h : WkL xs ys) : Wk (.sl s f xs) (.sl s f ys) := fun g u r => by
  cases r with
  | nil _ _ o c hc =>
    cases ys with
    | nil => exact .nil _ _ _ _ hc
    | cons y ys => exact h.elim
  | sl _ _ _ b o c us hl hf hc hm hr hz h1 hi =>
    have := h.spec (g := g) (us := us) ⟨hl, hr⟩
    exact .sl _ _ _ _ _ _ us this.len hf hc hm this.at_ hz h1 hi
theorem Wk_tup {ds es : List DV} (h : WkL ds es) : Wk (.tup ds) (.tup es) = True := eq_true (Wk.tup h)
theorem Wk_agg {ds es : List DV} (h : WkL ds es) : Wk (.agg ds) (.agg es) = True := eq_true (Wk.agg h)
theorem WkL.map {α : Type} {f g : α → DV} (h : ∀ a, Wk (f a) (g a)) : ∀ (l : List α), WkL (l.map f) (l.map g)
  | [] => trivial
  | a :: l => ⟨h a, WkL.map h l⟩
theorem WkL.nil : WkL [] [] := trivial
theorem WkL.cons {d e : DV} {ds es : List DV} (h : Wk d e) (k : WkL ds es) : WkL (d :: ds) (e :: es) := ⟨h, k⟩

theorem WkL_cons (d e : DV) (ds es : List DV) : WkL (d :: ds) (e :: es) = (Wk d e ∧ WkL ds es) := rfl
theorem WkL_nil : WkL [] [] = True := rfl
theorem Wk.eq {d e : DV} (h : d = e) : Wk d e := h ▸ .refl d
theorem Wk_self (d : DV) : Wk d d = True := eq_true (.refl d)
theorem Wk_any (d : DV) : Wk d .any = True := eq_true (.any d)
theorem Wk_v {u u' : Value} (h : u.oneCell' = true) : Wk (.v u) (.v u') ↔ u = u' :=
  ⟨fun k => by have := k ⟨fun _ _ => none, fun _ _ => none, fun _ => none⟩ u (.v u h); cases this; rfl, fun e => e ▸ .refl _⟩
theorem Wk_int (k : IntKind) (a b : Int) : Wk (.v (.int k a)) (.v (.int k b)) = (a = b) := propext ((Wk_v rfl).trans ⟨fun h => (Value.int.inj h).2, fun h => by rw [h]⟩)
theorem Wk_bool (a b : Bool) : Wk (.v (.bool a)) (.v (.bool b)) = (a = b) := propext ((Wk_v rfl).trans ⟨fun h => Value.bool.inj h, fun h => by rw [h]⟩)
theorem Wk_str (a b : ByteArray) : Wk (.v (.string a)) (.v (.string b)) = (a = b) := propext ((Wk_v rfl).trans ⟨fun h => Value.string.inj h, fun h => by rw [h]⟩)
theorem Wk_full (s : Nat) (f : Bool) (xs : List DV) : Wk (.sl s f xs) (.sl s false xs) = True := eq_true (.full s f xs)
theorem Wk_nil (s s' : Nat) (f : Bool) : Wk (.sl s true []) (.sl s' f []) = True := eq_true (.nil s s' f)

section
variable {P : Program} {w0 : W0}
/-- A contract is used. -/
theorem acall_use {f : FuncId} {args args' : List DV} {S : St} {K K' : DV → St → Prop} (h : ACall P w0 f args' S K') (ha : WkL args args') (hk : ∀ d S', K' d S' → ∃ e, Wk d e ∧ K e S') : ACall P w0 f args S K :=
  fun g vs w h1 h2 => (h g vs w h1 (ha.spec h2)).mono fun e w' ⟨r, g', d, S', q1, q2, q3, q4, q5⟩ =>
    let ⟨e', k1, k2⟩ := hk _ _ q5
    ⟨r, g', e', S', q1, q2, q3, k1 _ _ q4, k2⟩
/-- One that hands back one value and leaves the store. -/
theorem acall_one {f : FuncId} {args args' : List DV} {S : St} {K : DV → St → Prop} {r : DV} (h : ACall P w0 f args' S (fun d S' => d = r ∧ S' = S)) (ha : WkL args args') (hk : K r S) : ACall P w0 f args S K :=
  acall_use h ha fun d S' ⟨h1, h2⟩ => ⟨d, .refl d, by rw [h1, h2]; exact hk⟩
/-- A contract is made: less is said of the result. -/
theorem acall_wk {f : FuncId} {args : List DV} {S : St} {r : DV} (h : ACall P w0 f args S (fun d S' => Wk d r ∧ S' = S)) : ACall P w0 f args S (fun d S' => d = r ∧ S' = S) :=
  acall_use h (WkL.refl _) fun d S' ⟨h1, h2⟩ => ⟨r, h1, rfl, h2⟩
/-- The same, as they are used. -/
theorem use1 {f : FuncId} {args args' : List DV} {S : St} {K : DV → St → Prop} {r : DV} (h : ACall P w0 f args' S (fun d S' => d = r ∧ S' = S)) (hk : K r S) (ha : WkL args args' := by exact WkL.refl _) : @AC P w0 f args S ⟨K⟩ := acall_one h ha hk
theorem useK {f : FuncId} {args args' : List DV} {S : St} {K K' : DV → St → Prop} (h : ACall P w0 f args' S K') (hk : ∀ d S', K' d S' → K d S') (ha : WkL args args' := by exact WkL.refl _) : @AC P w0 f args S ⟨K⟩ := acall_use h ha fun d S' q => ⟨d, .refl d, hk d S' q⟩
theorem useQ {f : FuncId} {args args' : List DV} {S : St} {K : DV → Prop} {r : DV} (h : ACall P w0 f args' S (fun d S' => d = r ∧ S' = S)) (hk : K r) (ha : WkL args args' := by exact WkL.refl _) : @QC P w0 f args S ⟨K⟩ :=
  ⟨r, acall_one h ha ⟨rfl, rfl⟩, hk⟩
theorem awp_weak {c : Code} {fr fr' : List DV} {S : St} {Q : Exit → List DV → St → Prop} (hw : WkL fr fr') (h : AWp P w0 c fr' S Q) : AWp P w0 c fr S Q :=
  fun g a w h1 h2 h3 => h g a w h1 (hw.spec h2) h3

/-- A store that is part of another. -/
structure Sub (S S' : St) : Prop where
  box : S.box.Sublist S'.box
  acc : S.acc.Sublist S'.acc
theorem Sub.refl (S : St) : Sub S S := ⟨List.Sublist.refl _, List.Sublist.refl _⟩
theorem Sub.consB {S : St} {B : List (Nat × List DV)} {A : List (Nat × Ob)} {x : Nat × List DV} (h : Sub S ⟨B, A⟩) : Sub S ⟨x :: B, A⟩ := ⟨h.box.cons _, h.acc⟩
theorem Sub.consA {S : St} {B : List (Nat × List DV)} {A : List (Nat × Ob)} {x : Nat × Ob} (h : Sub S ⟨B, A⟩) : Sub S ⟨B, x :: A⟩ := ⟨h.box, h.acc.cons _⟩
theorem Sub.bothB {B B' : List (Nat × List DV)} {A A' : List (Nat × Ob)} {x : Nat × List DV} (h : Sub ⟨B, A⟩ ⟨B', A'⟩) : Sub ⟨x :: B, A⟩ ⟨x :: B', A'⟩ := ⟨h.box.cons_cons _, h.acc⟩
theorem Sub.bothA {B B' : List (Nat × List DV)} {A A' : List (Nat × Ob)} {x : Nat × Ob} (h : Sub ⟨B, A⟩ ⟨B', A'⟩) : Sub ⟨B, x :: A⟩ ⟨B', x :: A'⟩ := ⟨h.box, h.acc.cons_cons _⟩

theorem Sub_refl (S : St) : Sub S S = True := eq_true (.refl S)
theorem Sub_eta (S : St) : Sub S ⟨S.box, S.acc⟩ = True := eq_true (.refl S)
theorem Sub_eta' (S : St) : Sub ⟨S.box, S.acc⟩ S = True := eq_true (.refl S)
theorem Sub_bB {B B' : List (Nat × List DV)} {A A' : List (Nat × Ob)} (x : Nat × List DV) (h : Sub ⟨B, A⟩ ⟨B', A'⟩) : Sub ⟨x :: B, A⟩ ⟨x :: B', A'⟩ = True := eq_true h.bothB
theorem Sub_bA {B B' : List (Nat × List DV)} {A A' : List (Nat × Ob)} (x : Nat × Ob) (h : Sub ⟨B, A⟩ ⟨B', A'⟩) : Sub ⟨B, x :: A⟩ ⟨B', x :: A'⟩ = True := eq_true h.bothA
theorem Sub_cB (S : St) {B : List (Nat × List DV)} {A : List (Nat × Ob)} (x : Nat × List DV) (h : Sub S ⟨B, A⟩) : Sub S ⟨x :: B, A⟩ = True := eq_true h.consB
theorem Sub_cA (S : St) {B : List (Nat × List DV)} {A : List (Nat × Ob)} (x : Nat × Ob) (h : Sub S ⟨B, A⟩) : Sub S ⟨B, x :: A⟩ = True := eq_true h.consA
/-- Some slots frozen. -/
def shrAt : List Nat → List DV → St → (List DV → St → Prop) → Prop
  | [], fr, S, K => K fr S
  | i :: is, fr, S, K => oK (fr[i]?) fun d => shr S d fun d S => shrAt is (fr.set i d) S K
theorem shrAt_nil (fr : List DV) (S : St) (K : List DV → St → Prop) : shrAt [] fr S K = K fr S := rfl
theorem shrAt_cons (i : Nat) (is : List Nat) (fr : List DV) (S : St) (K : List DV → St → Prop) : shrAt (i :: is) fr S K = oK (fr[i]?) fun d => shr S d fun d S => shrAt is (fr.set i d) S K := rfl
theorem shrAt_ok {K : List DV → St → Prop} : ∀ (is : List Nat) {fr : List DV} {S : St} {g : Gh} {w : World} {us : List Value}, Rel w0 g S w → RepL g fr us → shrAt is fr S K → ∃ g' fr' S', g.le g' ∧ Rel w0 g' S' w ∧ RepL g' fr' us ∧ K fr' S'
  | [], fr, S, g, w, us, h1, h2, h => ⟨g, fr, S, .refl g, h1, h2, h⟩
  | i :: is, fr, S, g, w, us, h1, h2, h => by
    unfold shrAt at h
    cases hi : fr[i]? with
    | none => rw [hi] at h; exact h.elim
    | some d =>
      rw [hi, q_oK_some] at h
      have hlt : i < us.length := by rw [← h2.len]; exact (List.getElem?_eq_some_iff.1 hi).1
      have hr := h2.at_ i _ _ hi (List.getElem?_eq_getElem hlt)
      obtain ⟨g1, d', S1, k1, k2, k3, k4⟩ := shr_ok h1 hr h
      obtain ⟨g2, fr2, S2, q1, q2, q3, q4⟩ := shrAt_ok is k2 (repL_same (h2.mono k1) (List.getElem?_eq_getElem hlt) k3) k4
      exact ⟨g2, fr2, S2, k1.trans q1, q2, q3, q4⟩

/-- A loop, walked; at its head some slots are frozen, less is said, and parts of the store are forgotten. -/
theorem loopZ {σ : Type} (ss : List Nat := []) (fz live : List Nat) (vals : σ → List (Nat × DV)) (st : σ → St) (inv : σ → Prop) (meas : σ → Nat) (s0 : σ) {c : Code} {fr : List DV} {S : St} {Q : Exit → List DV → St → Prop} (hm : P.follows .mixedOrders = true) (hc : okC ss c = true)
    (h0 : inv s0 ∧ shrAt fz (wk live fr) S fun fr' S' => WkL fr' (upds (wk live fr) (vals s0)) ∧ Sub (st s0) S')
    (round : ∀ s, inv s → vw P w0 ss c (upds (wk live fr) (vals s)) (st s) (thenQ (fun fr' S' => ∃ s', inv s' ∧ meas s' < meas s ∧ shrAt fz (wk live fr') S' fun fr' S' => WkL fr' (upds (wk live fr) (vals s')) ∧ Sub (st s') S') Q)) :
    AWp P w0 (.loop c) fr S Q := by
  intro g a w h1 h2 h3
  obtain ⟨g0, f0, S0, r1, r2, r3, r4, r5⟩ := shrAt_ok fz h1 (repL_wk live h2) h0.2
  refine wpA_loop_ind (fun m a w => Dk w0 g.obj a w ∧ ∃ g' s, g.le g' ∧ Rel w0 g' (st s) w ∧ RepL g' (upds (wk live fr) (vals s)) a.tmps.toList ∧ inv s ∧ meas s = m) (m := meas s0) ⟨h3, g0, s0, r1, r2.forget r5.box r5.acc, r4.spec r3, h0.1, rfl⟩ ?_
  rintro m a w ⟨hd, g', s, k1, k2, k3, k4, rfl⟩
  refine wpA_mono (vw_sound hm c hc (round s k4) g' a w k2 k3 (k1.dk hd)) ?_
  rintro e a' w' ⟨hd', g'', fr'', S'', q1, q2, q3, q4⟩
  cases e with
  | normal =>
    obtain ⟨s', hi, hm, hf⟩ := q4
    obtain ⟨g3, f3, S3, p1, p2, p3, p4, p5⟩ := shrAt_ok fz q2 (repL_wk live q3) hf
    exact ⟨meas s', hm, k1.kd hd', g3, s', (k1.trans q1).trans p1, p2.forget p5.box p5.acc, p4.spec p3, hi, rfl⟩
  | exit n => exact ⟨k1.kd hd', g'', fr'', S'', k1.trans q1, q2, q3, q4⟩
  | goto n => exact ⟨k1.kd hd', g'', fr'', S'', k1.trans q1, q2, q3, q4⟩
  | ret => exact ⟨k1.kd hd', g'', fr'', S'', k1.trans q1, q2, q3, q4⟩
  | panic ch => exact ⟨k1.kd hd', g'', fr'', S'', k1.trans q1, q2, q3, q4⟩
  | outgrown => exact ⟨k1.kd hd', g'', fr'', S'', k1.trans q1, q2, q3, q4⟩
/-- A loop; at its head less is said, and parts of the store are forgotten. -/
theorem loopA {σ : Type} (live : List Nat) (vals : σ → List (Nat × DV)) (st : σ → St) (inv : σ → Prop) (meas : σ → Nat) (s0 : σ) {c : Code} {fr : List DV} {S : St} {Q : Exit → List DV → St → Prop}
    (h0 : inv s0 ∧ WkL (wk live fr) (upds (wk live fr) (vals s0)) ∧ Sub (st s0) S)
    (round : ∀ s, inv s → AWp P w0 c (upds (wk live fr) (vals s)) (st s) (thenQ (fun fr' S' => ∃ s', inv s' ∧ meas s' < meas s ∧ WkL (wk live fr') (upds (wk live fr) (vals s')) ∧ Sub (st s') S') Q)) :
    AWp P w0 (.loop c) fr S Q := by
  intro g a w h1 h2 h3
  refine wpA_loop_ind (fun m a w => Dk w0 g.obj a w ∧ ∃ g' s, g.le g' ∧ Rel w0 g' (st s) w ∧ RepL g' (upds (wk live fr) (vals s)) a.tmps.toList ∧ inv s ∧ meas s = m) (m := meas s0) ⟨h3, g, s0, .refl g, h1.forget h0.2.2.box h0.2.2.acc, h0.2.1.spec (repL_wk live h2), h0.1, rfl⟩ ?_
  rintro m a w ⟨hd, g', s, k1, k2, k3, k4, rfl⟩
  refine wpA_mono (round s k4 g' a w k2 k3 (k1.dk hd)) ?_
  rintro e a' w' ⟨hd', g'', fr'', S'', q1, q2, q3, q4⟩
  cases e with
  | normal =>
    obtain ⟨s', hi, hm, hf, hS⟩ := q4
    exact ⟨meas s', hm, k1.kd hd', g'', s', k1.trans q1, q2.forget hS.box hS.acc, hf.spec (repL_wk live q3), hi, rfl⟩
  | exit n => exact ⟨k1.kd hd', g'', fr'', S'', k1.trans q1, q2, q3, q4⟩
  | goto n => exact ⟨k1.kd hd', g'', fr'', S'', k1.trans q1, q2, q3, q4⟩
  | ret => exact ⟨k1.kd hd', g'', fr'', S'', k1.trans q1, q2, q3, q4⟩
  | panic ch => exact ⟨k1.kd hd', g'', fr'', S'', k1.trans q1, q2, q3, q4⟩
  | outgrown => exact ⟨k1.kd hd', g'', fr'', S'', k1.trans q1, q2, q3, q4⟩
/-- The same, walked. -/
theorem loopK {σ : Type} (ss : List Nat := []) (live : List Nat) (vals : σ → List (Nat × DV)) (st : σ → St) (inv : σ → Prop) (meas : σ → Nat) (s0 : σ) {c : Code} {fr : List DV} {S : St} {Q : Exit → List DV → St → Prop} (hm : P.follows .mixedOrders = true) (hc : okC ss c = true)
    (h0 : inv s0 ∧ WkL (wk live fr) (upds (wk live fr) (vals s0)) ∧ Sub (st s0) S)
    (round : ∀ s, inv s → vw P w0 ss c (upds (wk live fr) (vals s)) (st s) (thenQ (fun fr' S' => ∃ s', inv s' ∧ meas s' < meas s ∧ WkL (wk live fr') (upds (wk live fr) (vals s')) ∧ Sub (st s') S') Q)) :
    AWp P w0 (.loop c) fr S Q := loopA live vals st inv meas s0 h0 fun s hs => vw_sound hm c hc (round s hs)

/-- A piece of code, walked; behind it the frame is said once more. -/
theorem cutK {σ : Type} (ss : List Nat := []) (live : List Nat) (vals : σ → List (Nat × DV)) (st : σ → St) (inv : σ → Prop) {c : Code} {fr : List DV} {S : St} {Q : Exit → List DV → St → Prop} (hm : P.follows .mixedOrders = true) (hc : okC ss c = true)
    (h1 : vw P w0 ss c fr S (thenQ (fun fr' S' => ∃ s, inv s ∧ WkL (wk live fr') (upds (wk live fr) (vals s)) ∧ Sub (st s) S') Q))
    (h2 : ∀ s, inv s → Q .normal (upds (wk live fr) (vals s)) (st s)) : AWp P w0 c fr S Q := by
  intro g a w q1 q2 q3
  refine wpA_mono (vw_sound hm c hc h1 g a w q1 q2 q3) ?_
  rintro e a' w' ⟨hd, g', fr', S', k1, k2, k3, k4⟩
  cases e with
  | normal =>
    obtain ⟨s, hi, hw, hS⟩ := k4
    exact ⟨hd, g', _, _, k1, k2.forget hS.box hS.acc, hw.spec (repL_wk live k3), h2 s hi⟩
  | exit n => exact ⟨hd, g', fr', S', k1, k2, k3, k4⟩
  | goto n => exact ⟨hd, g', fr', S', k1, k2, k3, k4⟩
  | ret => exact ⟨hd, g', fr', S', k1, k2, k3, k4⟩
  | panic ch => exact ⟨hd, g', fr', S', k1, k2, k3, k4⟩
  | outgrown => exact ⟨hd, g', fr', S', k1, k2, k3, k4⟩
/-- A piece of code, walked as it is. -/
theorem rawK (ss : List Nat := []) {c : Code} {fr : List DV} {S : St} {Q : Exit → List DV → St → Prop} (hm : P.follows .mixedOrders = true) (hc : okC ss c = true) (h : vw P w0 ss c fr S Q) : AWp P w0 c fr S Q := vw_sound hm c hc h

/-- A loop that counts: s is how many rounds were; at its head less is said, and parts of the store are forgotten. -/
theorem loopN (ss : List Nat := []) (n : Nat) (live : List Nat) (vals : Nat → List (Nat × DV)) (st : Nat → St) (inv : Nat → Prop) {c : Code} {fr : List DV} {S : St} {Q : Exit → List DV → St → Prop} (hm : P.follows .mixedOrders = true) (hc : okC ss c = true)
    (h0 : inv 0 ∧ WkL (wk live fr) (upds (wk live fr) (vals 0)) ∧ Sub (st 0) S)
    (round : ∀ k, k ≤ n → inv k → vw P w0 ss c (upds (wk live fr) (vals k)) (st k) (thenQ (fun fr' S' => k < n ∧ inv (k + 1) ∧ WkL (wk live fr') (upds (wk live fr) (vals (k + 1))) ∧ Sub (st (k + 1)) S') Q)) :
    AWp P w0 (.loop c) fr S Q := by
  refine loopA live vals st (fun k => k ≤ n ∧ inv k) (fun k => n - k) 0 ⟨⟨Nat.zero_le _, h0.1⟩, h0.2⟩ ?_
  rintro k ⟨h1, h2⟩
  refine (vw_sound hm c hc (round k h1 h2)).mono ?_
  intro e fr' S' q
  cases e with
  | normal =>
    obtain ⟨q1, q2, q3, q4⟩ := q
    exact ⟨k + 1, ⟨q1, q2⟩, by omega, q3, q4⟩
  | exit n => exact q
  | goto n => exact q
  | ret => exact q
  | panic ch => exact q
  | outgrown => exact q

/-- A loop that counts; at its head some slots are frozen, less is said, and parts of the store are forgotten. -/
theorem loopNZ (ss : List Nat := []) (fz : List Nat) (n : Nat) (live : List Nat) (vals : Nat → List (Nat × DV)) (st : Nat → St) (inv : Nat → Prop) {c : Code} {fr : List DV} {S : St} {Q : Exit → List DV → St → Prop} (hm : P.follows .mixedOrders = true) (hc : okC ss c = true)
    (h0 : inv 0 ∧ shrAt fz (wk live fr) S fun fr' S' => WkL fr' (upds (wk live fr) (vals 0)) ∧ Sub (st 0) S')
    (round : ∀ k, k ≤ n → inv k → vw P w0 ss c (upds (wk live fr) (vals k)) (st k) (thenQ (fun fr' S' => k < n ∧ inv (k + 1) ∧ shrAt fz (wk live fr') S' fun fr' S' => WkL fr' (upds (wk live fr) (vals (k + 1))) ∧ Sub (st (k + 1)) S') Q)) :
    AWp P w0 (.loop c) fr S Q := by
  intro g a w h1 h2 h3
  obtain ⟨g0, f0, S0, r1, r2, r3, r4, r5⟩ := shrAt_ok fz h1 (repL_wk live h2) h0.2
  refine wpA_loop_ind (fun m a w => Dk w0 g.obj a w ∧ ∃ g' k, g.le g' ∧ Rel w0 g' (st k) w ∧ RepL g' (upds (wk live fr) (vals k)) a.tmps.toList ∧ (k ≤ n ∧ inv k) ∧ n - k = m) (m := n - 0) ⟨h3, g0, 0, r1, r2.forget r5.box r5.acc, r4.spec r3, ⟨Nat.zero_le _, h0.1⟩, rfl⟩ ?_
  rintro m a w ⟨hd, g', k, k1, k2, k3, k4, rfl⟩
  refine wpA_mono (vw_sound hm c hc (round k k4.1 k4.2) g' a w k2 k3 (k1.dk hd)) ?_
  rintro e a' w' ⟨hd', g'', fr'', S'', q1, q2, q3, q4⟩
  cases e with
  | normal =>
    obtain ⟨hlt, hi, hf⟩ := q4
    obtain ⟨g3, f3, S3, p1, p2, p3, p4, p5⟩ := shrAt_ok fz q2 (repL_wk live q3) hf
    exact ⟨n - (k + 1), by omega, k1.kd hd', g3, k + 1, (k1.trans q1).trans p1, p2.forget p5.box p5.acc, p4.spec p3, ⟨hlt, hi⟩, rfl⟩
  | exit n => exact ⟨k1.kd hd', g'', fr'', S'', k1.trans q1, q2, q3, q4⟩
  | goto n => exact ⟨k1.kd hd', g'', fr'', S'', k1.trans q1, q2, q3, q4⟩
  | ret => exact ⟨k1.kd hd', g'', fr'', S'', k1.trans q1, q2, q3, q4⟩
  | panic ch => exact ⟨k1.kd hd', g'', fr'', S'', k1.trans q1, q2, q3, q4⟩
  | outgrown => exact ⟨k1.kd hd', g'', fr'', S'', k1.trans q1, q2, q3, q4⟩
/-- A function, walked: its result frozen, what it made beside it forgotten. -/
theorem fnS (ss : List Nat := []) {f : FuncId} {fn : Func} {c : Code} {rs : List ResultVar} {args : List DV} {S : St} {r : DV} (hm : P.follows .mixedOrders = true) (hf : P.funcs[f]? = some fn) (hb : fn.body = some c) (hrs : fn.results = rs.toArray) (hc : okC ss c = true)
    (h : vw P w0 ss c (args ++ List.replicate (fn.ntmps - args.length) ud) S fun e fr S' => (e = .normal ∨ e = .ret) ∧ resK P fr S' rs fun d => shrT S' d fun d S'' => Wk d r ∧ Sub S S'') : ACall P w0 f args S (fun d S' => d = r ∧ S' = S) := by
  have h1 : ACall P w0 f args S (fun d S' => shrT S' d fun d S'' => Wk d r ∧ Sub S S'') := acall_of hf hb hrs (vw_sound hm c hc h)
  intro g vs w k1 k2
  refine (h1 g vs w k1 k2).mono ?_
  rintro e w' ⟨v, g', d, S', q1, q2, q3, q4, q5⟩
  obtain ⟨g2, d', S2, p1, p2, p3, p4, p5⟩ := shrT_ok q3 q4 q5
  exact ⟨v, g2, r, S, q1, q2.trans p1, p2.forget p5.box p5.acc, p4 _ _ p3, rfl, rfl⟩
/-- A full slice in a slot becomes one that grows behind what it holds. -/
theorem awp_tail (i : Nat) {s : Nat} (hs : 0 < s) {xs : List DV} {c : Code} {fr : List DV} {S : St} {Q : Exit → List DV → St → Prop} (hi : fr[i]? = some (.sl s true xs))
    (h : ∀ l, nin S.acc l → AWp P w0 c (fr.set i (.acc l xs.length)) ⟨S.box, (l, .tl s xs) :: S.acc⟩ Q) : AWp P w0 c fr S Q := by
  intro g a w h1 h2 h3
  have hlt : i < a.tmps.toList.length := by rw [← h2.len]; exact (List.getElem?_eq_some_iff.1 hi).1
  have hr := h2.at_ i _ _ hi (List.getElem?_eq_getElem hlt)
  obtain ⟨l, g', hle, hne, hR, hA⟩ := h1.newAcc hs hr (.tl s xs) (.inl rfl)
  have hfr := repL_same (h2.mono hle) (List.getElem?_eq_getElem hlt) hA
  exact wpA_mono (h l (nin_of hne) g' a w hR hfr (hle.dk h3)) fun _ _ _ k => k.of_le hle
/-- Less is said of what a box holds. -/
theorem _root_.Aml.Rel.wkBox {g : Gh} {S : St} {w : World} (h : Rel w0 g S w) {b : Nat} {ds ds' : List DV} (hl : lk S.box b = some ds) (hw : ∀ us e, w.heap[b]? = some (.cells us e (0, 0)) → RepL g ds us.toList → RepL g ds' us.toList) : Rel w0 g ⟨up S.box b ds', S.acc⟩ w := by
  refine ⟨h.below, h.imm, by rw [map_up]; exact h.nb, h.na, h.accw, h.fresh, h.top, ?_⟩
  obtain ⟨ow, o1, o2⟩ := h.own
  refine ⟨ow, fun b' e hm => ?_, o2⟩
  rcases mem_up h.nb hm with he | ⟨hm, _⟩
  · cases he
    obtain ⟨q1, q2, q3, us, e, q4, q5, q6⟩ := o1 _ _ (lk_mem hl)
    exact ⟨q1, q2, q3, us, e, q4, hw _ _ q4 q5, q6⟩
  · exact o1 _ _ hm
/-- A nil slice in a box becomes one that grows. -/
theorem awp_growB (b j s : Nat) (hs : 0 < s) {c : Code} {fr : List DV} {S : St} {Q : Exit → List DV → St → Prop} {ds : List DV} {s0 : Nat} (hb : lk S.box b = some ds) (hi : ds[j]? = some (.sl s0 true []))
    (h : ∀ l : FN S.acc, AWp P w0 c fr ⟨up S.box b (ds.set j (.acc l.n 0)), (l.n, .arr s []) :: S.acc⟩ Q) : AWp P w0 c fr S Q := by
  intro g a w h1 h2 h3
  obtain ⟨ow, o1, o2⟩ := h1.own
  obtain ⟨q1, q2, q3, us, e, q4, q5, q6⟩ := o1 _ _ (lk_mem hb)
  have hlt : j < us.toList.length := by rw [← q5.len]; exact (List.getElem?_eq_some_iff.1 hi).1
  have hr := q5.at_ j _ _ hi (List.getElem?_eq_getElem hlt)
  have hr' : Rep g (.sl s true []) us.toList[j] := by obtain ⟨o', ho'⟩ := rep_full_nil hr; rw [ho']; exact .nil _ _ _ _ fun _ => rfl
  obtain ⟨l, g', hle, hne, hR, hA⟩ := h1.newAcc hs hr' (.arr s []) (.inr ⟨rfl, rfl⟩)
  have hR' := hR.wkBox (ds' := ds.set j (.acc l 0)) (b := b) hb ?_
  · exact wpA_mono (h ⟨l, nin_of hne⟩ g' a w hR' (h2.mono hle) (hle.dk h3)) fun _ _ _ k => k.of_le hle
  · intro us' e' hh hr2
    rw [hh] at q4
    cases q4
    exact repL_same hr2 (List.getElem?_eq_getElem hlt) hA
/-- The same, names and all. -/
theorem tailK (i : Nat) {s : Nat} {xs : List DV} {c : Code} {fr : List DV} {S : St} {Q : Exit → List DV → St → Prop} (hi : fr[i]? = some (.sl s true xs)) (hs : 0 < s)
    (h : ∀ l : FN S.acc, AWp P w0 c (fr.set i (.acc l.n xs.length)) ⟨S.box, (l.n, .tl s xs) :: S.acc⟩ Q) : AWp P w0 c fr S Q := awp_tail i hs hi fun l hl => h ⟨l, hl⟩
theorem growK (i s : Nat) {c : Code} {fr : List DV} {S : St} {Q : Exit → List DV → St → Prop} {s0 : Nat} (hi : fr[i]? = some (.sl s0 true [])) (hs : 0 < s)
    (h : ∀ l : FN S.acc, AWp P w0 c (fr.set i (.acc l.n 0)) ⟨S.box, (l.n, .arr s []) :: S.acc⟩ Q) : AWp P w0 c fr S Q := awp_grow i s hs hi fun l hl => h ⟨l, hl⟩
/-- Some slots are frozen; then the walk. -/
theorem shrK (ss : List Nat := []) (is : List Nat) {c : Code} {fr : List DV} {S : St} {Q : Exit → List DV → St → Prop} (hm : P.follows .mixedOrders = true) (hc : okC ss c = true) (h : shrAt is fr S fun fr S => vw P w0 ss c fr S Q) : AWp P w0 c fr S Q := by
  intro g a w h1 h2 h3
  obtain ⟨g', f', S', k1, k2, k3, k4⟩ := shrAt_ok is h1 h2 h
  exact wpA_mono (vw_sound hm c hc k4 g' a w k2 k3 (k1.dk h3)) fun _ _ _ k => k.of_le k1
/-- A nil slice that comes back may be one that grows. -/
theorem acall_nil {f : FuncId} {args : List DV} {S : St} {K K' : DV → St → Prop} (h : ACall P w0 f args S K') (s : Nat) (hs : 0 < s)
    (hk : ∀ d S', K' d S' → K d S' ∨ ((∃ s0, d = .sl s0 true []) ∧ ∀ l, nin S'.acc l → K (.acc l 0) ⟨S'.box, (l, .arr s []) :: S'.acc⟩)) : ACall P w0 f args S K := by
  intro g vs w h1 h2
  refine (h g vs w h1 h2).mono ?_
  rintro e w' ⟨r, g', d, S', q1, q2, q3, q4, q5⟩
  rcases hk d S' q5 with h | ⟨⟨s0, rfl⟩, h⟩
  · exact ⟨r, g', d, S', q1, q2, q3, q4, h⟩
  · have hr' : Rep g' (.sl s true []) r := by obtain ⟨o', ho'⟩ := rep_full_nil q4; rw [ho']; exact .nil _ _ _ _ fun _ => rfl
    obtain ⟨l, g2, hle, hne, hR, hA⟩ := q3.newAcc hs hr' (.arr s []) (.inr ⟨rfl, rfl⟩)
    exact ⟨r, g2, _, _, q1, q2.trans hle, hR, hA, h l (nin_of hne)⟩
/-- A nil slice that comes back is one that grows. -/
theorem nilK {f : FuncId} {args : List DV} {S : St} {xs : List DV} (s : Nat) (hs : 0 < s) (h : ACall P w0 f args S fun d S' => (xs = [] ∧ (∃ s0, d = .sl s0 true []) ∧ S' = S) ∨ ∃ l : FN S.acc, d = .acc l.n xs.length ∧ S' = ⟨S.box, (l.n, .arr s xs) :: S.acc⟩) :
    ACall P w0 f args S fun d S' => ∃ l : FN S.acc, d = .acc l.n xs.length ∧ S' = ⟨S.box, (l.n, .arr s xs) :: S.acc⟩ := by
  refine acall_nil h s hs ?_
  rintro d S' (⟨rfl, ⟨s0, rfl⟩, rfl⟩ | h)
  · exact .inr ⟨⟨s0, rfl⟩, fun l hl => ⟨⟨l, hl⟩, rfl, rfl⟩⟩
  · exact .inl h
end
attribute [go_sem high] Sub_refl Sub_eta Sub_eta' Sub_bB Sub_bA
attribute [go_sem low] Wk_tup Wk_agg
attribute [go_sem] Sub_cB Sub_cA WkL_cons WkL_nil Wk_self Wk_any Wk_int Wk_bool Wk_str Wk_full Wk_nil
attribute [go_sem ↓] shrAt_nil shrAt_cons
end Aml

namespace Go.Proofs.Ytkibkahknibgfaa
open Aml Go Go.RowKit Go.ChangeShapes
set_option linter.unusedVariables false
set_option linter.unusedSimpArgs false

/-- All that is there at the start stays. -/
def gW (W : World) : Gh := ⟨fun b i => W.cell? ⟨b, i, none⟩, fun _ _ => none, fun _ => none⟩
theorem rel_start (W : World) : Rel W (gW W) ⟨[], []⟩ W :=
  ⟨⟨Below.refl _ _, fun _ _ h => (by cases h), ⟨fun _ _ _ h => (by cases h), fun _ _ _ h => (by cases h), fun _ _ h => (by cases h)⟩⟩, fun _ _ _ h => h, by simp, by simp, fun _ _ _ h => (by cases h), ⟨0, fun _ _ _ => rfl⟩, fun _ _ h => (by cases h), fun _ => none, fun _ _ h => (by cases h), fun _ _ h => (by cases h)⟩

/-- A type's data, read as a Lean type. -/
def Rd (P : Program) (W : World) (t : TypeId) {α : Type} (en : α → List DV) (sz : α → Nat) (ok : α → Prop) : Prop :=
  ∀ (H : Type) (enc : TypeId × Value → H) (n : Nat) (cs : List Value) (x : DataW H × List MemPlace), DataW.trod enc P W 0 (fun _ => true) true n t cs = some x →
    ∃ a, ok a ∧ sz a ≤ Rows.uptoBulk x.1 ∧ RepL (gW W) (en a) cs ∧ ∀ u, u ∈ cs → u.oneCell' = true

section
variable {P : Program} {W : World}
theorem Rd.conv {t : TypeId} {α β : Type} {en : α → List DV} {sz : α → Nat} {ok : α → Prop} {en' : β → List DV} {sz' : β → Nat} {ok' : β → Prop} (h : Rd P W t en sz ok) (f : α → β) (he : ∀ a, en a = en' (f a)) (hs : ∀ a, sz' (f a) ≤ sz a) (ho : ∀ a, ok a → ok' (f a)) : Rd P W t en' sz' ok' :=
  fun H enc n cs x hx => let ⟨a, h1, h2, h3, h4⟩ := h H enc n cs x hx; ⟨f a, ho a h1, Nat.le_trans (hs a) h2, by rw [← he]; exact h3, h4⟩
theorem rd_int {t : TypeId} (k : IntKind) (ht : P.underlying t = some (.int k)) : Rd P W t (fun n : Int => [.v (.int k n)]) (fun _ => 1) (fun n => (Lit.int k n).wf = true) := by
  intro H enc n cs x hx
  obtain ⟨m, rfl, rfl, hw⟩ := DataW.trod_int ht hx
  exact ⟨m, hw, by simp [Rows.uptoBulk], RepL.cons (.v _ rfl) (RepL.nil _), by simp [Value.oneCell']⟩
theorem rd_i64 {t : TypeId} (ht : P.underlying t = some (.int .i64)) : Rd P W t (fun n : Int => [dI n]) (fun _ => 1) (fun n => -9223372036854775808 ≤ n ∧ n ≤ 9223372036854775807) :=
  (rd_int .i64 ht).conv id (fun _ => rfl) (fun _ => Nat.le_refl _) fun _ h => bounds_i64 h
theorem rd_u64 {t : TypeId} (ht : P.underlying t = some (.int .u64)) : Rd P W t (fun n : Int => [dU n]) (fun _ => 1) (fun n => 0 ≤ n ∧ n ≤ 18446744073709551615) :=
  (rd_int .u64 ht).conv id (fun _ => rfl) (fun _ => Nat.le_refl _) fun _ h => bounds_u64 h
theorem rd_u8 {t : TypeId} (ht : P.underlying t = some (.int .u8)) : Rd P W t (fun n : Int => [dY n]) (fun _ => 1) (fun n => 0 ≤ n ∧ n ≤ 255) :=
  (rd_int .u8 ht).conv id (fun _ => rfl) (fun _ => Nat.le_refl _) fun _ h => bounds_u8 h
theorem rd_bool {t : TypeId} (ht : P.underlying t = some .bool) : Rd P W t (fun b : Bool => [dB b]) (fun _ => 1) (fun _ => True) := by
  intro H enc n cs x hx
  obtain ⟨m, rfl, rfl⟩ := DataW.trod_bool ht hx
  exact ⟨m, trivial, by simp [Rows.uptoBulk], RepL.cons (.v _ rfl) (RepL.nil _), by simp [Value.oneCell']⟩
theorem rd_str {t : TypeId} (ht : P.underlying t = some .string) : Rd P W t (fun s : ByteArray => [dS s]) (fun s => s.size + 1) (fun _ => True) := by
  intro H enc n cs x hx
  obtain ⟨s, rfl, rfl, hs⟩ := DataW.trod_string ht hx
  exact ⟨s, trivial, (show s.size + 1 ≤ s.data.toList.length + 1 by rw [Array.length_toList]; exact Nat.le_refl _), RepL.cons (.v _ rfl) (RepL.nil _), by simp [Value.oneCell']⟩

theorem pick_list {α : Type} {Q : Nat → α → Prop} : ∀ (n : Nat), (∀ i, i < n → ∃ a, Q i a) → ∃ l : List α, l.length = n ∧ ∀ (i : Nat) (a : α), l[i]? = some a → Q i a
  | 0, _ => ⟨[], rfl, by simp⟩
  | n + 1, h => by
    obtain ⟨l, h1, h2⟩ := pick_list n fun i hi => h i (by omega)
    obtain ⟨a, ha⟩ := h n (by omega)
    refine ⟨l ++ [a], by simp [h1], fun i b hb => ?_⟩
    by_cases hi : i < n
    · rw [List.getElem?_append_left (by omega)] at hb; exact h2 i b hb
    · have hlt : i < (l ++ [a]).length := (List.getElem?_eq_some_iff.1 hb).1
      have : i = n := by simp at hlt; omega
      subst this
      rw [List.getElem?_append_right (by omega), h1] at hb
      simp at hb; subst hb; exact ha
theorem bulk_sum {H α : Type} {sz : α → Nat} : ∀ {l : List α} {es : List (DataW H)}, l.length = es.length → (∀ (i : Nat) (a : α) (e : DataW H), l[i]? = some a → es[i]? = some e → sz a ≤ Rows.uptoBulk e) → (l.map sz).sum ≤ Rows.uptoBulkAll es
  | [], [], _, _ => by simp [Rows.uptoBulkAll]
  | [], _ :: _, h, _ => by simp at h
  | _ :: _, [], h, _ => by simp at h
  | a :: l, e :: es, h, hs => by
    have h1 := hs 0 a e rfl rfl
    have h2 := bulk_sum (l := l) (es := es) (by simpa using h) fun i a e x y => hs (i + 1) a e (by simpa using x) (by simpa using y)
    simp only [List.map_cons, List.sum_cons, Rows.uptoBulkAll]
    omega
theorem cells_read {a : Addr} {k : Nat} {cs : List Value} (h : W.cells? 0 a k = some cs) : cs.length = k ∧ ∀ j, j < k → W.cell? (a.add j) = cs[j]? := by
  unfold World.cells? at h
  rw [if_pos (Nat.zero_le _)] at h
  exact ⟨by simpa using mapM_some_length h, fun j hj => mapM_some_get h j j (by simp [hj])⟩

theorem rd_sliceG {t e : TypeId} {α : Type} {en : α → List DV} {sz : α → Nat} {ok : α → Prop} (h : Rd P W e en sz ok) (ht : P.underlying t = some (.slice e)) {k : Nat} (hk : P.cellsOf e = k) (hk0 : 0 < k) (enE : α → DV) (mk : List Value → Value)
    (hmk : ∀ a cs, RepL (gW W) (en a) cs → (∀ u, u ∈ cs → u.oneCell' = true) → cs.length = k → Rep (gW W) (enE a) (mk cs) ∧ (mk cs).cells.toList = cs) :
    Rd P W t (fun l : List α => [.sl k false (l.map enE)]) (fun l => (l.map sz).sum + 1) (fun l => ∀ a, a ∈ l → ok a) := by
  intro H enc n cs x hx
  rcases DataW.trod_slice ht hx with ⟨rfl, rfl⟩ | ⟨a, len, cap, elems, rest, n', rfl, rfl, rfl, -, hlc, hcm, hel, hget, -, -⟩
  · exact ⟨[], by simp, by simp [Rows.uptoBulk], RepL.cons (.nil _ _ _ _ (by simp)) (RepL.nil _), by simp [Value.oneCell']⟩
  · have hq : ∀ i, i < len → ∃ p : α × List Value, ok p.1 ∧ (∀ y, elems[i]? = some y → sz p.1 ≤ Rows.uptoBulk y.1) ∧ W.cells? 0 (a.add (i * k)) k = some p.2 ∧ RepL (gW W) (en p.1) p.2 ∧ ∀ u, u ∈ p.2 → u.oneCell' = true := by
      intro i hi
      have h1 := hget i hi
      rw [hk] at h1
      have h2 : elems[i]? = some elems[i] := List.getElem?_eq_getElem (by omega)
      rw [h2, Option.bind_eq_some_iff] at h1
      obtain ⟨ci, hc, htr⟩ := h1
      obtain ⟨b, b1, b2, b3, b4⟩ := h H enc n' ci _ htr
      exact ⟨(b, ci), b1, fun y hy => by rw [h2] at hy; cases hy; exact b2, hc, b3, b4⟩
    obtain ⟨ps, hpl, hps⟩ := pick_list len hq
    refine ⟨ps.map (·.1), fun b hb => ?_, ?_, ?_, by simp [Value.oneCell']⟩
    · obtain ⟨p, hp, rfl⟩ := List.mem_map.1 hb
      obtain ⟨i, hi⟩ := List.getElem?_of_mem hp
      exact (hps i p hi).1
    · have := bulk_sum (sz := sz) (l := ps.map (·.1)) (es := elems.map (·.1)) (by simp [hpl, hel]) fun i b e x y => by
        rw [List.getElem?_map, Option.map_eq_some_iff] at x y
        obtain ⟨p, hp, rfl⟩ := x
        obtain ⟨y, hy, rfl⟩ := y
        exact (hps i p hp).2.1 y hy
      simp only [Rows.uptoBulk]
      omega
    · refine RepL.cons ?_ (RepL.nil _)
      by_cases h0 : len = 0
      · subst h0
        have : ps = [] := List.eq_nil_of_length_eq_zero hpl
        subst this
        exact .nil _ _ _ _ (by simp)
      · have hspot : a.spot = none := by
          obtain ⟨p, hp⟩ : ∃ p, ps[0]? = some p := ⟨_, List.getElem?_eq_getElem (by omega)⟩
          obtain ⟨hl, hc⟩ := cells_read (hps 0 p hp).2.2.1
          have := hc 0 (by omega)
          rw [List.getElem?_eq_getElem (by omega)] at this
          simp only [Nat.zero_mul, Addr.add, if_true] at this
          unfold World.cell? at this
          split at this
          · split at this
            · cases this
            · rename_i hs; simpa using hs
          · cases this
        obtain ⟨b, o, sp⟩ := a
        simp only at hspot
        subst hspot
        have hus : (ps.map fun p => mk p.2).length = len := by simp [hpl]
        have hmk' : ∀ (i : Nat) (p : α × List Value), ps[i]? = some p → Rep (gW W) (enE p.1) (mk p.2) ∧ (mk p.2).cells.toList = p.2 ∧ p.2.length = k := fun i p hp => by
          have hc := (cells_read (hps i p hp).2.2.1).1
          have := hmk p.1 p.2 (hps i p hp).2.2.2.1 (hps i p hp).2.2.2.2 hc
          exact ⟨this.1, this.2, hc⟩
        have := Rep.sl (g := gW W) k false ((ps.map (·.1)).map enE) b o cap (ps.map fun p => mk p.2) (by simp) (by simp) (by rw [hus]; exact hlc) hcm
          (fun i d u hd hu => by
            simp only [List.map_map, List.getElem?_map, Option.map_eq_some_iff] at hd hu
            obtain ⟨p, hp, rfl⟩ := hd
            obtain ⟨q, hq, rfl⟩ := hu
            rw [hp] at hq; cases hq
            exact (hmk' i p hp).1)
          (fun i u hu => by
            rw [List.getElem?_map, Option.map_eq_some_iff] at hu
            obtain ⟨p, hp, rfl⟩ := hu
            have := hmk' i p hp
            rw [← Array.length_toList, this.2.1, this.2.2])
          (fun u hu x hx => by
            obtain ⟨p, hp, rfl⟩ := List.mem_map.1 hu
            obtain ⟨i, hi⟩ := List.getElem?_of_mem hp
            rw [(hmk' i p hi).2.1] at hx
            exact (hps i p hi).2.2.2.2 x hx)
          (fun i u j x hu hx => by
            rw [List.getElem?_map, Option.map_eq_some_iff] at hu
            obtain ⟨p, hp, rfl⟩ := hu
            have hm := hmk' i p hp
            have hc := (cells_read (hps i p hp).2.2.1).2
            rw [← Array.getElem?_toList, hm.2.1] at hx
            have hj : j < k := by rw [← hm.2.2]; exact (List.getElem?_eq_some_iff.1 hx).1
            have := hc j hj
            rw [hx] at this
            show W.cell? ⟨b, o + i * k + j, none⟩ = some x
            have e : (Addr.add ⟨b, o, none⟩ (i * k)).add j = ⟨b, o + i * k + j, none⟩ := by
              unfold Addr.add
              split <;> split <;> simp_all
            rw [← e]; exact this)
        rw [hus] at this
        exact this
theorem rd_slice1 {t e : TypeId} {α : Type} {en : α → DV} {sz : α → Nat} {ok : α → Prop} (h : Rd P W e (fun a => [en a]) sz ok) (ht : P.underlying t = some (.slice e)) (hk : P.cellsOf e = 1) :
    Rd P W t (fun l : List α => [.sl 1 false (l.map en)]) (fun l => (l.map sz).sum + 1) (fun l => ∀ a, a ∈ l → ok a) :=
  rd_sliceG h ht hk (by omega) en (fun cs => cs.headD undef) fun a cs hr h1 hl => by
    obtain ⟨u, us, rfl, r1, r2⟩ := hr.uncons
    have : us = [] := List.eq_nil_of_length_eq_zero (by simpa using hl)
    subst this
    have hu := h1 u List.mem_cons_self
    refine ⟨r1, ?_⟩
    cases u <;> simp_all [Value.cells, Value.oneCell']
theorem rd_sliceA {t e : TypeId} {α : Type} {en : α → List DV} {sz : α → Nat} {ok : α → Prop} (h : Rd P W e en sz ok) (ht : P.underlying t = some (.slice e)) {k : Nat} (hk : P.cellsOf e = k) (hk0 : 0 < k) :
    Rd P W t (fun l : List α => [.sl k false (l.map fun a => .agg (en a))]) (fun l => (l.map sz).sum + 1) (fun l => ∀ a, a ∈ l → ok a) :=
  rd_sliceG h ht hk hk0 (fun a => .agg (en a)) (fun cs => .agg cs.toArray) fun a cs hr h1 hl => ⟨.agg _ _ hr.len hr.at_ h1, rfl⟩

/-- The fields from one on. -/
def RdF (P : Program) (W : World) (total off : Nat) (fs : List Field) {α : Type} (en : α → List DV) (sz : α → Nat) (ok : α → Prop) : Prop :=
  ∀ (H : Type) (enc : TypeId × Value → H) (n : Nat) (cs : List Value) (xs : List (DataW H × List MemPlace)), cs.length = total → xs.length = fs.length →
    (∀ (i : Nat) (f : Field), fs[i]? = some f → DataW.trod enc P W 0 (fun _ => true) true n f.type ((cs.drop f.offset).take (P.cellsOf f.type)) = xs[i]?) →
    ∃ a, ok a ∧ sz a ≤ Rows.uptoBulkAll (xs.map (·.1)) ∧ RepL (gW W) (en a) (cs.drop off) ∧ ∀ u, u ∈ cs.drop off → u.oneCell' = true
theorem rdF_nil {total : Nat} : RdF P W total total [] (fun _ : Unit => []) (fun _ => 0) (fun _ => True) := by
  intro H enc n cs xs hc hx hg
  refine ⟨(), trivial, Nat.zero_le _, ?_, ?_⟩
  · rw [List.drop_eq_nil_of_le (by omega)]; exact RepL.nil _
  · rw [List.drop_eq_nil_of_le (by omega)]; simp
theorem rdF_cons {total off k : Nat} {f : Field} {fs : List Field} {α β : Type} {en : α → List DV} {sz : α → Nat} {ok : α → Prop} {en' : β → List DV} {sz' : β → Nat} {ok' : β → Prop} (h : Rd P W f.type en sz ok) (hf : f.offset = off) (hk : P.cellsOf f.type = k) (h' : RdF P W total (off + k) fs en' sz' ok') :
    RdF P W total off (f :: fs) (fun p : α × β => en p.1 ++ en' p.2) (fun p => sz p.1 + sz' p.2) (fun p => ok p.1 ∧ ok' p.2) := by
  intro H enc n cs xs hc hx hg
  cases xs with
  | nil => simp at hx
  | cons x xs =>
    have h0 := hg 0 f rfl
    rw [hf, hk] at h0
    obtain ⟨a, a1, a2, a3, a4⟩ := h H enc n _ x h0
    obtain ⟨b, b1, b2, b3, b4⟩ := h' H enc n cs xs hc (by simpa using hx) fun i f hf => by have := hg (i + 1) f (by simpa using hf); simpa using this
    have e : cs.drop off = (cs.drop off).take k ++ cs.drop (off + k) := by rw [← List.drop_drop, List.take_append_drop]
    refine ⟨(a, b), ⟨a1, b1⟩, ?_, ?_, ?_⟩
    · simp only [List.map_cons, Rows.uptoBulkAll]; omega
    · rw [e]; exact a3.append b3
    · intro u hu
      rw [e, List.mem_append] at hu
      exact hu.elim (a4 u) (b4 u)
theorem rd_struct {t : TypeId} {fs : Array Field} {α : Type} {en : α → List DV} {sz : α → Nat} {ok : α → Prop} (ht : P.underlying t = some (.struct fs)) {total : Nat} (hc : P.cellsOf t = total) {fl : List Field} (hfl : fs.toList = fl) (h : RdF P W total 0 fl en sz ok) :
    Rd P W t en (fun a => sz a + 1) ok := by
  intro H enc n cs x hx
  subst hfl
  obtain ⟨xs, n', rfl, rfl, h1, h2, h3⟩ := DataW.trod_struct ht hx
  obtain ⟨a, a1, a2, a3, a4⟩ := h H enc n' cs xs (by rw [h1, hc]) (by simpa using h2) fun i f hf => h3 i f (by simpa using hf)
  exact ⟨a, a1, by simp only [Rows.uptoBulk]; omega, by simpa using a3, by simpa using a4⟩

/-- Arguments, one by one. -/
def RdA (P : Program) (W : World) (ts : List TypeId) {α : Type} (en : α → List DV) (sz : α → Nat) (ok : α → Prop) : Prop :=
  ∀ (H : Type) (enc : TypeId × Value → H) (base : Nat) (vs : List Value) (ds : List (DataW H)) (p : List MemPlace), (∀ (j : Nat) t v, ts[j]? = some t → vs[j]? = some v → Value.okWide P W .any base t v) → DataW.TrodAll enc P W 0 (fun _ => true) true ts vs ds p →
    ∃ a, ok a ∧ sz a ≤ Rows.uptoBulkAll ds ∧ RepL (gW W) (en a) vs
theorem rdA_nil : RdA P W [] (fun _ : Unit => []) (fun _ => 0) (fun _ => True) := by
  intro H enc base vs ds p hv h
  obtain ⟨rfl, rfl, rfl⟩ := trodAll_nil h
  exact ⟨(), trivial, Nat.zero_le _, RepL.nil _⟩
def oneT (P : Program) (t : TypeId) : Bool := match P.underlying t with
  | some .bool | some .string | some (.int _) | some (.slice _) => true
  | _ => false
theorem okWide_one {t : TypeId} (ht : oneT P t = true) {base : Nat} {v : Value} (h : Value.okWide P W .any base t v) : v.cells = #[v] ∧ v.oneCell' = true := by
  unfold oneT at ht
  unfold Value.okWide Cell.okWide Cell.ok at h
  split at ht
  · rename_i hu; rw [hu] at h; cases v <;> simp_all [Value.cells, Value.oneCell']
  · rename_i hu; rw [hu] at h; cases v <;> simp_all [Value.cells, Value.oneCell']
  · rename_i hu; rw [hu] at h; cases v <;> simp_all [Value.cells, Value.oneCell']
  · rename_i hu; rw [hu] at h; cases v <;> simp_all [Value.cells, Value.oneCell']
  · cases ht
theorem rdA_one {t : TypeId} {ts : List TypeId} {α β : Type} {en : α → DV} {sz : α → Nat} {ok : α → Prop} {en' : β → List DV} {sz' : β → Nat} {ok' : β → Prop} (h : Rd P W t (fun a => [en a]) sz ok) (ht : oneT P t = true) (h' : RdA P W ts en' sz' ok') :
    RdA P W (t :: ts) (fun p : α × β => en p.1 :: en' p.2) (fun p => sz p.1 + sz' p.2) (fun p => ok p.1 ∧ ok' p.2) := by
  intro H enc base vs ds p hv hA
  obtain ⟨v, vs', d, ds', p1, q1, rfl, rfl, rfl, h1, h2⟩ := trodAll_cons hA
  obtain ⟨b, b1, b2, b3⟩ := h' H enc base vs' ds' q1 (fun j t v x y => hv (j + 1) t v (by simpa using x) (by simpa using y)) h2
  obtain ⟨n, hn⟩ := h1
  obtain ⟨a, a1, a2, a3, a4⟩ := h H enc n _ _ hn
  obtain ⟨hc, ho⟩ := okWide_one ht (hv 0 t v rfl rfl)
  rw [hc] at a3
  refine ⟨(a, b), ⟨a1, b1⟩, by simp only [Rows.uptoBulkAll]; simp only at a2; omega, RepL.cons ?_ b3⟩
  obtain ⟨u, us, he, r1, r2⟩ := a3.uncons
  simp only [List.cons.injEq] at he
  rw [he.1]; exact r1
theorem rdA_agg {t : TypeId} {ts : List TypeId} {fs : Array Field} {α β : Type} {en : α → List DV} {sz : α → Nat} {ok : α → Prop} {en' : β → List DV} {sz' : β → Nat} {ok' : β → Prop} (h : Rd P W t en sz ok) (ht : P.underlying t = some (.struct fs)) (h' : RdA P W ts en' sz' ok') :
    RdA P W (t :: ts) (fun p : α × β => .agg (en p.1) :: en' p.2) (fun p => sz p.1 + sz' p.2) (fun p => ok p.1 ∧ ok' p.2) := by
  intro H enc base vs ds p hv hA
  obtain ⟨v, vs', d, ds', p1, q1, rfl, rfl, rfl, h1, h2⟩ := trodAll_cons hA
  obtain ⟨b, b1, b2, b3⟩ := h' H enc base vs' ds' q1 (fun j t v x y => hv (j + 1) t v (by simpa using x) (by simpa using y)) h2
  obtain ⟨n, hn⟩ := h1
  obtain ⟨a, a1, a2, a3, a4⟩ := h H enc n _ _ hn
  have ho := hv 0 t v rfl rfl
  unfold Value.okWide at ho
  rw [ht] at ho
  obtain ⟨cs, rfl, _, _⟩ := ho
  refine ⟨(a, b), ⟨a1, b1⟩, by simp only [Rows.uptoBulkAll]; simp only at a2; omega, RepL.cons ?_ b3⟩
  have : (Value.agg cs) = .agg cs.toList.toArray := by simp
  rw [this]
  exact .agg _ _ (by simpa [Value.cells] using a3.len) (by simpa [Value.cells] using a3.at_) (by simpa [Value.cells] using a4)

/-- Behind the call each argument reads as it did. -/
theorem trodAll_stays {H : Type} {enc : TypeId × Value → H} (hl : laidOutB P = true) {W' : World} (hb : Below W.heap.size W W') {sp : Nat → Bool} : ∀ {ts : List TypeId} {vs : List Value} {ds : List (DataW H)} {ps : List MemPlace}, (∀ t, t ∈ ts → P.readableRec t = true ∧ t < P.types.size) →
    DataW.TrodAll enc P W 0 (fun _ => true) true ts vs ds ps → (∀ p, p ∈ ps → p.block < W.heap.size ∧ sp p.block = true) → DataW.TrodAll enc P W' 0 sp true ts vs ds ps
  | [], vs, ds, ps, _, h, _ => by
    obtain ⟨rfl, rfl, rfl⟩ := trodAll_nil h
    exact rfl
  | t :: ts, vs, ds, ps, ht, h, hp => by
    obtain ⟨v, vs', d, ds', p1, q1, rfl, rfl, rfl, h1, h2⟩ := trodAll_cons h
    exact ⟨p1, q1, WideElems.Trod_stays hl (ht t List.mem_cons_self).1 (ht t List.mem_cons_self).2 h1 (fun x hx => hb.same (hp x (List.mem_append_left _ hx)).1) (fun x hx => (hp x (List.mem_append_left _ hx)).2),
      trodAll_stays hl hb (fun t' ht' => ht t' (List.mem_cons_of_mem _ ht')) h2 fun x hx => hp x (List.mem_append_right _ hx), rfl⟩

/-- THE LAW's CONTRACT, out of a walked call. -/
theorem law_contract {H : Type} (enc : TypeId × Value → H) {f : FuncId} {fn : Func} {s : ChangeSpec} {ts : List TypeId} {α : Type} {en : α → List DV} {sz : α → Nat} {ok : α → Prop} {tb : TypeId} (hr : RdA P W ts en sz ok) (hts : fn.params = ts.toArray) (hres : fn.resultTypes = #[tb]) (htb : P.underlying tb = some .bool) (hvars : s.vars = [])
    (hl : laidOutB P = true) (hT : ∀ t, t ∈ ts → P.readableRec t = true ∧ t < P.types.size) (hspec : ∀ ds : List (DataW H), ds.length = ts.length → s.fn H ds = { results := [.lit (.bool true)], args := ds })
    (hcall : ∀ a, ok a → sz a ≤ 1048576 → ACall P W f (en a) ⟨[], []⟩ fun d _ => d = dB true)
    (base : Nat) (args : Array Value) (ds gs : List (DataW H)) (before : List MemPlace) (hval : ∀ (j : Nat) t v, fn.params[j]? = some t → args[j]? = some v → Value.okWide P W .any base t v)
    (hW : DataW.Whole enc P fn.params.toList s.vars false W args.toList ds gs before) (hk : Rows.uptoBulkAll (ds ++ gs) ≤ 1048576) :
    Calls P f args W fun e W' => ∃ v, e = .returned v ∧ s.post enc P fn false true false false W args v W' := by
  have hW' := hW
  obtain ⟨p, q, hA, hV, rfl, hfz, hnd⟩ := hW
  rw [hvars] at hV
  have hgs : gs = [] ∧ q = [] := by
    cases gs with
    | nil => exact ⟨rfl, hV⟩
    | cons g gs => exact hV.elim
  obtain ⟨rfl, rfl⟩ := hgs
  rw [hts] at hA
  simp only [List.append_nil] at hk
  obtain ⟨a, a1, a2, a3⟩ := hr H enc base args.toList ds p (fun j t v x y => hval j t v (by rw [hts]; simpa using x) (by simpa using y)) (by simpa using hA)
  have hc := hcall a a1 (Nat.le_trans a2 hk) (gW W) args W (rel_start W) a3
  refine hc.mono ?_
  rintro e W' ⟨r, g', d, S', rfl, hle, hR, hd, rfl⟩
  have hb := hR.below.base
  have hrv : r = .bool true := rep_bool hd
  subst hrv
  have hlen : ds.length = ts.length := by
    have : ∀ {ts : List TypeId} {vs : List Value} {ds : List (DataW H)} {ps : List MemPlace}, DataW.TrodAll enc P W 0 (fun _ => true) true ts vs ds ps → ds.length = ts.length := by
      intro ts
      induction ts with
      | nil => intro vs ds ps h; obtain ⟨rfl, rfl, rfl⟩ := trodAll_nil h; rfl
      | cons t ts ih =>
        intro vs ds ps h
        obtain ⟨v, vs', d, ds', p1, q1, rfl, rfl, rfl, h1, h2⟩ := trodAll_cons h
        simp [ih h2]
    exact this (by simpa using hA)
  have hsp := hspec ds hlen
  have hold : ∀ x, x ∈ p → x.block < W.heap.size := fun x hx => hW'.lt x (by simpa using hx)
  have hres' : ∀ (b : Nat) (sp : Nat → Bool) (hd : Bool), DataW.TrodAll enc P W' b sp hd fn.resultTypes.toList ((Value.bool true).resultList fn.resultTypes.size) (s.fn H (ds ++ [])).results [] := by
    intro b sp hd
    rw [List.append_nil, hsp, hres]
    exact trodAll_cons_mk (shut_bool htb _) trodAll_mk0
  have hargs' : ∀ sp : Nat → Bool, (∀ x, x ∈ p → sp x.block = true) → DataW.TrodAll enc P W' 0 sp true fn.params.toList args.toList (s.fn H (ds ++ [])).args p := by
    intro sp hs
    rw [List.append_nil, hsp, hts]
    exact trodAll_stays hl hb hT (by simpa using hA) fun x hx => ⟨hold x hx, hs x hx⟩
  have hvars' : ∀ sp : Nat → Bool, DataW.TrodVars enc P W' sp s.vars (s.fn H (ds ++ [])).vars [] := by
    intro sp
    rw [List.append_nil, hsp, hvars]
    exact rfl
  refine ⟨.bool true, rfl, ds, [], p ++ [], [], p, [], hW', hres' _ _ _, hargs' _ (fun x hx => by simpa using hold x hx), hvars' _, World.keptBut_mono (fun x hx => ⟨hx, .inr (by simpa using hx)⟩) (hb.frame _), fun _ => ?_⟩
  refine ⟨?_, _, _, ([] ++ p) ++ [], ⟨[] ++ p, [], trodAll_append (hargs' _ (fun _ _ => rfl)) (hres' _ _ _), hvars' _, rfl, ?_, ?_⟩, ?_⟩
  · exact ok_one hres rfl (okWide_bool_mk htb _)
  · intro b off hp
    have hp : MemPlace.cell b off ∈ p := by simpa using hp
    rw [hb.frozen (hold _ hp)]
    exact hfz b off (by simpa using hp)
  · intro ha; cases ha
  · intro x hx _
    simpa using hx
end
end Go.Proofs.Ytkibkahknibgfaa

namespace Go.Proofs.Ytkibkahknibgfaa
open Aml Go
set_option linter.unusedVariables false
set_option linter.unusedSimpArgs false
set_option maxRecDepth 100000
@[go_sem] def dL (l : List Int) : DV := .sl 1 false (l.map dI)
/-- Numbers, rising. -/
def srt (l : List Int) : List Int := l.mergeSort fun x y => decide (x ≤ y)
theorem srt_length (l : List Int) : (srt l).length = l.length := List.length_mergeSort l

theorem get_bang {l : List Int} {j : Nat} {a : Int} (h : l[j]? = some a) : l.toArray[j]! = a := by
  obtain ⟨hlt, rfl⟩ := List.getElem?_eq_some_iff.1 h
  rw [getElem!_pos l.toArray j (by simpa using hlt)]
  simp
theorem sorted_heap {w : World} {n b e : Nat} {cs : Array Value} {zs : List Int} {os : Array Obj} (hb : w.heap[b]? = some (.cells cs e (0, 0))) (hn : zs.length ≤ cs.size) :
    ∃ cs', (Go.Sort.grow (Go.Sort.putRow (Value.int .i64) (Go.Sort.ahead w n) b 0 zs.toArray) os).heap[b]? = some (.cells cs' e (0, 0)) ∧ cs'.size = cs.size ∧ ∀ (i : Nat) (a : Int), zs[i]? = some a → cs'[i]? = some (.int .i64 a) := by
  refine ⟨Go.Sort.putCells (Value.int .i64) 0 zs.toArray cs, ?_, by simp [Go.Sort.putCells], fun i a hi => ?_⟩
  · rw [Go.Sort.heap_grow_old _ _ (by have := (Array.getElem?_eq_some_iff.1 hb).1; simpa using this)]
    simp only [Go.Sort.putRow, Go.Sort.mapBlock, Go.Sort.heap_ahead, Array.getElem?_modify, if_true, hb, Option.map_some, Go.Sort.onCells]
  · have hlt : i < zs.length := (List.getElem?_eq_some_iff.1 hi).1
    have hc : cs[i]? = some cs[i] := Array.getElem?_eq_getElem (by omega)
    simp only [Go.Sort.putCells, Array.getElem?_mapIdx, hc, Option.map_some]
    rw [if_pos (by simp; omega)]
    simp only [Nat.sub_zero]
    rw [get_bang hi]

set_option maxHeartbeats 400000 in
/-- slices.Sort at []int, of a growing slice. -/
theorem sort_int (w0 : W0) {l : Nat} {zs : List Int} {S : St} (hl : lk S.acc l = some (.arr 1 (zs.map dI))) (hsz : zs.length < 4611686018427387904) :
    ACall Try.prog w0 66 [.acc l zs.length] S (fun d S' => d = .tup [] ∧ S' = ⟨S.box, up S.acc l (.arr 1 ((srt zs).map dI))⟩) := by
  intro g vs w h1 h2
  obtain ⟨u, us, hvs, hr, h3⟩ := h2.uncons
  have hus : us = [] := List.eq_nil_of_length_eq_zero (by have := h3.len; simpa using this.symm)
  subst hus
  have hvs' : vs = #[u] := by rw [← Array.toArray_toList (xs := vs), hvs]
  subst hvs'
  obtain ⟨o, c, hv, ha⟩ := rep_acc hr
  subst hv
  by_cases hz : zs = []
  · subst hz
    refine (Try.slices_Sort_int_none o c w).mono ?_
    rintro e w' ⟨rfl, rfl⟩
    refine ⟨_, g, .tup [], _, rfl, .refl g, ?_, .tup [] [] rfl (by intro i d u h; simp at h), rfl, rfl⟩
    have : srt [] = [] := by simp [srt]
    rw [this, up_self hl]
    exact h1
  · have hpos : 0 < zs.length := List.length_pos_iff.2 hz
    obtain ⟨ow, hO⟩ := h1.open_
    obtain ⟨hs, ⟨he, o2, _⟩ | ⟨b, c2, cs, e, q1, q2, q3, q4, q5, q6, q7, q8, us, q9, q10, q11, q12⟩⟩ := hO.acc l _ (lk_mem hl)
    · exact absurd (by simpa using he) hz
    · rw [List.length_map] at q1 q7
      have q1' := q1
      rw [ha] at q1
      simp only [Option.some.injEq, Value.slice.injEq, true_and] at q1
      obtain ⟨rfl, rfl⟩ := q1
      rw [Nat.mul_one] at q6
      have hul : us.length = zs.length := by have := q9.len; simpa using this.symm
      have hus : ∀ (i : Nat) (a : Int), zs[i]? = some a → us[i]? = some (.int .i64 a) := by
        intro i a hi
        have hlt : i < us.length := by rw [hul]; exact (List.getElem?_eq_some_iff.1 hi).1
        have hu : us[i]? = some us[i] := List.getElem?_eq_getElem hlt
        have := q9.at_ i (dI a) _ (by simp [hi]) hu
        have := rep_v this
        rw [hu, this]
      have hcs : ∀ (i : Nat) (a : Int), zs[i]? = some a → cs[i]? = some (.int .i64 a) := by
        intro i a hi
        have := q12 i _ 0 _ (hus i a hi) (show (Value.int IntKind.i64 a).cells[0]? = some (.int .i64 a) by rfl)
        simpa using this
      have hH : Go.Sort.Holds (Value.int .i64) w b 0 zs.toArray := by
        intro j hj
        have hj' : j < zs.length := by simpa using hj
        have hi : zs[j]? = some zs[j] := List.getElem?_eq_getElem hj'
        constructor
        · rw [cells_at q5, Nat.zero_add, hcs j _ hi, get_bang hi]
        · simp [World.frozen?, q5]
      refine (Try.slices_Sort_int b 0 c zs w hH (lt_of_heap q5) hsz).mono ?_
      rintro ex w' ⟨rfl, n, os, rfl⟩
      obtain ⟨cs', h5, h6, h7⟩ := sorted_heap (n := n) (os := os) (zs := srt zs) q5 (by rw [srt_length]; omega)
      refine ⟨_, g, .tup [], _, rfl, .refl g, ?_, .tup [] [] rfl (by intro i d u h; simp at h), rfl, rfl⟩
      refine h1.rearr (us := (srt zs).map fun a => Value.int .i64 a) (b := b) (c := c) (e := e) (cs := cs') hl (by rw [List.length_map]; exact ha) (by simp [srt_length]) (by omega) h5 (by omega) ?_ (by simp) ?_ ?_ ?_ ?_ ?_
      · refine h1.below.step ⟨rfl, rfl, rfl, by simp, fun k hk => ?_⟩ b (nc_cells q5) fun k hk hne => ?_
        · rw [Go.Sort.heap_grow_old _ _ (by simp; exact Nat.lt_of_lt_of_le hk h1.below.size)]
          have : b ≠ k := by omega
          simp [Go.Sort.putRow, Go.Sort.mapBlock, Array.getElem?_modify, this]
        · rw [Go.Sort.heap_grow_old _ _ (by simp; exact hk)]
          have : b ≠ k := fun e => hne e.symm
          simp [Go.Sort.putRow, Go.Sort.mapBlock, Array.getElem?_modify, this]
      · intro k hk hne
        rw [Go.Sort.heap_grow_old _ _ (by simp; exact hk)]
        have : b ≠ k := fun e => hne e.symm
        simp [Go.Sort.putRow, Go.Sort.mapBlock, Array.getElem?_modify, this]
      · exact ⟨by simp, fun i d u a1 a2 => by
          simp only [List.getElem?_map, Option.map_eq_some_iff] at a1 a2
          obtain ⟨x, hx, rfl⟩ := a1
          obtain ⟨y, hy, rfl⟩ := a2
          rw [hx] at hy; cases hy
          exact .v _ rfl⟩
      · intro i u hi
        simp only [List.getElem?_map, Option.map_eq_some_iff] at hi
        obtain ⟨x, _, rfl⟩ := hi; rfl
      · intro u hu x hx
        obtain ⟨a, _, rfl⟩ := List.mem_map.1 hu
        simp [Value.cells] at hx
        subst hx; rfl
      · intro i u j x hi hj
        simp only [List.getElem?_map, Option.map_eq_some_iff] at hi
        obtain ⟨a, ha', rfl⟩ := hi
        have hj0 : j = 0 := by have := (Array.getElem?_eq_some_iff.1 hj).1; simp [Value.cells] at this; exact this
        subst hj0
        simp [Value.cells] at hj
        subst hj
        simpa using h7 i a ha'
end Go.Proofs.Ytkibkahknibgfaa

namespace Go.Proofs.Ytkibkahknibgfaa
open Aml Go
set_option linter.unusedVariables false
set_option linter.unusedSimpArgs false
set_option maxRecDepth 100000

/-- Pages that wait; a pool. -/
structure Wt where
  txn : Int
  pages : List Int
  deriving DecidableEq
structure Pl where
  high : Int
  free : List Int
  wait : List Wt
  deriving DecidableEq
@[go_sem] def dW (w : Wt) : DV := .agg [dU w.txn, .sl 1 false (w.pages.map dI)]
@[go_sem] def dP (p : Pl) : DV := .agg [dI p.high, .sl 1 false (p.free.map dI), .sl 2 false (p.wait.map dW)]
def nW (l : List Wt) : Nat := (l.map fun w => w.pages.length).sum

theorem nW_succ {l : List Wt} {k : Nat} {a : Wt} (h : l[k]? = some a) : nW (l.take (k + 1)) = nW (l.take k) + a.pages.length := by
  unfold nW
  rw [List.take_add_one, h]
  simp
theorem nW_le (l : List Wt) (k : Nat) : nW (l.take k) ≤ nW l := by
  have : nW l = nW (l.take k) + nW (l.drop k) := by
    unfold nW
    rw [← List.sum_append, ← List.map_append, List.take_append_drop]
  omega

set_option maxHeartbeats 400000 in
theorem waiting (w0 : W0) (p : Pl) (S : St) (hl : p.wait.length ≤ 4611686018427387904) (hn : nW p.wait ≤ 4611686018427387904) : ACall Try.prog w0 49 [dP p] S (fun d S' => d = dI (nW p.wait) ∧ S' = S) := by
  refine fnS [] mx Try.func49 rfl rfl (by kernel_rfl) ?_; simp (maxDischargeDepth := 12) (maxSteps := 1000000) -implicitDefEqProofs only [Try.ntmps49, go_sem, Nat.reduceAdd, Nat.reduceSub, Nat.reduceMul, Nat.reduceLeDiff, Nat.reduceEqDiff, Nat.reduceGT, Nat.reduceBEq, reduceCtorEq, ↓reduceIte, Int.reduceToNat, Int.reduceLE, Int.reduceLT, Int.reduceNe, Int.reduceEq]
  intro b
  refine loopN [] p.wait.length [3, 7, 8, 9] (fun k => [(3, dI (nW (p.wait.take k))), (9, dI k)]) (fun _ => S) (fun k => True) mx (by kernel_rfl) ?_ ?_
  · simp (maxDischargeDepth := 12) (maxSteps := 1000000) -implicitDefEqProofs only [go_sem, Nat.reduceAdd, Nat.reduceSub, Nat.reduceMul, Nat.reduceLeDiff, Nat.reduceEqDiff, Nat.reduceGT, Nat.reduceBEq, reduceCtorEq, ↓reduceIte, Int.reduceToNat, Int.reduceLE, Int.reduceLT, Int.reduceNe, Int.reduceEq]
    simp [nW]
  · intro k hk hinv
    simp (maxDischargeDepth := 12) (maxSteps := 1000000) -implicitDefEqProofs only [go_sem, Nat.reduceAdd, Nat.reduceSub, Nat.reduceMul, Nat.reduceLeDiff, Nat.reduceEqDiff, Nat.reduceGT, Nat.reduceBEq, reduceCtorEq, ↓reduceIte, Int.reduceToNat, Int.reduceLE, Int.reduceLT, Int.reduceNe, Int.reduceEq]
    refine ⟨fun hlt => ⟨hlt, fun a ha b' => ?_⟩, fun hge => ?_⟩
    · have h1 := nW_succ ha
      have h2 := nW_le p.wait (k + 1)
      rw [w64 (by omega) (by omega), w64 (by omega) (by omega)]
      omega
    · rw [List.take_of_length_le (by omega)]
end Go.Proofs.Ytkibkahknibgfaa

namespace Go.Proofs.Ytkibkahknibgfaa
open Aml Go
set_option linter.unusedVariables false
set_option linter.unusedSimpArgs false
set_option maxRecDepth 100000

theorem getE {α : Type} {l : List α} {k : Nat} {a b : α} (h : l[k]? = some a) (h' : l[k]? = some b) : a = b := by rw [h] at h'; exact Option.some.inj h'

/-- The first k of a row are pages below a bound, rising. -/
def RowUp (l : List Int) (high : Int) (k : Nat) : Prop := ∀ (i : Nat) (a : Int), i < k → l[i]? = some a → 2 ≤ a ∧ a < high ∧ ∀ b, 0 < i → l[i - 1]? = some b → b < a
def Row (l : List Int) (high : Int) : Prop := RowUp l high l.length
theorem rowUp_succ {l : List Int} {high : Int} {k : Nat} {a : Int} (h : RowUp l high k) (ha : l[k]? = some a) (h1 : 2 ≤ a) (h2 : a < high) (h3 : ∀ b, 0 < k → l[k - 1]? = some b → b < a) : RowUp l high (k + 1) := by
  intro i c hi hc
  by_cases e : i = k
  · subst e; cases getE ha hc; exact ⟨h1, h2, h3⟩
  · exact h i c (by omega) hc
theorem row_at {l : List Int} {high : Int} {k : Nat} {a : Int} (h : Row l high) (ha : l[k]? = some a) : 2 ≤ a ∧ a < high ∧ ∀ b, 0 < k → l[k - 1]? = some b → b < a :=
  h k a (List.getElem?_eq_some_iff.1 ha).1 ha

set_option maxHeartbeats 1000000 in
theorem row (w0 : W0) (l : List Int) (high : Int) (S : St) (h0 : l.length ≤ 4611686018427387904) : ACall Try.prog w0 76 [dL l, dI high] S (fun d S' => d = dB (pB (Row l high)) ∧ S' = S) := by
  refine fnS [] mx Try.func76 rfl rfl (by kernel_rfl) ?_; simp (maxDischargeDepth := 12) (maxSteps := 1000000) -implicitDefEqProofs only [Try.ntmps76, go_sem, Nat.reduceAdd, Nat.reduceSub, Nat.reduceMul, Nat.reduceLeDiff, Nat.reduceEqDiff, Nat.reduceGT, Nat.reduceBEq, reduceCtorEq, ↓reduceIte, Int.reduceToNat, Int.reduceLE, Int.reduceLT, Int.reduceNe, Int.reduceEq]
  refine loopN [] l.length [0, 1, 7, 8, 9] (fun k => [(9, dI k)]) (fun _ => S) (fun k => RowUp l high k) mx (by kernel_rfl) ?_ ?_
  · simp (maxDischargeDepth := 12) (maxSteps := 1000000) -implicitDefEqProofs only [go_sem, Nat.reduceAdd, Nat.reduceSub, Nat.reduceMul, Nat.reduceLeDiff, Nat.reduceEqDiff, Nat.reduceGT, Nat.reduceBEq, reduceCtorEq, ↓reduceIte, Int.reduceToNat, Int.reduceLE, Int.reduceLT, Int.reduceNe, Int.reduceEq]
    intro i a hi; omega
  · intro k hk hup
    simp (maxDischargeDepth := 12) (maxSteps := 1000000) -implicitDefEqProofs only [go_sem, Nat.reduceAdd, Nat.reduceSub, Nat.reduceMul, Nat.reduceLeDiff, Nat.reduceEqDiff, Nat.reduceGT, Nat.reduceBEq, reduceCtorEq, ↓reduceIte, Int.reduceToNat, Int.reduceLE, Int.reduceLT, Int.reduceNe, Int.reduceEq]
    simp +contextual (disch := first | omega | assumption) only [w64, wu64, wu8, Option.some.injEq, forall_eq, forall_eq', forall_eq_apply_imp_iff, true_and, and_true, forall_const, true_implies, implies_true, not_true_eq_false, not_false_eq_true, false_implies, and_self, Int.toNat_natCast]
    refine ⟨fun hlt a ha => ⟨fun h hr => ?_, fun h => ⟨fun h' hr => ?_, fun h' => ⟨fun hp => ⟨by omega, by omega, fun b hb => ?_⟩, fun hp => ?_⟩⟩⟩, fun hge => ?_⟩
    · have := row_at hr ha; omega
    · have := row_at hr ha; omega
    · have e : ((k : Int) - 1).toNat = k - 1 := by omega
      rw [e] at hb
      refine ⟨fun hle hr => ?_, fun hle => ⟨rowUp_succ hup ha (by omega) (by omega) fun c hc hcb => ?_, by omega⟩⟩
      · have := (row_at hr ha).2.2 b (by omega) hb; omega
      · cases getE hb hcb; omega
    · exact ⟨rowUp_succ hup ha (by omega) (by omega) fun c hc hcb => by omega, by omega⟩
    · have e : k = l.length := by omega
      subst e; exact hup

set_option maxHeartbeats 1000000 in
theorem rowR (w0 : W0) (l : List Int) (high : Int) (S : St) (h0 : l.length ≤ 4611686018427387904) : ACall Try.prog w0 78 [dL l, dI high] S (fun d S' => d = dB (pB (Row l high)) ∧ S' = S) := by
  refine fnS [] mx Try.func78 rfl rfl (by kernel_rfl) ?_; simp (maxDischargeDepth := 12) (maxSteps := 1000000) -implicitDefEqProofs only [Try.ntmps78, go_sem, Nat.reduceAdd, Nat.reduceSub, Nat.reduceMul, Nat.reduceLeDiff, Nat.reduceEqDiff, Nat.reduceGT, Nat.reduceBEq, reduceCtorEq, ↓reduceIte, Int.reduceToNat, Int.reduceLE, Int.reduceLT, Int.reduceNe, Int.reduceEq]
  refine loopN [] l.length [0, 1, 5] (fun k => [(5, dI k)]) (fun _ => S) (fun k => RowUp l high k) mx (by kernel_rfl) ?_ ?_
  · simp (maxDischargeDepth := 12) (maxSteps := 1000000) -implicitDefEqProofs only [go_sem, Nat.reduceAdd, Nat.reduceSub, Nat.reduceMul, Nat.reduceLeDiff, Nat.reduceEqDiff, Nat.reduceGT, Nat.reduceBEq, reduceCtorEq, ↓reduceIte, Int.reduceToNat, Int.reduceLE, Int.reduceLT, Int.reduceNe, Int.reduceEq]
    intro i a hi; omega
  · intro k hk hup
    simp (maxDischargeDepth := 12) (maxSteps := 1000000) -implicitDefEqProofs only [go_sem, Nat.reduceAdd, Nat.reduceSub, Nat.reduceMul, Nat.reduceLeDiff, Nat.reduceEqDiff, Nat.reduceGT, Nat.reduceBEq, reduceCtorEq, ↓reduceIte, Int.reduceToNat, Int.reduceLE, Int.reduceLT, Int.reduceNe, Int.reduceEq]
    simp +contextual (disch := first | omega | assumption) only [w64, wu64, wu8, Option.some.injEq, forall_eq, forall_eq', forall_eq_apply_imp_iff, true_and, and_true, forall_const, true_implies, implies_true, not_true_eq_false, not_false_eq_true, false_implies, and_self, Int.toNat_natCast]
    refine ⟨fun hlt a ha => ⟨fun h hr => ?_, fun h => ⟨fun h' hr => ?_, fun h' => ⟨fun hp => ⟨by omega, by omega, fun b hb => ?_⟩, fun hp => ?_⟩⟩⟩, fun hge => ?_⟩
    · have := row_at hr ha; omega
    · have := row_at hr ha; omega
    · have e : ((k : Int) - 1).toNat = k - 1 := by omega
      rw [e] at hb
      refine ⟨fun hle hr => ?_, fun hle => ⟨rowUp_succ hup ha (by omega) (by omega) fun c hc hcb => ?_, by omega⟩⟩
      · have := (row_at hr ha).2.2 b (by omega) hb; omega
      · cases getE hb hcb; omega
    · exact ⟨rowUp_succ hup ha (by omega) (by omega) fun c hc hcb => by omega, by omega⟩
    · have e : k = l.length := by omega
      subst e; exact hup

theorem eq_of_take {α : Type} {a b : List α} {k : Nat} (h : a.take k = b.take k) (hl : ¬ ¬ a.length = b.length) (hk : ¬ k < a.length) : a = b := by
  rw [List.take_of_length_le (by omega), List.take_of_length_le (by omega)] at h; exact h
theorem take_eq_succ {α : Type} {a b : List α} {k : Nat} {x y : α} (h : a.take k = b.take k) (hx : a[k]? = some x) (hy : b[k]? = some y) (e : x = y) : a.take (k + 1) = b.take (k + 1) := by
  rw [List.take_add_one, List.take_add_one, h, hx, hy, e]
set_option maxHeartbeats 1000000 in
theorem intsR (w0 : W0) (a b : List Int) (S : St) (h0 : a.length ≤ 4611686018427387904) : ACall Try.prog w0 81 [dL a, dL b] S (fun d S' => d = dB (decide (a = b)) ∧ S' = S) := by
  refine fnS [] mx Try.func81 rfl rfl (by kernel_rfl) ?_; simp (maxDischargeDepth := 12) (maxSteps := 1000000) -implicitDefEqProofs only [Try.ntmps81, go_sem, Nat.reduceAdd, Nat.reduceSub, Nat.reduceMul, Nat.reduceLeDiff, Nat.reduceEqDiff, Nat.reduceGT, Nat.reduceBEq, reduceCtorEq, ↓reduceIte, Int.reduceToNat, Int.reduceLE, Int.reduceLT, Int.reduceNe, Int.reduceEq]
  refine ⟨fun hne e => hne (by rw [e]), fun he => ?_⟩
  refine loopN [] a.length [0, 1, 5] (fun k => [(5, dI k)]) (fun _ => S) (fun k => a.take k = b.take k) mx (by kernel_rfl) ?_ ?_
  · simp (maxDischargeDepth := 12) (maxSteps := 1000000) -implicitDefEqProofs only [go_sem, Nat.reduceAdd, Nat.reduceSub, Nat.reduceMul, Nat.reduceLeDiff, Nat.reduceEqDiff, Nat.reduceGT, Nat.reduceBEq, reduceCtorEq, ↓reduceIte, Int.reduceToNat, Int.reduceLE, Int.reduceLT, Int.reduceNe, Int.reduceEq]
  · intro k hk hup
    simp (maxDischargeDepth := 12) (maxSteps := 1000000) -implicitDefEqProofs only [go_sem, Nat.reduceAdd, Nat.reduceSub, Nat.reduceMul, Nat.reduceLeDiff, Nat.reduceEqDiff, Nat.reduceGT, Nat.reduceBEq, reduceCtorEq, ↓reduceIte, Int.reduceToNat, Int.reduceLE, Int.reduceLT, Int.reduceNe, Int.reduceEq]
    simp +contextual (disch := first | omega | assumption) only [w64, wu64, wu8, Option.some.injEq, forall_eq, forall_eq', forall_eq_apply_imp_iff, true_and, and_true, forall_const, true_implies, implies_true, not_true_eq_false, not_false_eq_true, false_implies, and_self, Int.toNat_natCast]
    exact ⟨fun hlt x hx => ⟨by omega, fun y hy => ⟨fun hxy e => hxy (getE (e ▸ hx) hy), fun hxy => ⟨take_eq_succ hup hx hy (by omega), by omega⟩⟩⟩, fun hge => eq_of_take hup he hge⟩
set_option maxHeartbeats 1000000 in
theorem ints3 (w0 : W0) (a b : List Int) (S : St) (h0 : a.length ≤ 4611686018427387904) : ACall Try.prog w0 32 [dL a, dL b] S (fun d S' => d = dB (decide (a = b)) ∧ S' = S) := by
  refine fnS [] mx Try.func32 rfl rfl (by kernel_rfl) ?_; simp (maxDischargeDepth := 12) (maxSteps := 1000000) -implicitDefEqProofs only [Try.ntmps32, go_sem, Nat.reduceAdd, Nat.reduceSub, Nat.reduceMul, Nat.reduceLeDiff, Nat.reduceEqDiff, Nat.reduceGT, Nat.reduceBEq, reduceCtorEq, ↓reduceIte, Int.reduceToNat, Int.reduceLE, Int.reduceLT, Int.reduceNe, Int.reduceEq]
  refine ⟨fun hne e => hne (by rw [e]), fun he => ?_⟩
  refine loopN [] a.length [0, 1, 5] (fun k => [(5, dI k)]) (fun _ => S) (fun k => a.take k = b.take k) mx (by kernel_rfl) ?_ ?_
  · simp (maxDischargeDepth := 12) (maxSteps := 1000000) -implicitDefEqProofs only [go_sem, Nat.reduceAdd, Nat.reduceSub, Nat.reduceMul, Nat.reduceLeDiff, Nat.reduceEqDiff, Nat.reduceGT, Nat.reduceBEq, reduceCtorEq, ↓reduceIte, Int.reduceToNat, Int.reduceLE, Int.reduceLT, Int.reduceNe, Int.reduceEq]
  · intro k hk hup
    simp (maxDischargeDepth := 12) (maxSteps := 1000000) -implicitDefEqProofs only [go_sem, Nat.reduceAdd, Nat.reduceSub, Nat.reduceMul, Nat.reduceLeDiff, Nat.reduceEqDiff, Nat.reduceGT, Nat.reduceBEq, reduceCtorEq, ↓reduceIte, Int.reduceToNat, Int.reduceLE, Int.reduceLT, Int.reduceNe, Int.reduceEq]
    simp +contextual (disch := first | omega | assumption) only [w64, wu64, wu8, Option.some.injEq, forall_eq, forall_eq', forall_eq_apply_imp_iff, true_and, and_true, forall_const, true_implies, implies_true, not_true_eq_false, not_false_eq_true, false_implies, and_self, Int.toNat_natCast]
    exact ⟨fun hlt x hx => ⟨by omega, fun y hy => ⟨fun hxy e => hxy (getE (e ▸ hx) hy), fun hxy => ⟨take_eq_succ hup hx hy (by omega), by omega⟩⟩⟩, fun hge => eq_of_take hup he hge⟩

/-- How many pages can be taken. -/
def roomZ (p : Pl) (q : Int) : Int := p.free.length + if p.high < q then q - p.high else 0
set_option maxHeartbeats 1000000 in
theorem room (w0 : W0) (p : Pl) (q : Int) (S : St) (h0 : p.free.length ≤ 1048576) (h1 : -1099511627776 ≤ p.high) (h2 : p.high ≤ 1099511627776) (h3 : -1099511627776 ≤ q) (h4 : q ≤ 1099511627776) : ACall Try.prog w0 47 [dP p, dI q] S (fun d S' => d = dI (roomZ p q) ∧ S' = S) := by
  refine fnS [] mx Try.func47 rfl rfl (by kernel_rfl) ?_; simp (maxDischargeDepth := 12) (maxSteps := 1000000) -implicitDefEqProofs only [Try.ntmps47, go_sem, Nat.reduceAdd, Nat.reduceSub, Nat.reduceMul, Nat.reduceLeDiff, Nat.reduceEqDiff, Nat.reduceGT, Nat.reduceBEq, reduceCtorEq, ↓reduceIte, Int.reduceToNat, Int.reduceLE, Int.reduceLT, Int.reduceNe, Int.reduceEq]
  intro b
  unfold roomZ
  rw [w64 (n := q - p.high) (by omega) (by omega), w64 (by omega) (by omega)]
  constructor
  · intro h; rw [if_pos (by omega)]
  · intro h; rw [if_neg (by omega)]; omega
set_option maxHeartbeats 1000000 in
theorem roomR (w0 : W0) (p : Pl) (q : Int) (S : St) (h0 : p.free.length ≤ 1048576) (h1 : -1099511627776 ≤ p.high) (h2 : p.high ≤ 1099511627776) (h3 : -1099511627776 ≤ q) (h4 : q ≤ 1099511627776) : ACall Try.prog w0 48 [dP p, dI q] S (fun d S' => d = dI (roomZ p q) ∧ S' = S) := by
  refine fnS [] mx Try.func48 rfl rfl (by kernel_rfl) ?_; simp (maxDischargeDepth := 12) (maxSteps := 1000000) -implicitDefEqProofs only [Try.ntmps48, go_sem, Nat.reduceAdd, Nat.reduceSub, Nat.reduceMul, Nat.reduceLeDiff, Nat.reduceEqDiff, Nat.reduceGT, Nat.reduceBEq, reduceCtorEq, ↓reduceIte, Int.reduceToNat, Int.reduceLE, Int.reduceLT, Int.reduceNe, Int.reduceEq]
  intro b
  unfold roomZ
  rw [w64 (n := q - p.high) (by omega) (by omega), w64 (by omega) (by omega)]
  constructor
  · intro h; rw [if_pos (by omega)]
  · intro h; rw [if_neg (by omega)]; omega
set_option maxHeartbeats 400000 in
theorem waitingR (w0 : W0) (p : Pl) (S : St) (hl : p.wait.length ≤ 4611686018427387904) (hn : nW p.wait ≤ 4611686018427387904) : ACall Try.prog w0 50 [dP p] S (fun d S' => d = dI (nW p.wait) ∧ S' = S) := by
  refine fnS [] mx Try.func50 rfl rfl (by kernel_rfl) ?_; simp (maxDischargeDepth := 12) (maxSteps := 1000000) -implicitDefEqProofs only [Try.ntmps50, go_sem, Nat.reduceAdd, Nat.reduceSub, Nat.reduceMul, Nat.reduceLeDiff, Nat.reduceEqDiff, Nat.reduceGT, Nat.reduceBEq, reduceCtorEq, ↓reduceIte, Int.reduceToNat, Int.reduceLE, Int.reduceLT, Int.reduceNe, Int.reduceEq]
  intro b
  refine loopN [] p.wait.length [1, 3, 4] (fun k => [(3, dI (nW (p.wait.take k))), (4, dI k)]) (fun _ => ⟨(b.n, [dI p.high, dL p.free, .sl 2 false (p.wait.map dW)]) :: S.box, S.acc⟩) (fun k => True) mx (by kernel_rfl) ?_ ?_
  · simp (maxDischargeDepth := 12) (maxSteps := 1000000) -implicitDefEqProofs only [go_sem, Nat.reduceAdd, Nat.reduceSub, Nat.reduceMul, Nat.reduceLeDiff, Nat.reduceEqDiff, Nat.reduceGT, Nat.reduceBEq, reduceCtorEq, ↓reduceIte, Int.reduceToNat, Int.reduceLE, Int.reduceLT, Int.reduceNe, Int.reduceEq]
    simp [nW]
  · intro k hk hinv
    simp (maxDischargeDepth := 12) (maxSteps := 1000000) -implicitDefEqProofs only [go_sem, Nat.reduceAdd, Nat.reduceSub, Nat.reduceMul, Nat.reduceLeDiff, Nat.reduceEqDiff, Nat.reduceGT, Nat.reduceBEq, reduceCtorEq, ↓reduceIte, Int.reduceToNat, Int.reduceLE, Int.reduceLT, Int.reduceNe, Int.reduceEq]
    refine ⟨fun hlt => ⟨hlt, fun a ha => ?_⟩, fun hge => ?_⟩
    · have h1 := nW_succ ha
      have h2 := nW_le p.wait (k + 1)
      rw [w64 (by omega) (by omega), w64 (by omega) (by omega)]
      omega
    · rw [List.take_of_length_le (by omega)]
end Go.Proofs.Ytkibkahknibgfaa

namespace Aml
open Go Go.RowKit
set_option linter.unusedVariables false
set_option linter.unusedSimpArgs false
section
variable {P : Program} {w0 : W0}
/-- A function, walked: less may be said of its result, and parts of the store are forgotten. -/
theorem fnP (ss : List Nat := []) {f : FuncId} {fn : Func} {c : Code} {rs : List ResultVar} {args : List DV} {S : St} {K : DV → St → Prop} (hm : P.follows .mixedOrders = true) (hf : P.funcs[f]? = some fn) (hb : fn.body = some c) (hrs : fn.results = rs.toArray) (hc : okC ss c = true)
    (h : vw P w0 ss c (args ++ List.replicate (fn.ntmps - args.length) ud) S fun e fr S' => (e = .normal ∨ e = .ret) ∧ resK P fr S' rs fun d => ∃ d' S'', Wk d d' ∧ Sub S'' S' ∧ K d' S'') : ACall P w0 f args S K := by
  have h1 : ACall P w0 f args S (fun d S' => ∃ d' S'', Wk d d' ∧ Sub S'' S' ∧ K d' S'') := acall_of hf hb hrs (vw_sound hm c hc h)
  intro g vs w k1 k2
  refine (h1 g vs w k1 k2).mono ?_
  rintro e w' ⟨v, g', d, S', q1, q2, q3, q4, d', S'', p1, p2, p3⟩
  exact ⟨v, g', d', S'', q1, q2, q3.forget p2.box p2.acc, p1 _ _ q4, p3⟩
/-- Less is said of what a box holds. -/
theorem wkBoxK (b : Nat) (ds' : List DV) {ds : List DV} {c : Code} {fr : List DV} {S : St} {Q : Exit → List DV → St → Prop} (hb : lk S.box b = some ds) (hw : WkL ds ds') (h : AWp P w0 c fr ⟨up S.box b ds', S.acc⟩ Q) : AWp P w0 c fr S Q :=
  fun g a w h1 h2 h3 => h g a w (h1.wkBox hb fun _ _ _ r => hw.spec r) h2 h3
end
end Aml
