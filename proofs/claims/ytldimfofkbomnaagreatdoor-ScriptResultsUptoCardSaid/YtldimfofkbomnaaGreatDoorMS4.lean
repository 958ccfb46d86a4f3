/-
  Reckoning over statements whose order is open; The rules as they are used: functions, loops; plain values; wraps; Statements whose order is open but for their end: what writes comes behind all that reads; Which parts of the walk's words the reckoning may enter: what comes behind a step is entered when the step is done; The walk by reckoning, whole; functions and loops; Less is said of a value than is known: at calls, at results, at loops; More forms of functions. By an AI agent.
-/
import Derived.Test.YtldimfofkbomnaaGreatDoorMS3
set_option linter.unusedVariables false
set_option linter.unusedSimpArgs false
set_option maxRecDepth 100000
set_option maxHeartbeats 16000000
namespace Aml
open Go Go.RowKit
section
variable {P : Program} {w0 : W0} {S : St} {K : DV → Prop}
theorem det_pick {c a b : DV} (h : vPick c a b K) : ∃ d, vPick c a b (· = d) ∧ K d := by
 unfold vPick at *
 split at h
 ·rename_i t
  cases t
  ·exact ⟨b, ⟨by simp, fun _ => rfl⟩, h.2 rfl⟩
  ·exact ⟨a, ⟨fun _ => rfl, by simp⟩, h.1 rfl⟩
 ·exact h.elim
theorem det_hd {ds : List DV} (h : hdK ds K) : ∃ d, hdK ds (· = d) ∧ K d := by
 unfold hdK at *
 split at h
 ·exact ⟨_, rfl, h⟩
 ·exact h.elim
theorem det_ld {k : TK} {ds : List DV} (h : ldK k ds K) : ∃ d, ldK k ds (· = d) ∧ K d := by
 unfold ldK at *
 split at h
 ·exact ⟨_, ⟨h.1, rfl⟩, h.2⟩
 ·exact ⟨_, ⟨h.1, rfl⟩, h.2⟩
 ·exact h.elim
 ·exact det_hd h
theorem det_load {k : TK} {x : DV} (h : vLoad k S x K) : ∃ d, vLoad k S x (· = d) ∧ K d := by
 unfold vLoad at *
 split at h
 ·split at h
  ·rename_i hb; (try simp only [hb]); exact det_ld h
  ·exact h.elim
 ·exact det_ld h
 ·split at h
  ·rename_i hb
   obtain ⟨h1, h2, d, h3, h4, h5⟩ := h
   obtain ⟨e, q1, q2⟩ := det_ld h5
   exact ⟨e, by first | exact ⟨h1, h2, d, h3, h4, q1⟩ | (simp only [hb]; exact ⟨h1, h2, d, h3, h4, q1⟩), q2⟩
  ·rename_i hb
   obtain ⟨h1, h2, d, h3, h4, h5⟩ := h
   obtain ⟨e, q1, q2⟩ := det_ld h5
   exact ⟨e, by first | exact ⟨h1, h2, d, h3, h4, q1⟩ | (simp only [hb]; exact ⟨h1, h2, d, h3, h4, q1⟩), q2⟩
  ·exact h.elim
 ·exact h.elim
theorem det_field {k : TK} {f : Nat} {x : DV} (h : vField k f x K) : ∃ d, vField k f x (· = d) ∧ K d := by
 unfold vField at *
 split at h
 ·split at h
  ·rename_i hf
   try simp only [hf]
   obtain ⟨h1, h⟩ := h
   split at h
   ·exact ⟨_, ⟨h1, rfl⟩, h⟩
   ·exact ⟨_, ⟨h1, h.1, rfl⟩, h.2⟩
   ·exact ⟨_, ⟨h1, rfl⟩, h⟩
   ·exact h.elim
  ·exact h.elim
 ·exact h.elim
theorem det_indexAddr {k : TK} {x i : DV} (h : vIndexAddr k x i K) : ∃ d, vIndexAddr k x i (· = d) ∧ K d := by
 unfold vIndexAddr at *
 split at h
 ·split at h
  ·obtain ⟨h1, h2, h3, h4⟩ := h
   rename_i z _ _ _ xs
   have hlt : z.toNat < xs.length := by omega
   obtain ⟨h5, h6⟩ := h4 _ (List.getElem?_eq_getElem hlt)
   exact ⟨_, ⟨h1, h2, h3, fun d hd => by rw [List.getElem?_eq_getElem hlt] at hd; cases hd; exact ⟨h5, rfl⟩⟩, h6⟩
  ·exact ⟨_, ⟨h.1, h.2.1, rfl⟩, h.2.2⟩
  ·exact ⟨_, ⟨h.1, h.2.1, rfl⟩, h.2.2⟩
  ·exact h.elim
 ·obtain ⟨h1, h2, h3, h4⟩ := h
  split at h4
  ·exact ⟨_, ⟨h1, h2, h3, rfl⟩, h4⟩
  ·exact ⟨_, ⟨h1, h2, h3, h4.1, rfl⟩, h4.2⟩
  ·exact h4.elim
 ·exact h.elim
theorem det_evG {w0 : W0} {fr : List DV} {x : Operand} {k : TK} {i : DV} (h : evG w0 fr x fun d => vIndexAddr k d i K) : ∃ d, (evG w0 fr x fun d' => vIndexAddr k d' i (· = d)) ∧ K d := by
 cases x with
 | global b =>
  obtain ⟨us, hg, h⟩ := h
  obtain ⟨d, q1, q2⟩ := det_indexAddr h
  exact ⟨d, ⟨us, hg, q1⟩, q2⟩
 | tmp n => exact det_indexAddr (x := ev fr (.tmp n)) h
 | const u => exact det_indexAddr (x := ev fr (.const u)) h
 | func f => exact det_indexAddr (x := ev fr (.func f)) h
theorem det_index {k : TK} {x i : DV} (h : vIndex k x i K) : ∃ d, vIndex k x i (· = d) ∧ K d := by
 unfold vIndex at *
 split at h
 ·obtain ⟨h1, h2, h3⟩ := h
  rename_i s _ z
  have hlt : z.toNat < s.data.toList.length := by simp; have : s.data.size = s.size := rfl; omega
  exact ⟨_, ⟨h1, h2, fun d hd => by rw [List.getElem?_eq_getElem hlt] at hd; cases hd; rfl⟩, h3 _ (List.getElem?_eq_getElem hlt)⟩
 ·exact h.elim
theorem det_fieldV {k : TK} {f : Nat} {x : DV} (h : vFieldV k f x K) : ∃ d, vFieldV k f x (· = d) ∧ K d := by
 unfold vFieldV at *
 split at h
 ·split at h
  ·rename_i hf
   try simp only [hf]
   split at h
   ·obtain ⟨h1, h⟩ := h
    split at h
    ·exact ⟨_, ⟨h1, rfl⟩, h⟩
    ·split at h
     ·rename_i hd; (try simp only [hd]); exact ⟨_, ⟨h1, rfl⟩, h⟩
     ·exact h.elim
   ·exact h.elim
  ·exact h.elim
 ·exact h.elim
theorem det_extract {i : Nat} {x : DV} (h : vExtract i x K) : ∃ d, vExtract i x (· = d) ∧ K d := by
 unfold vExtract at *
 split at h
 ·split at h
  ·rename_i hd; (try simp only [hd]); exact ⟨_, rfl, h⟩
  ·exact h.elim
 ·exact h.elim
theorem det_binI {op : BinOp} {k : IntKind} {m n : Int} (h : vBinI op k m n K) : ∃ d, vBinI op k m n (· = d) ∧ K d := by
 cases op <;> simp only [vBinI] at h ⊢ <;> first | exact ⟨_, rfl, h⟩ | exact ⟨_, ⟨h.1, rfl⟩, h.2⟩
theorem det_binS {op : BinOp} {x y : ByteArray} (h : vBinS op x y K) : ∃ d, vBinS op x y (· = d) ∧ K d := by
 cases op <;> simp only [vBinS] at h ⊢ <;> first | exact ⟨_, rfl, h⟩ | exact ⟨_, ⟨h.1, rfl⟩, h.2⟩
theorem det_bin {op : BinOp} {t : TK} {cx cy : Bool} {x y : DV} (h : vBin op t cx cy x y K) : ∃ d, vBin op t cx cy x y (· = d) ∧ K d := by
 unfold vBin at *
 split at h
 ·obtain ⟨d, q1, q2⟩ := det_binI h.2
  exact ⟨d, ⟨h.1, q1⟩, q2⟩
 ·exact det_binS h
 ·split at h <;> first | exact ⟨_, rfl, h⟩ | exact h.elim
 ·split at h <;> first | exact ⟨_, ⟨h.1, rfl⟩, h.2⟩ | exact h.elim
 ·split at h <;> first | exact ⟨_, rfl, h⟩ | exact h.elim
 ·split at h <;> first | exact ⟨_, rfl, h⟩ | exact h.elim
 ·split at h <;> first | exact ⟨_, ⟨h.1, rfl⟩, h.2⟩ | exact h.elim
 ·exact h.elim
theorem det_binA {op : BinOp} {t : TypeId} {cx cy : Bool} {x y : DV} (h : vBinA P op t cx cy x y K) : ∃ d, vBinA P op t cx cy x y (· = d) ∧ K d := by
 unfold vBinA at *
 split at h
 ·unfold vAggEq at *
  split at h
  ·rename_i he
   obtain ⟨q, q1, q2⟩ := aggK_det h
   exact ⟨_, aggK_mono (fun r e => by rw [e]) q1, q2⟩
  ·rename_i he
   obtain ⟨q, q1, q2⟩ := aggK_det h
   exact ⟨_, aggK_mono (fun r e => by rw [e]) q1, q2⟩
  ·exact h.elim
 ·exact det_bin h
theorem det_un {op : UnOp} {x : DV} (h : vUn op x K) : ∃ d, vUn op x (· = d) ∧ K d := by
 unfold vUn at *
 split at h <;> first | exact ⟨_, rfl, h⟩ | exact h.elim
theorem det_conv {a b : TK} {x : DV} (h : vConv a b x K) : ∃ d, vConv a b x (· = d) ∧ K d := by
 unfold vConv at *
 split at h <;> first | exact ⟨_, rfl, h⟩ | exact h.elim
theorem det_func {fn : Fn} {a b : List DV} (h : vFunc fn a b K) : ∃ d, vFunc fn a b (· = d) ∧ K d := by
 unfold vFunc at *
 split at h <;> first | exact ⟨_, rfl, h⟩ | exact h.elim
theorem det_bnd {x : Option DV} {z : Int} {F : (DV → Prop) → Int → Prop} (hF : ∀ n, F K n → ∃ d, F (· = d) n ∧ K d) (h : bnd x z (F K)) : ∃ d, bnd x z (F (· = d)) ∧ K d := by
 unfold bnd at *
 split at h <;> first | exact hF _ h | exact h.elim
theorem det_slice {k : TK} {x : DV} {lo hi mx : Option DV} (h : vSlice k x lo hi mx K) : ∃ d, vSlice k x lo hi mx (· = d) ∧ K d := by
 unfold vSlice at *
 split at h
 ·obtain ⟨h1, h⟩ := h
  rename_i e s b s' f xs
  obtain ⟨d, q1, q2⟩ := det_bnd (F := fun K l => bnd hi xs.length fun h => bnd mx h fun m => 0 ≤ l ∧ l ≤ h ∧ h ≤ m ∧ m ≤ xs.length ∧
   K (.sl s (if mx.isSome then decide (m = h) else (f && (hi.isNone || xs.isEmpty))) ((xs.take h.toNat).drop l.toNat))) (fun l h => det_bnd (F := fun K h => bnd mx h fun m => 0 ≤ l ∧ l ≤ h ∧ h ≤ m ∧ m ≤ xs.length ∧
   K (.sl s (if mx.isSome then decide (m = h) else (f && (hi.isNone || xs.isEmpty))) ((xs.take h.toNat).drop l.toNat))) (fun hh h => det_bnd (F := fun K m => 0 ≤ l ∧ l ≤ hh ∧ hh ≤ m ∧ m ≤ xs.length ∧
   K (.sl s (if mx.isSome then decide (m = hh) else (f && (hi.isNone || xs.isEmpty))) ((xs.take hh.toNat).drop l.toNat))) (fun m h => ⟨_, ⟨h.1, h.2.1, h.2.2.1, h.2.2.2.1, rfl⟩, h.2.2.2.2⟩) h) h) h
  exact ⟨d, ⟨h1, q1⟩, q2⟩
 ·obtain ⟨h1, h⟩ := h
  rename_i s
  obtain ⟨d, q1, q2⟩ := det_bnd (F := fun K l => bnd hi s.size fun h => 0 ≤ l ∧ l ≤ h ∧ h ≤ s.size ∧ K (.v (.string (s.extract l.toNat h.toNat)))) (fun l h => det_bnd (F := fun K h => 0 ≤ l ∧ l ≤ h ∧ h ≤ s.size ∧ K (.v (.string (s.extract l.toNat h.toNat))))
   (fun hh h => ⟨_, ⟨h.1, h.2.1, h.2.2.1, rfl⟩, h.2.2.2⟩) h) h
  exact ⟨d, ⟨h1, q1⟩, q2⟩
 ·rename_i e s by' b o n c
  exact det_bnd (F := fun K l => bnd hi n fun h => bnd mx c fun m => 0 ≤ l ∧ l ≤ h ∧ h ≤ m ∧ m ≤ c ∧
   K (.v (.slice (some ⟨b, if m.toNat = l.toNat then o else o + l.toNat * s, none⟩) (h.toNat - l.toNat) (m.toNat - l.toNat)))) (fun l h => det_bnd (F := fun K h => bnd mx c fun m => 0 ≤ l ∧ l ≤ h ∧ h ≤ m ∧ m ≤ c ∧
   K (.v (.slice (some ⟨b, if m.toNat = l.toNat then o else o + l.toNat * s, none⟩) (h.toNat - l.toNat) (m.toNat - l.toNat)))) (fun hh h => det_bnd (F := fun K m => 0 ≤ l ∧ l ≤ hh ∧ hh ≤ m ∧ m ≤ c ∧
   K (.v (.slice (some ⟨b, if m.toNat = l.toNat then o else o + l.toNat * s, none⟩) (hh.toNat - l.toNat) (m.toNat - l.toNat)))) (fun m h => ⟨_, ⟨h.1, h.2.1, h.2.2.1, h.2.2.2.1, rfl⟩, h.2.2.2.2⟩) h) h) h
 ·obtain ⟨h1, h⟩ := h
  rename_i n e s ag nn b o
  obtain ⟨d, q1, q2⟩ := det_bnd (F := fun K l => bnd hi n fun h => bnd mx n fun m => 0 ≤ l ∧ l ≤ h ∧ h ≤ m ∧ m ≤ n ∧
   K (.v (.slice (some ⟨b, if m.toNat = l.toNat then o else o + l.toNat * s, none⟩) (h.toNat - l.toNat) (m.toNat - l.toNat)))) (fun l h => det_bnd (F := fun K h => bnd mx n fun m => 0 ≤ l ∧ l ≤ h ∧ h ≤ m ∧ m ≤ n ∧
   K (.v (.slice (some ⟨b, if m.toNat = l.toNat then o else o + l.toNat * s, none⟩) (h.toNat - l.toNat) (m.toNat - l.toNat)))) (fun hh h => det_bnd (F := fun K m => 0 ≤ l ∧ l ≤ hh ∧ hh ≤ m ∧ m ≤ n ∧
   K (.v (.slice (some ⟨b, if m.toNat = l.toNat then o else o + l.toNat * s, none⟩) (hh.toNat - l.toNat) (m.toNat - l.toNat)))) (fun m h => ⟨_, ⟨h.1, h.2.1, h.2.2.1, h.2.2.2.1, rfl⟩, h.2.2.2.2⟩) h) h) h
  exact ⟨d, ⟨h1, q1⟩, q2⟩
 ·exact h.elim
theorem det_len {k : TK} {x : DV} (h : vLen k x K) : ∃ d, vLen k x (· = d) ∧ K d := by
 unfold vLen at *
 split at h <;> first | exact ⟨_, rfl, h⟩ | exact h.elim
theorem det_cap {k : TK} {x : DV} (h : vCap k x K) : ∃ d, vCap k x (· = d) ∧ K d := by
 unfold vCap at *
 split at h <;> first | exact ⟨_, rfl, h⟩ | exact h.elim
theorem det_min {x y : DV} (h : vMin x y K) : ∃ d, vMin x y (· = d) ∧ K d := by
 unfold vMin at *
 split at h <;> first | exact ⟨_, rfl, h⟩ | exact h.elim
theorem det_max {x y : DV} (h : vMax x y K) : ∃ d, vMax x y (· = d) ∧ K d := by
 unfold vMax at *
 split at h <;> first | exact ⟨_, rfl, h⟩ | exact h.elim
theorem det_build {t : TypeId} {parts : List (Nat × DV)} (h : vBuild P t parts K) : ∃ d, vBuild P t parts (· = d) ∧ K d := by
 unfold vBuild at *
 split at h
 ·split at h
  ·rename_i hf; (try simp only [hf]); exact ⟨_, rfl, h⟩
  ·exact h.elim
 ·exact h.elim
theorem det_buildSlice {k : TK} {z : DV} {len : Nat} {parts : List (Nat × DV)} (h : vBuildSlice k z len parts K) : ∃ d, vBuildSlice k z len parts (· = d) ∧ K d := by
 unfold vBuildSlice at *
 split at h
 ·obtain ⟨h1, h2, h3, h⟩ := h
  split at h
  ·rename_i hf; (try simp only [hf]); exact ⟨_, ⟨h1, h2, h3, rfl⟩, h⟩
  ·exact h.elim
 ·exact h.elim
def nacc : DV → Bool
 | .acc _ _ => false
 | _ => true
def naccA : DV → Bool
 | .agg ds => ds.all nacc
 | d => nacc d
theorem shr1_id {K : DV → St → Prop} {d : DV} (hd : nacc d = true) (h : K d S) : shr1 S d K := by
 cases d <;> first | (cases hd; done) | exact h
theorem sliceX_id {K : DV → St → Prop} {k : TK} {x : DV} {lo hi mx : Option DV} (hx : nacc x = true) (h : vSliceS k S x lo hi mx K) : vSliceX k S x lo hi mx K := by
 cases x <;> first | (cases hx; done) | exact h
theorem shr1s_id : ∀ {ds : List DV} {K : List DV → St → Prop}, ds.all nacc = true → K ds S → shr1s S ds K
 | [], K, _, h => h
 | d :: ds, K, hd, h => by
  simp only [List.all_cons, Bool.and_eq_true] at hd
  exact shr1_id hd.1 (shr1s_id hd.2 h)
theorem shr_id {K : DV → St → Prop} {d : DV} (hd : naccA d = true) (h : K d S) : shr S d K := by
 cases d with
 | agg ds => exact shr1s_id hd h
 | acc l n => cases hd
 | _ => exact h
theorem shrs_id : ∀ {ds : List DV} {K : List DV → St → Prop}, ds.all naccA = true → K ds S → shrs S ds K
 | [], K, _, h => h
 | d :: ds, K, hd, h => by
  simp only [List.all_cons, Bool.and_eq_true] at hd
  exact shr_id hd.1 (shrs_id hd.2 h)
theorem callK_id {ds : List DV} {F : List DV → St → Prop} (hd : ds.all naccA = true) (h : F ds S) : callK S ds F := by
 unfold callK
 split
 ·exact .inl h
 ·exact shrs_id hd h
def vCallQ (P : Program) (w0 : W0) (cal : DV) (ds : List DV) (S : St) (K : DV → Prop) : Prop := match cal with
 | .v (.func (.func f) a cap) => a.size = 0 ∧ okF P f = true ∧ cap.toList.all (fun u => u.oneCell') = true ∧ ds.all naccA = true ∧ ∃ d, ACall P w0 f (ds ++ cap.toList.map .v) S (fun d' S' => d' = d ∧ S' = S) ∧ K d
 | _ => False
theorem det_lookup {m : Option (KK × DV)} {S : St} {x y : DV} {ok : Bool} {K : DV → Prop} (h : vLookup m S x y ok K) : ∃ d, vLookup m S x y ok (· = d) ∧ K d := by
 unfold vLookup at *
 cases m with
 | none => exact h.elim
 | some p =>
  simp only [oK] at h ⊢
  obtain ⟨h0, h⟩ := h
  cases hk : kVal y with
  | none => rw [hk] at h; exact h.elim
  | some k =>
   rw [hk] at h
   simp only at h ⊢
   obtain ⟨h1, h⟩ := h
   split at h
   ·exact ⟨_, ⟨h0, h1, rfl⟩, h⟩
   ·split at h
    ·obtain ⟨h2, h⟩ := h
     cases hg : mGet _ k with
     | none => rw [hg] at h; exact ⟨_, ⟨h0, h1, h2, rfl⟩, h⟩
     | some d => rw [hg] at h; exact ⟨_, ⟨h0, h1, h2, rfl⟩, h⟩
    ·exact h.elim
   ·exact h.elim
def vcOpQ (P : Program) (w0 : W0) (op : Op) (fr : List DV) (S : St) (K : DV → Prop) : Prop := match op with
 | .move x => K (ev fr x)
 | .assign x => K (ev fr x)
 | .pick c a b => vPick (ev fr c) (ev fr a) (ev fr b) K
 | .load t x => vLoad (tk P t) S (ev fr x) K
 | .fieldAddr t x f => vField (tk P t) f (ev fr x) K
 | .indexAddr t x i => evG w0 fr x fun d => vIndexAddr (tk P t) d (ev fr i) K
 | .index t x i => vIndex (tk P t) (ev fr x) (ev fr i) K
 | .field t x f => vFieldV (tk P t) f (ev fr x) K
 | .extract x i => vExtract i (ev fr x) K
 | .nilCheck x => notNil (ev fr x) = true ∧ K (ev fr x)
 | .binOp b t x y _ => isNilC y = false ∧ vBinA P b t (isC x) (isC y) (ev fr x) (ev fr y) K
 | .unOp b _ x => vUn b (ev fr x) K
 | .convert s d x => vConv (tk P s) (tk P d) (ev fr x) K
 | .makeInterface t x => isIfc (tk P t) = false ∧ naccA (ev fr x) = true ∧ K (.ifc t (ev fr x))
 | .makeFunc fn a b => vFunc fn (a.toList.map (ev fr)) (b.toList.map (ev fr)) K
 | .slice t x lo hi mx => (mx.isSome = true → hi.isSome = true) ∧ nacc (ev fr x) = true ∧ vSlice (tk P t) (ev fr x) (lo.map (ev fr)) (hi.map (ev fr)) (mx.map (ev fr)) K
 | .build t parts => (parts.toList.map fun p => ev fr p.2).all naccA = true ∧ vBuild P t ((parts.toList.map (·.1)).zip (parts.toList.map fun p => ev fr p.2)) K
 | .buildSlice t len parts => (parts.toList.map fun p => ev fr p.2).all naccA = true ∧ vBuildSlice (tk P t) (zD P (elT P t)) len ((parts.toList.map (·.1)).zip (parts.toList.map fun p => ev fr p.2)) K
 | .lookup t x y ok => vLookup (mpT P t) S (ev fr x) (ev fr y) ok K
 | .call c => match c.callee with
  | .builtin .len => (match c.args.toList, c.argTypes.toList with
   | [x], [t] => vLen (tk P t) (ev fr x) K
   | _, _ => False)
  | .builtin .cap => (match c.args.toList, c.argTypes.toList with
   | [x], [t] => vCap (tk P t) (ev fr x) K
   | _, _ => False)
  | .builtin .min => (match c.args.toList with
   | [x, y] => vMin (ev fr x) (ev fr y) K
   | _ => False)
  | .builtin .max => (match c.args.toList with
   | [x, y] => vMax (ev fr x) (ev fr y) K
   | _ => False)
  | .value cal => vCallQ P w0 (ev fr cal) (c.args.toList.map (ev fr)) S K
  | .invoke r name => vInv P (ev fr r) name fun f d => vCallQ P w0 (.v (.func (.func f) #[] #[])) (d :: c.args.toList.map (ev fr)) S K
  | _ => False
 | _ => False
theorem vcOpQ_sound {o : Oper} {fr : List DV} (hs : okSl o.op = true) (h : vcOpQ P w0 o.op fr S K) : ∃ d, QY P w0 S o fr d ∧ K d := by
 have fin : ∀ {d : DV}, vcOp P w0 o.op fr S (fun d' S' => d' = d ∧ S' = S) → K d → ∃ d, QY P w0 S o fr d ∧ K d := fun h1 h2 => ⟨_, vcOp_sound hs h1, h2⟩
 cases hop : o.op with
 | move x => rw [hop] at h; exact fin (by rw [hop]; exact ⟨rfl, rfl⟩) h
 | assign x => rw [hop] at h; exact fin (by rw [hop]; exact ⟨rfl, rfl⟩) h
 | pick c a b => rw [hop] at h; obtain ⟨d, q1, q2⟩ := det_pick h; exact fin (by rw [hop]; simpa [vcOp] using q1) q2
 | load t x => rw [hop] at h; obtain ⟨d, q1, q2⟩ := det_load h; exact fin (by rw [hop]; simpa [vcOp] using q1) q2
 | fieldAddr t x f => rw [hop] at h; obtain ⟨d, q1, q2⟩ := det_field h; exact fin (by rw [hop]; simpa [vcOp] using q1) q2
 | indexAddr t x i =>
  rw [hop] at h
  cases x with
  | global b =>
   obtain ⟨us, hg, h⟩ := (show globK w0 b fun d => vIndexAddr (tk P t) d (ev fr i) K from h)
   obtain ⟨d, q1, q2⟩ := det_indexAddr h
   exact fin (by rw [hop]; exact ⟨us, hg, by simpa using q1⟩) q2
  | tmp n => obtain ⟨d, q1, q2⟩ := det_indexAddr (show vIndexAddr (tk P t) (ev fr (.tmp n)) (ev fr i) K from h); exact fin (by rw [hop]; simpa [vcOp, evG] using q1) q2
  | const u => obtain ⟨d, q1, q2⟩ := det_indexAddr (show vIndexAddr (tk P t) (ev fr (.const u)) (ev fr i) K from h); exact fin (by rw [hop]; simpa [vcOp, evG] using q1) q2
  | func f => obtain ⟨d, q1, q2⟩ := det_indexAddr (show vIndexAddr (tk P t) (ev fr (.func f)) (ev fr i) K from h); exact fin (by rw [hop]; simpa [vcOp, evG] using q1) q2
 | index t x i => rw [hop] at h; obtain ⟨d, q1, q2⟩ := det_index h; exact fin (by rw [hop]; simpa [vcOp] using q1) q2
 | field t x f => rw [hop] at h; obtain ⟨d, q1, q2⟩ := det_fieldV h; exact fin (by rw [hop]; simpa [vcOp] using q1) q2
 | extract x i => rw [hop] at h; obtain ⟨d, q1, q2⟩ := det_extract h; exact fin (by rw [hop]; simpa [vcOp] using q1) q2
 | nilCheck x => rw [hop] at h; exact fin (by rw [hop]; exact ⟨h.1, rfl, rfl⟩) h.2
 | binOp b t x y t' => rw [hop] at h; obtain ⟨d, q1, q2⟩ := det_binA h.2; exact fin (by rw [hop]; simp only [vcOp, h.1]; simpa using q1) q2
 | unOp b t x => rw [hop] at h; obtain ⟨d, q1, q2⟩ := det_un h; exact fin (by rw [hop]; simpa [vcOp] using q1) q2
 | convert s d x => rw [hop] at h; obtain ⟨d', q1, q2⟩ := det_conv h; exact fin (by rw [hop]; simpa [vcOp] using vConvS_of (ke := tk P (elT P s)) (kb := tk P (elT P d)) (S := S) q1) q2
 | makeInterface t x => rw [hop] at h; exact fin (by rw [hop]; exact ⟨h.1, shr_id h.2.1 ⟨rfl, rfl⟩⟩) h.2.2
 | makeFunc fn a b => rw [hop] at h; obtain ⟨d, q1, q2⟩ := det_func h; exact fin (by rw [hop]; simpa [vcOp] using q1) q2
 | slice t x lo hi mx => rw [hop] at h; obtain ⟨d, q1, q2⟩ := det_slice h.2.2; exact fin (by rw [hop]; exact ⟨h.1, sliceX_id h.2.1 (shr1_id h.2.1 (by simpa using q1))⟩) q2
 | lookup t x y ok => rw [hop] at h; obtain ⟨d, q1, q2⟩ := det_lookup h; exact fin (by rw [hop]; simpa [vcOp] using q1) q2
 | build t parts => rw [hop] at h; obtain ⟨d, q1, q2⟩ := det_build h.2; exact fin (by rw [hop]; exact shrs_id h.1 (by simpa using q1)) q2
 | buildSlice t len parts => rw [hop] at h; obtain ⟨d, q1, q2⟩ := det_buildSlice h.2; exact fin (by rw [hop]; exact shrs_id h.1 (by simpa using q1)) q2
 | call c =>
  rw [hop] at h
  obtain ⟨callee, args, ts⟩ := c
  simp only [vcOpQ] at h
  split at h
  ·split at h
   ·rename_i x t e1 e2
    obtain ⟨d, q1, q2⟩ := det_len h
    exact fin (by rw [hop]; simp only [vcOp, e1, e2]; simpa using q1) q2
   ·exact h.elim
  ·split at h
   ·rename_i x t e1 e2
    obtain ⟨d, q1, q2⟩ := det_cap h
    exact fin (by rw [hop]; simp only [vcOp, e1, e2]; simpa using q1) q2
   ·exact h.elim
  ·split at h
   ·rename_i x y e1
    obtain ⟨d, q1, q2⟩ := det_min h
    exact fin (by rw [hop]; simp only [vcOp, e1]; simpa using q1) q2
   ·exact h.elim
  ·split at h
   ·rename_i x y e1
    obtain ⟨d, q1, q2⟩ := det_max h
    exact fin (by rw [hop]; simp only [vcOp, e1]; simpa using q1) q2
   ·exact h.elim
  ·rename_i cal
   unfold vCallQ at h
   split at h
   ·rename_i f a cap hcal
    obtain ⟨h1, h2, h3, h4, d, h5, h6⟩ := h
    exact fin (by rw [hop]; simp only [vcOp, hcal]; exact vCall_of h1 h3 (by rw [h2, gX_t]; exact callK_id h4 h5)) h6
   ·exact h.elim
  ·rename_i r name
   unfold vInv at h
   split at h
   ·rename_i t hx
    split at h
    ·rename_i f hi
     obtain ⟨hf, _, h2, h3, h4, d, h5, h6⟩ := h
     have h5' : ACall P w0 f (.agg [] :: args.toList.map (ev fr)) S (fun d' S' => d' = d ∧ S' = S) := by simpa using h5
     exact fin (by rw [hop]; simp only [vcOp, vInv, hx, hi]; exact ⟨hf, callK_id h4 h5'⟩) h6
    ·exact h.elim
   ·exact h.elim
  ·exact h.elim
 | _ => rw [hop] at h; exact h.elim
end
end Aml
namespace Aml
open Go Go.RowKit
def dI (n : Int) : DV := .v (.int .i64 n)
def dB (b : Bool) : DV := .v (.bool b)
def dS (s : ByteArray) : DV := .v (.string s)
theorem wu64 {n : Int} (h0 : 0 ≤ n) (h1 : n ≤ 18446744073709551615) : IntKind.u64.wrap n = n := by
 show n % 18446744073709551616 = n
 omega
theorem wu8 {n : Int} (h0 : 0 ≤ n) (h1 : n ≤ 255) : IntKind.u8.wrap n = n := by
 show n % 256 = n
 omega
section
variable {P : Program} {w0 : W0}
end
end Aml
namespace Aml
open Go Go.RowKit
def isQ : Op → Bool
 | .store .. | .box .. | .alloc .. | .makeSlice .. | .mapUpdate .. | .makeMap .. => false
 | .call c => match c.callee with
  | .builtin .append | .builtin .clear | .builtin .delete | .builtin .copy => false
  | _ => true
 | _ => true
def reachB (md : Region.Mode) (ops : Array Oper) : Nat → Nat → Nat → Bool
 | 0, _, _ => false
 | n + 1, k, i => match ops[k]? with
  | none => false
  | some o => o.after.any fun e => Region.binds md e && (e.on == i || reachB md ops n e.on i)
def backB (md : Region.Mode) (ops : Array Oper) : Bool := (List.range ops.size).all fun k => match ops[k]? with
 | none => true
 | some o => o.after.all fun e => !Region.binds md e || decide (e.on < k)
def tailB (md : Region.Mode) (ops : Array Oper) (n : Nat) : Bool := backB md ops &&
 ((List.range ops.size).all fun k => decide (k < n) || (List.range k).all fun i => reachB md ops ops.size k i) &&
 (ops.toList.take n).all fun o => match o.guard with | none => true | some (j, _) => decide (j < n)
section
variable {P : Program} {w0 : W0} {ops : Array Oper} {md : Region.Mode}
theorem back_spec (h : backB md ops = true) {k : Nat} {o : Oper} (hk : ops[k]? = some o) : ∀ e ∈ o.after, Region.binds md e = true → e.on < k := by
 intro e he hb
 have hlt : k < ops.size := (Array.getElem?_eq_some_iff.1 hk).1
 have := List.all_eq_true.1 h k (List.mem_range.2 hlt)
 simp only [hk] at this
 have := Array.all_eq_true'.1 this e he
 simpa [hb] using this
def Clo (md : Region.Mode) (ops : Array Oper) (L : Array Bool) : Prop := ∀ (j : Nat) (o : Oper), ops[j]? = some o → L[j]? = some true → ∀ e ∈ o.after, Region.binds md e = true → L[e.on]? = some true
theorem reach_listed {L : Array Bool} (hc : Clo md ops L) : ∀ (n k i : Nat) (o : Oper), ops[k]? = some o → (∀ e ∈ o.after, Region.binds md e = true → L[e.on]? = some true) → reachB md ops n k i = true → L[i]? = some true
 | 0, _, _, _, _, _, h => by cases h
 | n + 1, k, i, o, hk, ha, h => by
  simp only [reachB, hk] at h
  obtain ⟨e, he, h⟩ := Array.any_eq_true'.1 h
  simp only [Bool.and_eq_true, Bool.or_eq_true, beq_iff_eq] at h
  rcases h.2 with h' | h'
  ·rw [← h']; exact ha e he h.1
  ·have hl := ha e he h.1
   cases ho : ops[e.on]? with
   | none => cases n <;> simp [reachB, ho] at h'
   | some o' => exact reach_listed hc n e.on i o' ho (hc e.on o' ho hl) h'
theorem getD_false {L : Array Bool} {i : Nat} : L.getD i false = true ↔ L[i]? = some true := by
 rw [Array.getD_eq_getD_getElem?]
 cases L[i]? <;> simp
theorem getD_true {L : Array Bool} {i : Nat} : L.getD i true = false ↔ L[i]? = some false := by
 rw [Array.getD_eq_getD_getElem?]
 cases L[i]? <;> simp
theorem step_op {ro : Option Nat} {g0 g : Gh} {Q : Exit → List DV → St → Prop} {o : Oper} {fr : List DV} {S : St} {a : Act} {w : World} {K : List DV → St → Prop} {K' : Act → World → Prop} (k : g0.le g) (h1 : Rel w0 g S w) (h2 : RepL g fr a.tmps.toList) (h3 : Dk w0 g.obj a w)
  (hK : ∀ fr S g a w, g0.le g → Rel w0 g S w → RepL g fr a.tmps.toList → Dk w0 g.obj a w → K fr S → K' a w)
  (h : guardK ops fr o.guard (fun fr => YieldsE P w0 o (ev fr) S fun d S' => K (pt fr o.dst d) S') (fun fr => K (pt fr o.dst ud) S)) {i : Nat} (hi : ops[i]? = some o) :
  wpOpIn (fz ro) 0 P ops (Good w0 g0 Q) i K' a w := by
 unfold wpOpIn
 simp only [hi]
 rcases guard_sound h2 h with ⟨hw, fr', h2', hA⟩ | ⟨hw, fr', h2', hB⟩
 ·rw [if_pos hw]
  refine wpIn_of_yields hA h1 (fun x _ => rep_ev h2' x) h3 fun g' d u S' w' k1 k2 k3 k4 k5 => ?_
  exact hK _ _ g' _ _ (k.trans k1) k2 (repL_put (h2'.mono k1) _ k3) (k1.dk k5) k4
 ·rw [if_neg (by simp [hw])]
  exact ⟨fun _ _ => trivial, hK _ _ g _ _ k h1 (repL_put h2' _ (rep_ud g)) (h3.keep (put_defers _ _ _) fun _ _ h _ => h) hB⟩
theorem LQ_mono {S : St} {K K' : List DV → Prop} (hk : ∀ fr, K fr → K' fr) : ∀ {l : List Oper} {fr : List DV}, LQ P w0 S ops K l fr → LQ P w0 S ops K' l fr
 | [], fr, h => hk _ h
 | o :: rest, fr, h => guardK_mono (fun fr ⟨d, q1, q2⟩ => ⟨d, q1, LQ_mono hk q2⟩) (fun fr h => LQ_mono hk h) h
theorem wpAny_tail {ro : Option Nat} {g0 : Gh} {Q : Exit → List DV → St → Prop} {n : Nat} (hB : tailB md ops n = true) : ∀ (l : List Oper) (k fuel : Nat) (L : Array Bool) (fr : List DV) (S : St) (g : Gh) (a : Act) (w : World),
  (∀ j, l[j]? = ops[k + j]?) → n ≤ k → k ≤ ops.size → l.length ≤ fuel → L.size = ops.size → (∀ i, i < k → L[i]? = some true) → (∀ i, k ≤ i → i < ops.size → L[i]? = some false) → g0.le g → Rel w0 g S w → RepL g fr a.tmps.toList → Dk w0 g.obj a w →
  LWp P w0 ops (fun fr S => Q .normal fr S) l fr S → wpAnyIn (fz ro) 0 P md ops (Good w0 g0 Q) fuel L a w := by
 simp only [tailB, Bool.and_eq_true] at hB
 obtain ⟨⟨hb, ha⟩, -⟩ := hB
 have none_ready : ∀ (k : Nat) (L : Array Bool), ops.size ≤ k → L.size = ops.size → (∀ i, i < k → L[i]? = some true ∨ ops.size ≤ i) → ∀ i, i ∉ Region.ready md ops L := by
  intro k L hk hs hl i hi
  obtain ⟨h1, o, ho, _⟩ := mem_ready.1 hi
  rw [getD_true] at h1
  have hlt : i < ops.size := (Array.getElem?_eq_some_iff.1 ho).1
  rcases hl i (by omega) with h | h
  ·rw [h] at h1; cases h1
  ·omega
 intro l
 induction l with
 | nil =>
  intro k fuel L fr S g a w hl hn hk hf hs ht hu k1 h1 h2 h3 h
  have hk' : ops.size ≤ k := by
   have := hl 0
   simp only [List.getElem?_nil, Nat.add_zero] at this
   exact Array.getElem?_eq_none_iff.1 this.symm
  have hno := none_ready k L hk' hs (fun i hi => .inl (ht i hi))
  have hemp : Region.ready md ops L = [] := List.eq_nil_iff_forall_not_mem.2 hno
  cases fuel with
  | zero => exact ⟨hemp, k1.kd h3, g, fr, S, k1, h1, h2, h⟩
  | succ fuel => exact ⟨fun _ => ⟨k1.kd h3, g, fr, S, k1, h1, h2, h⟩, fun i hi => absurd hi (hno i)⟩
 | cons o rest ih =>
  intro k fuel L fr S g a w hl hn hk hf hs ht hu k1 h1 h2 h3 h
  have h0 : ops[k]? = some o := by simpa using (hl 0).symm
  have hklt : k < ops.size := (Array.getElem?_eq_some_iff.1 h0).1
  have hready : k ∈ Region.ready md ops L := mem_ready.2 ⟨getD_true.2 (hu k (Nat.le_refl _) hklt), o, h0, fun e he hbe => getD_false.2 (ht _ (back_spec hb h0 e he hbe))⟩
  cases fuel with
  | zero => simp at hf
  | succ fuel =>
   refine ⟨fun h => (by rw [h] at hready; cases hready), fun i hi => ?_⟩
   obtain ⟨hi1, oi, hoi, hia⟩ := mem_ready.1 hi
   rw [getD_true] at hi1
   have hilt : i < ops.size := (Array.getElem?_eq_some_iff.1 hoi).1
   have hclo : Clo md ops L := fun j oj hj hlj e he hbe => by
    have hjk : j < k := by
     rcases Nat.lt_or_ge j k with h | h
     ·exact h
     ·rw [hu j h (Array.getElem?_eq_some_iff.1 hj).1] at hlj; cases hlj
    exact ht _ (Nat.lt_trans (back_spec hb hj e he hbe) hjk)
   have hik : i = k := by
    rcases Nat.lt_trichotomy i k with h | h | h
    ·rw [ht i h] at hi1; cases hi1
    ·exact h
    ·have hr := List.all_eq_true.1 ha i (List.mem_range.2 hilt)
     rw [Bool.or_eq_true] at hr
     rcases hr with hr | hr
     ·have := of_decide_eq_true hr; omega
     ·have hr := List.all_eq_true.1 hr k (List.mem_range.2 h)
      have := reach_listed hclo _ i k oi hoi (fun e he hbe => getD_false.1 (hia e he hbe)) hr
      rw [hu k (Nat.le_refl _) hklt] at this; cases this
   subst hik
   refine step_op (o := o) k1 h1 h2 h3 (K := LWp P w0 ops (fun fr S => Q .normal fr S) rest) ?_ h h0
   intro fr' S' g' a' w' q1 q2 q3 q4 q5
   refine ih (i + 1) fuel (L.setIfInBounds i true) fr' S' g' a' w' (fun j => by have := hl (j + 1); simpa [Nat.add_assoc, Nat.add_comm 1 j] using this) (by omega) (by omega) (by simpa using hf) (by simpa using hs) ?_ ?_ q1 q2 q3 q4 q5
   ·intro j hj
    rw [Array.getElem?_setIfInBounds]
    split
    ·rename_i e; rw [if_pos (by omega)]
    ·exact ht j (by omega)
   ·intro j hj hj'
    rw [Array.getElem?_setIfInBounds, if_neg (by omega)]
    exact hu j (by omega) hj'
theorem wpAny_pre {ro : Option Nat} {g0 : Gh} {Q : Exit → List DV → St → Prop} {S : St} {n : Nat} (hB : tailB md ops n = true) (hn : n ≤ ops.size) : ∀ (fuel F : Nat) (L M : Array Bool) (fr : List DV) (g : Gh) (a : Act) (w : World),
  L.size = n → M.size = ops.size → (∀ i, i < n → M[i]? = L[i]?) → (∀ i, n ≤ i → i < ops.size → M[i]? = some false) → Clo md ops M → fuel + (ops.size - n) ≤ F → g0.le g → Rel w0 g S w → RepL g fr a.tmps.toList → Dk w0 g.obj a w →
  wpAnyD P w0 S md (ops.toList.take n).toArray (fun fr => LWp P w0 ops (fun fr S => Q .normal fr S) (ops.toList.drop n) fr S) fuel L fr → wpAnyIn (fz ro) 0 P md ops (Good w0 g0 Q) F M a w := by
 have hB' := hB
 simp only [tailB, Bool.and_eq_true] at hB'
 obtain ⟨⟨hb, ha⟩, hg⟩ := hB'
 have hpre : ∀ i, i < n → (ops.toList.take n).toArray[i]? = ops[i]? := fun i hi => by simp [List.getElem?_take, hi]
 have full : ∀ (L M : Array Bool), L.size = n → M.size = ops.size → (∀ i, i < n → M[i]? = L[i]?) → Region.ready md (ops.toList.take n).toArray L = [] → ∀ i, i < n → M[i]? = some true := by
  intro L M hs hM hLM hr i
  induction i using Nat.strongRecOn with
  | _ i ih =>
   intro hi
   have hlt : i < M.size := by omega
   have hsome : ∃ o, ops[i]? = some o := ⟨_, Array.getElem?_eq_getElem (by omega)⟩
   obtain ⟨o, ho⟩ := hsome
   cases hx : M[i]? with
   | none => rw [Array.getElem?_eq_getElem hlt] at hx; cases hx
   | some x =>
    cases x with
    | true => rfl
    | false =>
     have : i ∈ Region.ready md (ops.toList.take n).toArray L := mem_ready.2 ⟨getD_true.2 (by rw [← hLM i hi]; exact hx), o, by rw [hpre i hi]; exact ho, fun e he hbe => by
      have hlt' := back_spec hb ho e he hbe
      rw [getD_false, ← hLM _ (by omega)]
      exact ih _ hlt' (by omega)⟩
     rw [hr] at this; cases this
 have tail : ∀ (F : Nat) (L M : Array Bool) (fr : List DV) (g : Gh) (a : Act) (w : World), L.size = n → M.size = ops.size → (∀ i, i < n → M[i]? = L[i]?) → (∀ i, n ≤ i → i < ops.size → M[i]? = some false) → ops.size - n ≤ F → g0.le g → Rel w0 g S w → RepL g fr a.tmps.toList → Dk w0 g.obj a w →
   Region.ready md (ops.toList.take n).toArray L = [] → LWp P w0 ops (fun fr S => Q .normal fr S) (ops.toList.drop n) fr S → wpAnyIn (fz ro) 0 P md ops (Good w0 g0 Q) F M a w := by
  intro F L M fr g a w hs hM hLM hM0 hF q1 q2 q3 q4 hr h
  exact wpAny_tail hB (ops.toList.drop n) n F M fr S g a w (fun j => by simp [List.getElem?_drop]) (Nat.le_refl _) hn (by simp; omega) hM (full L M hs hM hLM hr) hM0 q1 q2 q3 q4 h
 intro fuel
 induction fuel with
 | zero =>
  intro F L M fr g a w hs hM hLM hM0 hc hF q1 q2 q3 q4 h
  exact tail F L M fr g a w hs hM hLM hM0 (by omega) q1 q2 q3 q4 h.1 h.2
 | succ fuel ih =>
  intro F L M fr g a w hs hM hLM hM0 hc hF q1 q2 q3 q4 h
  by_cases hr : Region.ready md (ops.toList.take n).toArray L = []
  ·exact tail F L M fr g a w hs hM hLM hM0 (by omega) q1 q2 q3 q4 hr (h.1 hr)
  ·obtain ⟨F, rfl⟩ : ∃ F', F = F' + 1 := ⟨F - 1, by omega⟩
   have up : ∀ i, i ∈ Region.ready md (ops.toList.take n).toArray L → i ∈ Region.ready md ops M := by
    intro i hi
    obtain ⟨h1, o, ho, h2⟩ := mem_ready.1 hi
    have hi' : i < n := by have := (Array.getElem?_eq_some_iff.1 ho).1; simp at this; omega
    rw [hpre i hi'] at ho
    refine mem_ready.2 ⟨getD_true.2 (by rw [hLM i hi']; exact getD_true.1 h1), o, ho, fun e he hbe => ?_⟩
    have hlt := back_spec hb ho e he hbe
    rw [getD_false, hLM _ (by omega)]
    exact getD_false.1 (h2 e he hbe)
   refine ⟨fun h0 => ?_, fun i hi => ?_⟩
   ·exfalso
    obtain ⟨x, xs, hx⟩ : ∃ x xs, Region.ready md (ops.toList.take n).toArray L = x :: xs := by
     cases he : Region.ready md (ops.toList.take n).toArray L with
     | nil => exact absurd he hr
     | cons x xs => exact ⟨x, xs, rfl⟩
    have := up x (by rw [hx]; exact List.mem_cons_self)
    rw [h0] at this; cases this
   ·obtain ⟨hi1, oi, hoi, hia⟩ := mem_ready.1 hi
    rw [getD_true] at hi1
    have hilt : i < ops.size := (Array.getElem?_eq_some_iff.1 hoi).1
    by_cases hin : i < n
    ·have hiL : i ∈ Region.ready md (ops.toList.take n).toArray L := mem_ready.2 ⟨getD_true.2 (by rw [← hLM i hin]; exact hi1), oi, by rw [hpre i hin]; exact hoi, fun e he hbe => by
      have hlt := back_spec hb hoi e he hbe
      rw [getD_false, ← hLM _ (by omega)]
      exact getD_false.1 (hia e he hbe)⟩
     have hq := h.2 i hiL
     have hgi : ∀ j want, oi.guard = some (j, want) → j < n := by
      intro j want hgj
      have hmem : oi ∈ ops.toList.take n := by
       have : (ops.toList.take n)[i]? = some oi := by rw [List.getElem?_take, if_pos hin]; simpa using hoi
       exact List.mem_of_getElem? this
      have := List.all_eq_true.1 hg oi hmem
      simpa [hgj] using this
     have hwant : ∀ fr, wantB (ops.toList.take n).toArray fr oi.guard = wantB ops fr oi.guard := by
      intro fr
      cases hgo : oi.guard with
      | none => rfl
      | some p =>
       obtain ⟨j, want⟩ := p
       simp only [wantB, hpre j (hgi j want hgo)]
     have hLs : (L.setIfInBounds i true).size = n := by simpa using hs
     have hMs : (M.setIfInBounds i true).size = ops.size := by simpa using hM
     have hLM' : ∀ j, j < n → (M.setIfInBounds i true)[j]? = (L.setIfInBounds i true)[j]? := by
      intro j hj
      rw [Array.getElem?_setIfInBounds, Array.getElem?_setIfInBounds, hLM j hj]
      split
      ·rw [if_pos (by omega), if_pos (by omega)]
      ·rfl
     have hM0' : ∀ j, n ≤ j → j < ops.size → (M.setIfInBounds i true)[j]? = some false := by
      intro j hj hj'
      rw [Array.getElem?_setIfInBounds, if_neg (by omega)]
      exact hM0 j hj hj'
     have hc' : Clo md ops (M.setIfInBounds i true) := by
      intro j oj hj hlj e he hbe
      rw [Array.getElem?_setIfInBounds]
      split
      ·rw [if_pos (by omega)]
      ·rw [Array.getElem?_setIfInBounds] at hlj
       split at hlj
       ·rename_i hij
        subst hij
        rw [hoi] at hj; cases hj
        exact getD_false.1 (hia e he hbe)
       ·exact hc j oj hj hlj e he hbe
     have cont : ∀ fr' g' a' w', g0.le g' → Rel w0 g' S w' → RepL g' fr' a'.tmps.toList → Dk w0 g'.obj a' w' → wpAnyD P w0 S md (ops.toList.take n).toArray (fun fr => LWp P w0 ops (fun fr S => Q .normal fr S) (ops.toList.drop n) fr S) fuel (L.setIfInBounds i true) fr' →
       wpAnyIn (fz ro) 0 P md ops (Good w0 g0 Q) F (M.setIfInBounds i true) a' w' := fun fr' g' a' w' p1 p2 p3 p4 p5 =>
      ih F _ _ fr' g' a' w' hLs hMs hLM' hM0' hc' (by omega) p1 p2 p3 p4 p5
     unfold qOp at hq
     rw [hpre i hin] at hq
     unfold wpOpIn
     simp only [hoi] at hq ⊢
     rcases hq with ⟨hw, d, hy, hk⟩ | ⟨hw, hk⟩
     ·rw [hwant] at hw
      have hw' := wantB_sound (o := oi) q3 hw
      rw [if_pos hw']
      refine wpIn_of_yields hy q2 (fun x _ => rep_ev q3 x) q4 fun g' d' u S' w' k1 k2 k3 k4 k5 => ?_
      obtain ⟨hd, hS⟩ := k4
      rw [hS] at k2
      rw [hd] at k3
      exact cont _ g' _ _ (q1.trans k1) k2 (repL_put (q3.mono k1) _ k3) (k1.dk k5) hk
     ·rw [hwant] at hw
      have hw' := wantB_sound (o := oi) q3 hw
      rw [if_neg (by simp [hw'])]
      exact ⟨fun _ _ => trivial, cont _ g _ _ q1 q2 (repL_put q3 _ (rep_ud g)) (q4.keep (put_defers _ _ _) fun _ _ h _ => h) hk⟩
    ·exfalso
     have hall : ∀ j, j < n → M[j]? = some true := by
      intro j hj
      have hr' := List.all_eq_true.1 ha i (List.mem_range.2 hilt)
      rw [Bool.or_eq_true] at hr'
      rcases hr' with hr' | hr'
      ·exact absurd (of_decide_eq_true hr') hin
      ·have hr' := List.all_eq_true.1 hr' j (List.mem_range.2 (by omega))
       exact reach_listed hc _ i j oi hoi (fun e he hbe => getD_false.1 (hia e he hbe)) hr'
     refine hr (List.eq_nil_iff_forall_not_mem.2 fun j hj => ?_)
     obtain ⟨h1, o, ho, _⟩ := mem_ready.1 hj
     have hj' : j < n := by have := (Array.getElem?_eq_some_iff.1 ho).1; simp at this; omega
     rw [getD_true, ← hLM j hj', hall j hj'] at h1
     cases h1
def npre (l : List Oper) : Nat := (l.takeWhile fun o => isQ o.op).length
theorem awp_drawT {id : Nat} {l : List Oper} {fr : List DV} {S : St} {Q : Exit → List DV → St → Prop} (n : Nat) (hn : n ≤ l.length) (hm : P.follows .mixedOrders = true) (hB : Region.lexB .any (l.take n).toArray = true) (hT : tailB .any l.toArray n = true) (hs : l.all (fun o => okSl o.op) = true)
  (h : LQ P w0 S (l.take n).toArray (fun fr => vcL P w0 l.toArray (fun fr S => Q .normal fr S) (l.drop n) fr S) (l.take n) fr) : AWp P w0 (.region id l.toArray true) fr S Q := by
 intro g a w h1 h2 h3
 simp only [Region.lexB, Bool.and_eq_true] at hB
 refine wpA_region_any hm fun ro => ?_
 have hR : Rel w0 g S { w with drawn := w.drawn + 1 } := h1.grow (below_drew w)
 have hs1 : (l.take n).all (fun o => okSl o.op) = true := List.all_eq_true.2 fun o ho => List.all_eq_true.1 hs o (List.mem_of_mem_take ho)
 have hs2 : (l.drop n).all (fun o => okSl o.op) = true := List.all_eq_true.2 fun o ho => List.all_eq_true.1 hs o (List.mem_of_mem_drop ho)
 have hLQ : LQ P w0 S (l.take n).toArray (fun fr => LWp P w0 l.toArray (fun fr S => Q .normal fr S) (l.drop n) fr S) (l.take n) fr := by
  exact LQ_mono (fun fr h => vcL_sound _ hs2 h) h
 have := wpAnyD_lex (P := P) (w0 := w0) (S := S) (md := .any) (ops := (l.take n).toArray) (l.take n) 0 (Array.replicate (l.take n).toArray.size false) fr (by simp) (by simpa using hB.2) hLQ
 refine wpAny_pre (n := n) (S := S) hT (by simpa using hn) (l.take n).length _ (Array.replicate (l.take n).toArray.size false) _ fr g a _ (by simp; omega) (by simp) ?_ ?_ ?_ (by simp; omega) (.refl g) hR h2 (h3.keep rfl fun _ _ h _ => h) (by simpa using this)
 ·intro i hi
  simp only [Array.getElem?_replicate, List.size_toArray, List.length_take]
  rw [if_pos (by omega), if_pos (by omega)]
 ·intro i hi hi'
  simp only [Array.getElem?_replicate]
  rw [if_pos hi']
 ·intro j o hj hl
  simp [Array.getElem?_replicate] at hl
end
end Aml
namespace Aml
open Go Go.RowKit
@[congr] theorem c_condD {d : DV} {d' : DV} {A : Prop} {B : Prop} (hd : d = d') : condD d A B = condD d' A B := by cases hd; rfl
@[congr] theorem c_hdK {ds : List DV} {ds' : List DV} {K : DV → Prop} (hds : ds = ds') : hdK ds K = hdK ds' K := by cases hds; rfl
@[congr] theorem c_ldK {k : TK} {k' : TK} {ds : List DV} {ds' : List DV} {K : DV → Prop} (hk : k = k') (hds : ds = ds') : ldK k ds K = ldK k' ds' K := by cases hk; cases hds; rfl
@[congr] theorem c_vPick {c : DV} {c' : DV} {a : DV} {a' : DV} {b : DV} {b' : DV} {K : DV → Prop} (hc : c = c') (ha : a = a') (hb : b = b') : vPick c a b K = vPick c' a' b' K := by cases hc; cases ha; cases hb; rfl
@[congr] theorem c_vLoad {k : TK} {k' : TK} {S : St} {S' : St} {x : DV} {x' : DV} {K : DV → Prop} (hk : k = k') (hS : S = S') (hx : x = x') : vLoad k S x K = vLoad k' S' x' K := by cases hk; cases hS; cases hx; rfl
@[congr] theorem c_vField {k : TK} {k' : TK} {f : Nat} {f' : Nat} {x : DV} {x' : DV} {K : DV → Prop} (hk : k = k') (hf : f = f') (hx : x = x') : vField k f x K = vField k' f' x' K := by cases hk; cases hf; cases hx; rfl
@[congr] theorem c_vIndexAddr {k : TK} {k' : TK} {x : DV} {x' : DV} {i : DV} {i' : DV} {K : DV → Prop} (hk : k = k') (hx : x = x') (hi : i = i') : vIndexAddr k x i K = vIndexAddr k' x' i' K := by cases hk; cases hx; cases hi; rfl
@[congr] theorem c_vExtract {i : Nat} {i' : Nat} {x : DV} {x' : DV} {K : DV → Prop} (hi : i = i') (hx : x = x') : vExtract i x K = vExtract i' x' K := by cases hi; cases hx; rfl
@[congr] theorem c_vFieldV {k : TK} {k' : TK} {f : Nat} {f' : Nat} {x : DV} {x' : DV} {K : DV → Prop} (hk : k = k') (hf : f = f') (hx : x = x') : vFieldV k f x K = vFieldV k' f' x' K := by cases hk; cases hf; cases hx; rfl
@[congr] theorem c_vBinI {op : BinOp} {k : IntKind} {m : Int} {m' : Int} {n : Int} {n' : Int} {K : DV → Prop} (hm : m = m') (hn : n = n') : vBinI op k m n K = vBinI op k m' n' K := by cases hm; cases hn; rfl
@[congr] theorem c_vBinS {op : BinOp} {x : ByteArray} {x' : ByteArray} {y : ByteArray} {y' : ByteArray} {K : DV → Prop} (hx : x = x') (hy : y = y') : vBinS op x y K = vBinS op x' y' K := by cases hx; cases hy; rfl
@[congr] theorem c_vBin {op : BinOp} {t : TK} {t' : TK} {cx : Bool} {cx' : Bool} {cy : Bool} {cy' : Bool} {x : DV} {x' : DV} {y : DV} {y' : DV} {K : DV → Prop} (ht : t = t') (hcx : cx = cx') (hcy : cy = cy') (hx : x = x') (hy : y = y') : vBin op t cx cy x y K = vBin op t' cx' cy' x' y' K := by cases ht; cases hcx; cases hcy; cases hx; cases hy; rfl
@[congr] theorem c_vAggEq {o : Option (List FK)} {o' : Option (List FK)} {op : BinOp} {al : List DV} {al' : List DV} {y : DV} {y' : DV} {K : DV → Prop} (ho : o = o') (hal : al = al') (hy : y = y') : vAggEq o op al y K = vAggEq o' op al' y' K := by cases ho; cases hal; cases hy; rfl
@[congr] theorem c_aggK {ks : List FK} {al : List DV} {al' : List DV} {bs : List DV} {bs' : List DV} {r : Bool} {r' : Bool} {F : Bool → Prop} (hal : al = al') (hbs : bs = bs') (hr : r = r') : aggK ks al bs r F = aggK ks al' bs' r' F := by cases hal; cases hbs; cases hr; rfl
@[congr] theorem c_vUn {op : UnOp} {x : DV} {x' : DV} {K : DV → Prop} (hx : x = x') : vUn op x K = vUn op x' K := by cases hx; rfl
@[congr] theorem c_vConv {a : TK} {a' : TK} {b : TK} {b' : TK} {x : DV} {x' : DV} {K : DV → Prop} (ha : a = a') (hb : b = b') (hx : x = x') : vConv a b x K = vConv a' b' x' K := by cases ha; cases hb; cases hx; rfl
@[congr] theorem c_vConvS {a : TK} {a' : TK} {b : TK} {b' : TK} {ke : TK} {ke' : TK} {kb : TK} {kb' : TK} {S : St} {S' : St} {x : DV} {x' : DV} {K : DV → Prop} (ha : a = a') (hb : b = b') (hke : ke = ke') (hkb : kb = kb') (hS : S = S') (hx : x = x') : vConvS a b ke kb S x K = vConvS a' b' ke' kb' S' x' K := by cases ha; cases hb; cases hke; cases hkb; cases hS; cases hx; rfl
@[congr] theorem c_vIndex {k : TK} {k' : TK} {x : DV} {x' : DV} {i : DV} {i' : DV} {K : DV → Prop} (hk : k = k') (hx : x = x') (hi : i = i') : vIndex k x i K = vIndex k' x' i' K := by cases hk; cases hx; cases hi; rfl
@[congr] theorem c_bnd {d : Option DV} {d' : Option DV} {z : Int} {z' : Int} {K : Int → Prop} (hd : d = d') (hz : z = z') : bnd d z K = bnd d' z' K := by cases hd; cases hz; rfl
@[congr] theorem c_vSlice {k : TK} {k' : TK} {x : DV} {x' : DV} {lo : Option DV} {lo' : Option DV} {hi : Option DV} {hi' : Option DV} {mx : Option DV} {mx' : Option DV} {K : DV → Prop} (hk : k = k') (hx : x = x') (hlo : lo = lo') (hhi : hi = hi') (hmx : mx = mx') : vSlice k x lo hi mx K = vSlice k' x' lo' hi' mx' K := by cases hk; cases hx; cases hlo; cases hhi; cases hmx; rfl
@[congr] theorem c_vLen {k : TK} {k' : TK} {x : DV} {x' : DV} {K : DV → Prop} (hk : k = k') (hx : x = x') : vLen k x K = vLen k' x' K := by cases hk; cases hx; rfl
@[congr] theorem c_vCap {k : TK} {k' : TK} {x : DV} {x' : DV} {K : DV → Prop} (hk : k = k') (hx : x = x') : vCap k x K = vCap k' x' K := by cases hk; cases hx; rfl
@[congr] theorem c_vMin {x : DV} {x' : DV} {y : DV} {y' : DV} {K : DV → Prop} (hx : x = x') (hy : y = y') : vMin x y K = vMin x' y' K := by cases hx; cases hy; rfl
@[congr] theorem c_vMax {x : DV} {x' : DV} {y : DV} {y' : DV} {K : DV → Prop} (hx : x = x') (hy : y = y') : vMax x y K = vMax x' y' K := by cases hx; cases hy; rfl
@[congr] theorem c_vStore {n : Nat} {n' : Nat} {S : St} {S' : St} {x : DV} {x' : DV} {y : DV} {y' : DV} {K : St → Prop} (hn : n = n') (hS : S = S') (hx : x = x') (hy : y = y') : vStore n S x y K = vStore n' S' x' y' K := by cases hn; cases hS; cases hx; cases hy; rfl
@[congr] theorem c_vStoreX {n : Nat} {n' : Nat} {S : St} {S' : St} {x : DV} {x' : DV} {y : DV} {y' : DV} {K : St → Prop} (hn : n = n') (hS : S = S') (hx : x = x') (hy : y = y') : vStoreX n S x y K = vStoreX n' S' x' y' K := by cases hn; cases hS; cases hx; cases hy; rfl
@[congr] theorem c_vBuildSlice {k : TK} {k' : TK} {z : DV} {z' : DV} {len : Nat} {len' : Nat} {parts : List (Nat × DV)} {parts' : List (Nat × DV)} {K : DV → Prop} (hk : k = k') (hz : z = z') (hlen : len = len') (hparts : parts = parts') : vBuildSlice k z len parts K = vBuildSlice k' z' len' parts' K := by cases hk; cases hz; cases hlen; cases hparts; rfl
@[congr] theorem c_contK {S : St} {S' : St} {d : DV} {d' : DV} {K : Nat → List DV → Prop} (hS : S = S') (hd : d = d') : contK S d K = contK S' d' K := by cases hS; cases hd; rfl
@[congr] theorem c_vApp {s : Nat} {s' : Nat} {b : Nat} {b' : Nat} {S : St} {S' : St} {x : DV} {x' : DV} {ys : List DV} {ys' : List DV} {K : DV → St → Prop} (hs : s = s') (hb : b = b') (hS : S = S') (hx : x = x') (hys : ys = ys') : vApp s b S x ys K = vApp s' b' S' x' ys' K := by cases hs; cases hb; cases hS; cases hx; cases hys; rfl
@[congr] theorem c_vAppend {k : TK} {k' : TK} {k2 : TK} {k2' : TK} {S : St} {S' : St} {x : DV} {x' : DV} {y : DV} {y' : DV} {K : DV → St → Prop} (hk : k = k') (hk2 : k2 = k2') (hS : S = S') (hx : x = x') (hy : y = y') : vAppend k k2 S x y K = vAppend k' k2' S' x' y' K := by cases hk; cases hk2; cases hS; cases hx; cases hy; rfl
@[congr] theorem c_vAppInt {k : TK} {k' : TK} {z : DV} {z' : DV} {S : St} {S' : St} {x : DV} {x' : DV} {y : DV} {y' : DV} {K : DV → St → Prop} (hk : k = k') (hz : z = z') (hS : S = S') (hx : x = x') (hy : y = y') : vAppInt k z S x y K = vAppInt k' z' S' x' y' K := by cases hk; cases hz; cases hS; cases hx; cases hy; rfl
@[congr] theorem c_vAppC {k : TK} {k' : TK} {k2 : TK} {k2' : TK} {S : St} {S' : St} {x : DV} {x' : DV} {y : DV} {y' : DV} {K : DV → St → Prop} (hk : k = k') (hk2 : k2 = k2') (hS : S = S') (hx : x = x') (hy : y = y') : vAppC k k2 S x y K = vAppC k' k2' S' x' y' K := by cases hk; cases hk2; cases hS; cases hx; cases hy; rfl
@[congr] theorem c_vAppZ {k : TK} {k' : TK} {z : DV} {z' : DV} {S : St} {S' : St} {x : DV} {x' : DV} {y : DV} {y' : DV} {K : DV → St → Prop} (hk : k = k') (hz : z = z') (hS : S = S') (hx : x = x') (hy : y = y') : vAppZ k z S x y K = vAppZ k' z' S' x' y' K := by cases hk; cases hz; cases hS; cases hx; cases hy; rfl
@[congr] theorem c_vCopy {k : TK} {k' : TK} {S : St} {S' : St} {x : DV} {x' : DV} {y : DV} {y' : DV} {K : DV → St → Prop} (hk : k = k') (hS : S = S') (hx : x = x') (hy : y = y') : vCopy k S x y K = vCopy k' S' x' y' K := by cases hk; cases hS; cases hx; cases hy; rfl
@[congr] theorem c_vClear {k : TK} {k' : TK} {z : DV} {z' : DV} {S : St} {S' : St} {x : DV} {x' : DV} {K : DV → St → Prop} (hk : k = k') (hz : z = z') (hS : S = S') (hx : x = x') : vClear k z S x K = vClear k' z' S' x' K := by cases hk; cases hz; cases hS; cases hx; rfl
@[congr] theorem c_copyK {S : St} {S' : St} {s : Nat} {s' : Nat} {ds : List DV} {ds' : List DV} {o : Nat} {o' : Nat} {b : Nat} {n : Nat} {n' : Nat} {y : DV} {y' : DV} {K : DV → St → Prop} (hS : S = S') (hs : s = s') (hds : ds = ds') (ho : o = o') (hn : n = n') (hy : y = y') : copyK S s ds o b n y K = copyK S' s' ds' o' b n' y' K := by cases hS; cases hs; cases hds; cases ho; cases hn; cases hy; rfl
@[congr] theorem c_rowsK {S : St} {S' : St} {s : Nat} {s' : Nat} {y : DV} {y' : DV} {F : Nat → List DV → Prop} (hS : S = S') (hs : s = s') (hy : y = y') : rowsK S s y F = rowsK S' s' y' F := by cases hS; cases hs; cases hy; rfl
@[congr] theorem c_vNilEq {op : BinOp} {k : TK} {k' : TK} {x : DV} {x' : DV} {K : DV → Prop} (hk : k = k') (hx : x = x') : vNilEq op k x K = vNilEq op k' x' K := by cases hk; cases hx; rfl
@[congr] theorem c_vCut0 {S : St} {S' : St} {x : DV} {x' : DV} {z : Nat} {z' : Nat} {K : DV → St → Prop} (hS : S = S') (hx : x = x') (hz : z = z') : vCut0 S x z K = vCut0 S' x' z' K := by cases hS; cases hx; cases hz; rfl
@[congr] theorem c_vSliceX {k : TK} {k' : TK} {S : St} {S' : St} {x : DV} {x' : DV} {lo : Option DV} {lo' : Option DV} {hi : Option DV} {hi' : Option DV} {mx : Option DV} {mx' : Option DV} {K : DV → St → Prop} (hk : k = k') (hS : S = S') (hx : x = x') (hlo : lo = lo') (hhi : hi = hi') (hmx : mx = mx') : vSliceX k S x lo hi mx K = vSliceX k' S' x' lo' hi' mx' K := by cases hk; cases hS; cases hx; cases hlo; cases hhi; cases hmx; rfl
@[congr] theorem c_vSliceS {k : TK} {k' : TK} {S : St} {S' : St} {x : DV} {x' : DV} {lo : Option DV} {lo' : Option DV} {hi : Option DV} {hi' : Option DV} {mx : Option DV} {mx' : Option DV} {K : DV → St → Prop} (hk : k = k') (hS : S = S') (hx : x = x') (hlo : lo = lo') (hhi : hi = hi') (hmx : mx = mx') : vSliceS k S x lo hi mx K = vSliceS k' S' x' lo' hi' mx' K := by cases hk; cases hS; cases hx; cases hlo; cases hhi; cases hmx; rfl
@[congr] theorem c_vMakeSlice {k : TK} {k' : TK} {z : DV} {z' : DV} {x : DV} {x' : DV} {y : DV} {y' : DV} {S : St} {S' : St} {K : DV → St → Prop} (hk : k = k') (hz : z = z') (hx : x = x') (hy : y = y') (hS : S = S') : vMakeSlice k z x y S K = vMakeSlice k' z' x' y' S' K := by cases hk; cases hz; cases hx; cases hy; cases hS; rfl
@[congr] theorem c_shr1 {S : St} {S' : St} {d : DV} {d' : DV} {K : DV → St → Prop} (hS : S = S') (hd : d = d') : shr1 S d K = shr1 S' d' K := by cases hS; cases hd; rfl
@[congr] theorem c_shr1s {S : St} {S' : St} {d : List DV} {d' : List DV} {K : List DV → St → Prop} (hS : S = S') (hd : d = d') : shr1s S d K = shr1s S' d' K := by cases hS; cases hd; rfl
@[congr] theorem c_shr {S : St} {S' : St} {d : DV} {d' : DV} {K : DV → St → Prop} (hS : S = S') (hd : d = d') : shr S d K = shr S' d' K := by cases hS; cases hd; rfl
@[congr] theorem c_shrs {S : St} {S' : St} {d : List DV} {d' : List DV} {K : List DV → St → Prop} (hS : S = S') (hd : d = d') : shrs S d K = shrs S' d' K := by cases hS; cases hd; rfl
@[congr] theorem c_shrT {S : St} {S' : St} {d : DV} {d' : DV} {K : DV → St → Prop} (hS : S = S') (hd : d = d') : shrT S d K = shrT S' d' K := by cases hS; cases hd; rfl
@[congr] theorem c_callK {S : St} {S' : St} {d : List DV} {d' : List DV} {F : List DV → St → Prop} (hS : S = S') (hd : d = d') : callK S d F = callK S' d' F := by cases hS; cases hd; rfl
@[congr] theorem c_fiK {p : Option (Nat × Nat × Bool)} {p' : Option (Nat × Nat × Bool)} {x : DV} {x' : DV} {K : DV → Prop} (hp : p = p') (hx : x = x') : fiK p x K = fiK p' x' K := by cases hp; cases hx; rfl
@[congr] theorem c_fvK {p : Option (Nat × Nat × Bool)} {p' : Option (Nat × Nat × Bool)} {ds : List DV} {ds' : List DV} {K : DV → Prop} (hp : p = p') (hds : ds = ds') : fvK p ds K = fvK p' ds' K := by cases hp; cases hds; rfl
@[congr] theorem c_gD {t : Nat} {t' : Nat} {d : DV} {d' : DV} {fr : List DV} {fr' : List DV} {want : Bool} {want' : Bool} {A : List DV → Prop} {B : List DV → Prop} (ht : t = t') (hd : d = d') (hfr : fr = fr') (hwant : want = want') : gD t d fr want A B = gD t' d' fr' want' A B := by cases ht; cases hd; cases hfr; cases hwant; rfl
@[congr] theorem c_gK {t : Option Tmp} {t' : Option Tmp} {fr : List DV} {fr' : List DV} {want : Bool} {want' : Bool} {A : List DV → Prop} {B : List DV → Prop} (ht : t = t') (hfr : fr = fr') (hwant : want = want') : gK t fr want A B = gK t' fr' want' A B := by cases ht; cases hfr; cases hwant; rfl
@[congr] theorem c_guardK {ops : Array Oper} {fr : List DV} {fr' : List DV} {gd : Option (Nat × Bool)} {gd' : Option (Nat × Bool)} {A : List DV → Prop} {B : List DV → Prop} (hfr : fr = fr') (hgd : gd = gd') : guardK ops fr gd A B = guardK ops fr' gd' A B := by cases hfr; cases hgd; rfl
@[congr] theorem c_buK {k : TK} {k' : TK} {z : DV} {z' : DV} {parts : List (Nat × DV)} {parts' : List (Nat × DV)} {K : DV → Prop} (hk : k = k') (hz : z = z') (hparts : parts = parts') : buK k z parts K = buK k' z' parts' K := by cases hk; cases hz; cases hparts; rfl
@[congr] theorem c_elK {xs : List DV} {xs' : List DV} {i : Nat} {i' : Nat} {F : DV → Prop} (hxs : xs = xs') (hi : i = i') : elK xs i F = elK xs' i' F := by cases hxs; cases hi; rfl
@[congr] theorem c_exK {xs : List DV} {xs' : List DV} {i : Nat} {i' : Nat} {F : DV → Prop} (hxs : xs = xs') (hi : i = i') : exK xs i F = exK xs' i' F := by cases hxs; cases hi; rfl
@[congr] theorem c_bK {o : Option Ob} {o' : Option Ob} {F : Nat → List DV → Prop} {G : Nat → List DV → Prop} (ho : o = o') : bK o F G = bK o' F G := by cases ho; rfl
@[congr] theorem c_xK {o : Option Ob} {o' : Option Ob} {F : KK → List (Value × DV × Nat) → Nat → Prop} (ho : o = o') : xK o F = xK o' F := by cases ho; rfl
@[congr] theorem c_iK {o : Option Ob} {o' : Option Ob} {F : Nat → Nat → List Nat → Nat → Prop} (ho : o = o') : iK o F = iK o' F := by cases ho; rfl
@[congr] theorem c_goK {o : Option DV} {o' : Option DV} {F : DV → Prop} {G : Prop} (ho : o = o') : goK o F G = goK o' F G := by cases ho; rfl
@[congr] theorem c_vLookup {m : Option (KK × DV)} {m' : Option (KK × DV)} {S : St} {S' : St} {x : DV} {x' : DV} {y : DV} {y' : DV} {ok : Bool} {ok' : Bool} {K : DV → Prop} (hm : m = m') (hS : S = S') (hx : x = x') (hy : y = y') (hok : ok = ok') : vLookup m S x y ok K = vLookup m' S' x' y' ok' K := by cases hm; cases hS; cases hx; cases hy; cases hok; rfl
@[congr] theorem c_vMapUpd {m : Option (KK × DV)} {m' : Option (KK × DV)} {S : St} {S' : St} {x : DV} {x' : DV} {y : DV} {y' : DV} {d : DV} {d' : DV} {K : St → Prop} (hm : m = m') (hS : S = S') (hx : x = x') (hy : y = y') (hd : d = d') : vMapUpd m S x y d K = vMapUpd m' S' x' y' d' K := by cases hm; cases hS; cases hx; cases hy; cases hd; rfl
@[congr] theorem c_vDelete {m : Option (KK × DV)} {m' : Option (KK × DV)} {S : St} {S' : St} {x : DV} {x' : DV} {y : DV} {y' : DV} {K : St → Prop} (hm : m = m') (hS : S = S') (hx : x = x') (hy : y = y') : vDelete m S x y K = vDelete m' S' x' y' K := by cases hm; cases hS; cases hx; cases hy; rfl
@[congr] theorem c_rgK {k : TK} {k' : TK} {m : Option (KK × DV)} {m' : Option (KK × DV)} {S : St} {S' : St} {x : DV} {x' : DV} {K : DV → St → Prop} (hk : k = k') (hm : m = m') (hS : S = S') (hx : x = x') : rgK k m S x K = rgK k' m' S' x' K := by cases hk; cases hm; cases hS; cases hx; rfl
@[congr] theorem c_vRangeS {S : St} {S' : St} {x : DV} {x' : DV} {K : DV → St → Prop} (hS : S = S') (hx : x = x') : vRangeS S x K = vRangeS S' x' K := by cases hS; cases hx; rfl
@[congr] theorem c_nxK {b : Bool} {b' : Bool} {S : St} {S' : St} {x : DV} {x' : DV} {K : DV → St → Prop} (hb : b = b') (hS : S = S') (hx : x = x') : nxK b S x K = nxK b' S' x' K := by cases hb; cases hS; cases hx; rfl
@[congr] theorem c_vNextS {S : St} {S' : St} {x : DV} {x' : DV} {K : DV → St → Prop} (hS : S = S') (hx : x = x') : vNextS S x K = vNextS S' x' K := by cases hS; cases hx; rfl
@[congr] theorem c_siK {o : Option Ob} {o' : Option Ob} {F : ByteArray → Nat → Prop} (ho : o = o') : siK o F = siK o' F := by cases ho; rfl
@[congr] theorem c_vRange {m : Option (KK × DV)} {m' : Option (KK × DV)} {S : St} {S' : St} {x : DV} {x' : DV} {K : DV → St → Prop} (hm : m = m') (hS : S = S') (hx : x = x') : vRange m S x K = vRange m' S' x' K := by cases hm; cases hS; cases hx; rfl
@[congr] theorem c_vMakeMap {m : Option (KK × DV)} {m' : Option (KK × DV)} {r : Option Operand} {S : St} {S' : St} {K : DV → St → Prop} (hm : m = m') (hS : S = S') : vMakeMap m r S K = vMakeMap m' r S' K := by cases hm; cases hS; rfl
@[congr] theorem c_vNext {S : St} {S' : St} {x : DV} {x' : DV} {s : Bool} {s' : Bool} {K : DV → St → Prop} (hS : S = S') (hx : x = x') (hs : s = s') : vNext S x s K = vNext S' x' s' K := by cases hS; cases hx; cases hs; rfl
@[congr] theorem c_vEntry {S : St} {S' : St} {x : DV} {x' : DV} {K : DV → Prop} (hS : S = S') (hx : x = x') : vEntry S x K = vEntry S' x' K := by cases hS; cases hx; rfl
@[congr] theorem c_oK {α : Type} {o o' : Option α} {F : α → Prop} (h : o = o') : oK o F = oK o' F := by cases h; rfl
@[congr] theorem c_vcOp {P : Program} {w0 : W0} {op : Op} {fr : List DV} {fr' : List DV} {S : St} {S' : St} {K : DV → St → Prop} (hfr : fr = fr') (hS : S = S') : vcOp P w0 op fr S K = vcOp P w0 op fr' S' K := by cases hfr; cases hS; rfl
@[congr] theorem c_vcOpQ {P : Program} {w0 : W0} {op : Op} {fr : List DV} {fr' : List DV} {S : St} {S' : St} {K : DV → Prop} (hfr : fr = fr') (hS : S = S') : vcOpQ P w0 op fr S K = vcOpQ P w0 op fr' S' K := by cases hfr; cases hS; rfl
@[congr] theorem c_vCall {P : Program} {w0 : W0} {cal : DV} {cal' : DV} {ds : List DV} {ds' : List DV} {S : St} {S' : St} {K : DV → St → Prop} (hcal : cal = cal') (hds : ds = ds') (hS : S = S') : vCall P w0 cal ds S K = vCall P w0 cal' ds' S' K := by cases hcal; cases hds; cases hS; rfl
@[congr] theorem c_vCallQ {P : Program} {w0 : W0} {cal : DV} {cal' : DV} {ds : List DV} {ds' : List DV} {S : St} {S' : St} {K : DV → Prop} (hcal : cal = cal') (hds : ds = ds') (hS : S = S') : vCallQ P w0 cal ds S K = vCallQ P w0 cal' ds' S' K := by cases hcal; cases hds; cases hS; rfl
@[congr] theorem c_vcL {P : Program} {w0 : W0} {ops : Array Oper} {K : List DV → St → Prop} {l : List Oper} {fr : List DV} {fr' : List DV} {S : St} {S' : St} (hfr : fr = fr') (hS : S = S') : vcL P w0 ops K l fr S = vcL P w0 ops K l fr' S' := by cases hfr; cases hS; rfl
@[congr] theorem c_vBinA {P : Program} {op : BinOp} {t : TypeId} {cx : Bool} {cx' : Bool} {cy : Bool} {cy' : Bool} {x : DV} {x' : DV} {y : DV} {y' : DV} {K : DV → Prop} (hcx : cx = cx') (hcy : cy = cy') (hx : x = x') (hy : y = y') : vBinA P op t cx cy x y K = vBinA P op t cx' cy' x' y' K := by cases hcx; cases hcy; cases hx; cases hy; rfl
@[congr] theorem c_vBuild {P : Program} {t : TypeId} {parts : List (Nat × DV)} {parts' : List (Nat × DV)} {K : DV → Prop} (hparts : parts = parts') : vBuild P t parts K = vBuild P t parts' K := by cases hparts; rfl
@[congr] theorem c_vAssert {P : Program} {t : TypeId} {ok : Bool} {ok' : Bool} {x : DV} {x' : DV} {K : DV → Prop} (hok : ok = ok') (hx : x = x') : vAssert P t ok x K = vAssert P t ok' x' K := by cases hok; cases hx; rfl
@[congr] theorem c_resK1 {P : Program} {fr : List DV} {fr' : List DV} {S : St} {S' : St} {K : DV → Prop} {r : ResultVar} (hfr : fr = fr') (hS : S = S') : resK1 P fr S K r = resK1 P fr' S' K r := by cases hfr; cases hS; rfl
@[congr] theorem c_resKs {P : Program} {fr : List DV} {fr' : List DV} {S : St} {S' : St} {r : List ResultVar} {K : List DV → Prop} (hfr : fr = fr') (hS : S = S') : resKs P fr S r K = resKs P fr' S' r K := by cases hfr; cases hS; rfl
@[congr] theorem c_resK {P : Program} {fr : List DV} {fr' : List DV} {S : St} {S' : St} {r : List ResultVar} {K : DV → Prop} (hfr : fr = fr') (hS : S = S') : resK P fr S r K = resK P fr' S' r K := by cases hfr; cases hS; rfl
def selK (b : Bool) (A B : Prop) : Prop := match b with
 | true => A
 | false => B
theorem n_sel_t (A B : Prop) : selK true A B = A := rfl
theorem n_sel_f (A B : Prop) : selK false A B = B := rfl
@[congr] theorem c_selK {b b' : Bool} {A B : Prop} (h : b = b') : selK b A B = selK b' A B := by cases h; rfl
theorem n_callK (S : St) (ds : List DV) (F : List DV → St → Prop) : callK S ds F = selK (hasAcc ds) (F ds S ∨ shrs S ds F) (shrs S ds F) := by
 unfold callK selK; cases hasAcc ds <;> rfl
attribute [go_sem ↓] n_sel_t n_sel_f n_callK
def bxK (S : St) (d : DV) (K : DV → St → Prop) : Prop := ∀ b, nin S.box b → K (.v (.pointer (some ⟨b, 0, none⟩))) ⟨(b, cd d) :: S.box, S.acc⟩
@[congr] theorem c_bxK {S S' : St} {d d' : DV} {K : DV → St → Prop} (h1 : S = S') (h2 : d = d') : bxK S d K = bxK S' d' K := by cases h1; cases h2; rfl
theorem e_isQ_move (x : Operand) : isQ (.move x) = true := rfl
theorem e_isQ_assign (x : Operand) : isQ (.assign x) = true := rfl
theorem e_isQ_pick (c a b : Operand) : isQ (.pick c a b) = true := rfl
theorem e_isQ_load (t : TypeId) (x : Operand) : isQ (.load t x) = true := rfl
theorem e_isQ_fieldAddr (t : TypeId) (x : Operand) (f : Nat) : isQ (.fieldAddr t x f) = true := rfl
theorem e_isQ_indexAddr (t : TypeId) (x i : Operand) : isQ (.indexAddr t x i) = true := rfl
theorem e_isQ_index (t : TypeId) (x i : Operand) : isQ (.index t x i) = true := rfl
theorem e_isQ_extract (x : Operand) (i : Nat) : isQ (.extract x i) = true := rfl
theorem e_isQ_nilCheck (x : Operand) : isQ (.nilCheck x) = true := rfl
theorem e_isQ_binOp (b : BinOp) (t : TypeId) (x y : Operand) (t' : TypeId) : isQ (.binOp b t x y t') = true := rfl
theorem e_isQ_unOp (b : UnOp) (t : TypeId) (x : Operand) : isQ (.unOp b t x) = true := rfl
theorem e_isQ_convert (s d : TypeId) (x : Operand) : isQ (.convert s d x) = true := rfl
theorem e_isQ_buildSlice (t : TypeId) (len : Nat) (parts : Array (Nat × Operand)) : isQ (.buildSlice t len parts) = true := rfl
theorem e_isQ_slice (t : TypeId) (x : Operand) (lo hi mx : Option Operand) : isQ (.slice t x lo hi mx) = true := rfl
theorem e_isQ_val (x : Operand) (a : Array Operand) (ts : Array TypeId) : isQ (.call ⟨.value x, a, ts⟩) = true := rfl
theorem e_isQ_b_len (a : Array Operand) (ts : Array TypeId) : isQ (.call ⟨.builtin .len, a, ts⟩) = true := rfl
theorem e_isQ_b_append (a : Array Operand) (ts : Array TypeId) : isQ (.call ⟨.builtin .append, a, ts⟩) = false := rfl
theorem e_ev_tmp (fr : List DV) (t : Nat) : ev fr (.tmp t) = fr.getD t ud := rfl
theorem e_ev_const (fr : List DV) (u : Value) : ev fr (.const u) = cv u := rfl
theorem e_ev_func (fr : List DV) (f : FuncId) : ev fr (.func f) = .v (.func (.func f) #[] #[]) := rfl
theorem e_pt_some (fr : List DV) (t : Nat) (d : DV) : pt fr (some t) d = fr.set t d := rfl
theorem e_pt_none (fr : List DV) (d : DV) : pt fr none d = fr := rfl
theorem e_cv_int (k : IntKind) (n : Int) : cv (.int k n) = .v (.int k n) := rfl
theorem e_cv_bool (b : Bool) : cv (.bool b) = .v (.bool b) := rfl
theorem e_cv_str (s : ByteArray) : cv (.string s) = .v (.string s) := rfl
theorem e_cv_nil  : cv (.slice none 0 0) = .sl 0 true [] := rfl
theorem e_cv_ptr (a : Option Addr) : cv (.pointer a) = .v (.pointer a) := rfl
theorem e_cv_nif  : cv (.nilIface) = .v .nilIface := rfl
theorem e_isIfc_int (k : IntKind) : isIfc (.int k) = false := rfl
theorem e_intK_sl (e s b : Nat) (i : Bool) : intK (.sl e s b i) = false := rfl
theorem e_notInt_sl (e s b : Nat) (i : Bool) : notInt (.sl e s b i) = true := rfl
theorem e_nacc_v (u : Value) : nacc (.v u) = true := rfl
theorem e_nacc_sl (s : Nat) (f : Bool) (xs : List DV) : nacc (.sl s f xs) = true := rfl
theorem e_naccA_v (u : Value) : naccA (.v u) = true := rfl
theorem e_naccA_agg (ds : List DV) : naccA (.agg ds) = ds.all nacc := rfl
theorem e_isC_tmp (t : Nat) : isC (.tmp t) = false := rfl
theorem e_isC_const (u : Value) : isC (.const u) = true := rfl
theorem e_vals_nil : vals [] = some [] := rfl
theorem e_vals_v (u : Value) (ds : List DV) : vals (.v u :: ds) = (vals ds).map (u :: ·) := rfl
theorem e_fillD_nil (fs : List (Nat × Nat × Bool)) (ds : List DV) : fillD fs ds [] = some ds := rfl
def fd1 (p : Option (Nat × Nat × Bool)) (fs : List (Nat × Nat × Bool)) (d : DV) (ds : List DV) (rest : List (Nat × DV)) : Option (List DV) := match p with
 | none => none
 | some (off, sz, _) => if okE d && (cd d).length == sz && decide (off + sz ≤ ds.length) then fillD fs (setAll ds off (cd d)) rest else none
theorem e_fillD_cons (fs : List (Nat × Nat × Bool)) (ds : List DV) (i : Nat) (d : DV) (rest : List (Nat × DV)) : fillD fs ds ((i, d) :: rest) = fd1 (fs[i]?) fs d ds rest := by rw [fillD]; unfold fd1; cases fs[i]? <;> rfl
theorem e_fd1 (off sz : Nat) (ag : Bool) (fs : List (Nat × Nat × Bool)) (d : DV) (ds : List DV) (rest : List (Nat × DV)) : fd1 (some (off, sz, ag)) fs d ds rest = if okE d && (cd d).length == sz && decide (off + sz ≤ ds.length) then fillD fs (setAll ds off (cd d)) rest else none := rfl
theorem e_fillE_nil (s : Nat) (ds : List DV) : fillE s ds [] = some ds := rfl
theorem e_fillE_cons (s : Nat) (ds : List DV) (i : Nat) (d : DV) (rest : List (Nat × DV)) : fillE s ds ((i, d) :: rest) = if okE d && (cd d).length == s && decide (i < ds.length) then fillE s (ds.set i d) rest else none := rfl
theorem e_setAll_nil (ds : List DV) (o : Nat) : setAll ds o [] = ds := rfl
theorem e_setAll_cons (ds : List DV) (o : Nat) (c : DV) (cs : List DV) : setAll ds o (c :: cs) = setAll (ds.set o c) (o + 1) cs := rfl
theorem e_same_add (k : IntKind) : sameKind .add k k = true := by simp [sameKind]
theorem e_same_sub (k : IntKind) : sameKind .sub k k = true := by simp [sameKind]
theorem e_same_mul (k : IntKind) : sameKind .mul k k = true := by simp [sameKind]
theorem e_same_quo (k : IntKind) : sameKind .quo k k = true := by simp [sameKind]
theorem e_same_rem (k : IntKind) : sameKind .rem k k = true := by simp [sameKind]
theorem e_same_and (k : IntKind) : sameKind .and k k = true := by simp [sameKind]
theorem e_same_or (k : IntKind) : sameKind .or k k = true := by simp [sameKind]
theorem e_same_eql (k : IntKind) : sameKind .eql k k = true := by simp [sameKind]
theorem e_same_neq (k : IntKind) : sameKind .neq k k = true := by simp [sameKind]
theorem e_same_lss (k : IntKind) : sameKind .lss k k = true := by simp [sameKind]
theorem e_same_leq (k : IntKind) : sameKind .leq k k = true := by simp [sameKind]
theorem e_same_gtr (k : IntKind) : sameKind .gtr k k = true := by simp [sameKind]
theorem e_same_geq (k : IntKind) : sameKind .geq k k = true := by simp [sameKind]
theorem e_same_shl (k k' : IntKind) : sameKind .shl k k' = true := rfl
theorem e_same_shr (k k' : IntKind) : sameKind .shr k k' = true := rfl
theorem e_replicate_0 {α : Type} (a : α) : List.replicate 0 a = [] := rfl
theorem e_replicate_s {α : Type} (n : Nat) (a : α) : List.replicate (n + 1) a = a :: List.replicate n a := rfl
theorem e_set_0 {α : Type} (a b : α) (l : List α) : (a :: l).set 0 b = b :: l := rfl
theorem e_set_s {α : Type} (a b : α) (l : List α) (n : Nat) : (a :: l).set (n + 1) b = a :: l.set n b := rfl
theorem e_wk (live : List Nat) (fr : List DV) : wk live fr = foldF (wkA fr 0 live) := rfl
theorem e_wkA_nil (i : Nat) (js : List Nat) : wkA [] i js = [] := rfl
theorem e_wkA_n (d : DV) (ds : List DV) (i : Nat) : wkA (d :: ds) i [] = .any :: wkA ds (i + 1) [] := rfl
theorem e_wkA_c (d : DV) (ds : List DV) (i j : Nat) (js : List Nat) : wkA (d :: ds) i (j :: js) = if i = j then d :: wkA ds (i + 1) js else .any :: wkA ds (i + 1) (j :: js) := rfl
theorem e_upds_nil (fr : List DV) : upds fr [] = fr := rfl
theorem e_upds_cons (fr : List DV) (i : Nat) (d : DV) (us : List (Nat × DV)) : upds fr ((i, d) :: us) = upds (fr.set i d) us := rfl
theorem e_app_nil {α : Type} (l : List α) : List.append [] l = l := rfl
theorem e_app_cons {α : Type} (a : α) (l m : List α) : List.append (a :: l) m = a :: List.append l m := rfl
theorem e_evG_tmp (w0 : W0) (fr : List DV) (n : Nat) (F : DV → Prop) : evG w0 fr (.tmp n) F = F (ev fr (.tmp n)) := rfl
theorem e_evG_glob (w0 : W0) (fr : List DV) (b : Nat) (F : DV → Prop) : evG w0 fr (.global b) F = globK w0 b F := rfl
theorem v_move {P : Program} {w0 : W0} {fr : List DV} {S : St} {K : DV → St → Prop} (x : Operand) : vcOp P w0 (.move x) fr S K = (K (ev fr x) S) := rfl
theorem v_assign {P : Program} {w0 : W0} {fr : List DV} {S : St} {K : DV → St → Prop} (x : Operand) : vcOp P w0 (.assign x) fr S K = (K (ev fr x) S) := rfl
theorem v_pick {P : Program} {w0 : W0} {fr : List DV} {S : St} {K : DV → St → Prop} (c a b : Operand) : vcOp P w0 (.pick c a b) fr S K = (vPick (ev fr c) (ev fr a) (ev fr b) (K · S)) := rfl
theorem v_load {P : Program} {w0 : W0} {fr : List DV} {S : St} {K : DV → St → Prop} (t : TypeId) (x : Operand) : vcOp P w0 (.load t x) fr S K = (vLoad (tk P t) S (ev fr x) (K · S)) := rfl
theorem v_fieldAddr {P : Program} {w0 : W0} {fr : List DV} {S : St} {K : DV → St → Prop} (t : TypeId) (x : Operand) (f : Nat) : vcOp P w0 (.fieldAddr t x f) fr S K = (vField (tk P t) f (ev fr x) (K · S)) := rfl
theorem v_indexAddr {P : Program} {w0 : W0} {fr : List DV} {S : St} {K : DV → St → Prop} (t : TypeId) (x i : Operand) : vcOp P w0 (.indexAddr t x i) fr S K = (evG w0 fr x fun d => vIndexAddr (tk P t) d (ev fr i) (K · S)) := rfl
theorem v_index {P : Program} {w0 : W0} {fr : List DV} {S : St} {K : DV → St → Prop} (t : TypeId) (x i : Operand) : vcOp P w0 (.index t x i) fr S K = (vIndex (tk P t) (ev fr x) (ev fr i) (K · S)) := rfl
theorem v_extract {P : Program} {w0 : W0} {fr : List DV} {S : St} {K : DV → St → Prop} (x : Operand) (i : Nat) : vcOp P w0 (.extract x i) fr S K = (vExtract i (ev fr x) (K · S)) := rfl
theorem v_nilCheck {P : Program} {w0 : W0} {fr : List DV} {S : St} {K : DV → St → Prop} (x : Operand) : vcOp P w0 (.nilCheck x) fr S K = (notNil (ev fr x) = true ∧ K (ev fr x) S) := rfl
theorem v_binOp {P : Program} {w0 : W0} {fr : List DV} {S : St} {K : DV → St → Prop} (b : BinOp) (t : TypeId) (x y : Operand) (t' : TypeId) : vcOp P w0 (.binOp b t x y t') fr S K = (selK (isNilC y) (vNilEq b (tk P t) (ev fr x) (K · S)) (vBinA P b t (isC x) (isC y) (ev fr x) (ev fr y) (K · S))) := by simp only [vcOp]; unfold selK; cases isNilC y <;> rfl
theorem v_unOp {P : Program} {w0 : W0} {fr : List DV} {S : St} {K : DV → St → Prop} (b : UnOp) (t : TypeId) (x : Operand) : vcOp P w0 (.unOp b t x) fr S K = (vUn b (ev fr x) (K · S)) := rfl
theorem v_convert {P : Program} {w0 : W0} {fr : List DV} {S : St} {K : DV → St → Prop} (s d : TypeId) (x : Operand) : vcOp P w0 (.convert s d x) fr S K = (vConvS (tk P s) (tk P d) (tk P (elT P s)) (tk P (elT P d)) S (ev fr x) (K · S)) := rfl
theorem v_mkIfc {P : Program} {w0 : W0} {fr : List DV} {S : St} {K : DV → St → Prop} (t : TypeId) (x : Operand) : vcOp P w0 (.makeInterface t x) fr S K = (isIfc (tk P t) = false ∧ shr S (ev fr x) fun d S => K (.ifc t d) S) := rfl
theorem v_build {P : Program} {w0 : W0} {fr : List DV} {S : St} {K : DV → St → Prop} (t : TypeId) (parts : List (Nat × Operand)) : vcOp P w0 (.build t parts.toArray) fr S K = (shrs S (parts.map fun p => ev fr p.2) fun ds S => vBuild P t ((parts.map (·.1)).zip ds) (K · S)) := rfl
theorem v_buildSlice {P : Program} {w0 : W0} {fr : List DV} {S : St} {K : DV → St → Prop} (t : TypeId) (len : Nat) (parts : List (Nat × Operand)) : vcOp P w0 (.buildSlice t len parts.toArray) fr S K = (shrs S (parts.map fun p => ev fr p.2) fun ds S => vBuildSlice (tk P t) (zD P (elT P t)) len ((parts.map (·.1)).zip ds) (K · S)) := rfl
theorem v_makeFunc {P : Program} {w0 : W0} {fr : List DV} {S : St} {K : DV → St → Prop} (fn : Fn) (a b : List Operand) : vcOp P w0 (.makeFunc fn a.toArray b.toArray) fr S K = (vFunc fn (a.map (ev fr)) (b.map (ev fr)) (K · S)) := rfl
theorem v_slice {P : Program} {w0 : W0} {fr : List DV} {S : St} {K : DV → St → Prop} (t : TypeId) (x : Operand) (lo hi mx : Option Operand) : vcOp P w0 (.slice t x lo hi mx) fr S K = ((mx.isSome = true → hi.isSome = true) ∧ vSliceX (tk P t) S (ev fr x) (lo.map (ev fr)) (hi.map (ev fr)) (mx.map (ev fr)) K) := rfl
theorem v_box {P : Program} {w0 : W0} {fr : List DV} {S : St} {K : DV → St → Prop} (t : TypeId) (x : Operand) : vcOp P w0 (.box t x) fr S K = (okE (ev fr x) = true ∧ bxK S (ev fr x) K) := rfl
theorem v_alloc {P : Program} {w0 : W0} {fr : List DV} {S : St} {K : DV → St → Prop} (t : TypeId) : vcOp P w0 (.alloc t) fr S K = (okE (zD P t) = true ∧ bxK S (zD P t) K) := rfl
theorem v_store {P : Program} {w0 : W0} {fr : List DV} {S : St} {K : DV → St → Prop} (t : TypeId) (x y : Operand) : vcOp P w0 (.store t x y) fr S K = ((P.info? t).isSome = true ∧ vStoreX (P.cellsOf t) S (ev fr x) (ev fr y) (K ud)) := rfl
theorem v_len {P : Program} {w0 : W0} {fr : List DV} {S : St} {K : DV → St → Prop} (x : Operand) (t : TypeId) : vcOp P w0 (.call ⟨.builtin .len, #[x], #[t]⟩) fr S K = (vLen (tk P t) (ev fr x) (K · S)) := rfl
theorem v_append {P : Program} {w0 : W0} {fr : List DV} {S : St} {K : DV → St → Prop} (x y : Operand) (t t' : TypeId) : vcOp P w0 (.call ⟨.builtin .append, #[x, y], #[t, t']⟩) fr S K = (selK (isRow (ev fr x)) (selK (intK (tk P t')) (vAppZ (tk P t) (zD P (elT P t)) S (ev fr x) (ev fr y) K) (vAppC (tk P t) (tk P t') S (ev fr x) (ev fr y) K)) (selK (intK (tk P t')) (vAppInt (tk P t) (zD P (elT P t)) S (ev fr x) (ev fr y) K) (vAppend (tk P t) (tk P t') S (ev fr x) (ev fr y) K))) := by simp only [vcOp]; unfold selK; cases isRow (ev fr x) <;> cases intK (tk P t') <;> rfl
theorem v_min {P : Program} {w0 : W0} {fr : List DV} {S : St} {K : DV → St → Prop} (x y : Operand) (ts : Array TypeId) : vcOp P w0 (.call ⟨.builtin .min, #[x, y], ts⟩) fr S K = (vMin (ev fr x) (ev fr y) (K · S)) := rfl
theorem v_call {P : Program} {w0 : W0} {fr : List DV} {S : St} {K : DV → St → Prop} (cal : Operand) (a : List Operand) (ts : Array TypeId) : vcOp P w0 (.call ⟨.value cal, a.toArray, ts⟩) fr S K = (vCall P w0 (ev fr cal) (a.map (ev fr)) S K) := rfl
theorem v_range {P : Program} {w0 : W0} {fr : List DV} {S : St} {K : DV → St → Prop} (t : TypeId) (x : Operand) : vcOp P w0 (.range t x) fr S K = (rgK (tk P t) (mpT P t) S (ev fr x) K) := rfl
theorem v_next {P : Program} {w0 : W0} {fr : List DV} {S : St} {K : DV → St → Prop} (x : Operand) (s : Bool) : vcOp P w0 (.next x s) fr S K = (nxK s S (ev fr x) K) := rfl
theorem w_move {P : Program} {w0 : W0} {fr : List DV} {S : St} {K : DV → Prop} (x : Operand) : vcOpQ P w0 (.move x) fr S K = (K (ev fr x)) := rfl
theorem w_assign {P : Program} {w0 : W0} {fr : List DV} {S : St} {K : DV → Prop} (x : Operand) : vcOpQ P w0 (.assign x) fr S K = (K (ev fr x)) := rfl
theorem w_pick {P : Program} {w0 : W0} {fr : List DV} {S : St} {K : DV → Prop} (c a b : Operand) : vcOpQ P w0 (.pick c a b) fr S K = (vPick (ev fr c) (ev fr a) (ev fr b) K) := rfl
theorem w_load {P : Program} {w0 : W0} {fr : List DV} {S : St} {K : DV → Prop} (t : TypeId) (x : Operand) : vcOpQ P w0 (.load t x) fr S K = (vLoad (tk P t) S (ev fr x) K) := rfl
theorem w_fieldAddr {P : Program} {w0 : W0} {fr : List DV} {S : St} {K : DV → Prop} (t : TypeId) (x : Operand) (f : Nat) : vcOpQ P w0 (.fieldAddr t x f) fr S K = (vField (tk P t) f (ev fr x) K) := rfl
theorem w_indexAddr {P : Program} {w0 : W0} {fr : List DV} {S : St} {K : DV → Prop} (t : TypeId) (x i : Operand) : vcOpQ P w0 (.indexAddr t x i) fr S K = (evG w0 fr x fun d => vIndexAddr (tk P t) d (ev fr i) K) := rfl
theorem w_index {P : Program} {w0 : W0} {fr : List DV} {S : St} {K : DV → Prop} (t : TypeId) (x i : Operand) : vcOpQ P w0 (.index t x i) fr S K = (vIndex (tk P t) (ev fr x) (ev fr i) K) := rfl
theorem w_extract {P : Program} {w0 : W0} {fr : List DV} {S : St} {K : DV → Prop} (x : Operand) (i : Nat) : vcOpQ P w0 (.extract x i) fr S K = (vExtract i (ev fr x) K) := rfl
theorem w_nilCheck {P : Program} {w0 : W0} {fr : List DV} {S : St} {K : DV → Prop} (x : Operand) : vcOpQ P w0 (.nilCheck x) fr S K = (notNil (ev fr x) = true ∧ K (ev fr x)) := rfl
theorem w_binOp {P : Program} {w0 : W0} {fr : List DV} {S : St} {K : DV → Prop} (b : BinOp) (t : TypeId) (x y : Operand) (t' : TypeId) : vcOpQ P w0 (.binOp b t x y t') fr S K = (isNilC y = false ∧ vBinA P b t (isC x) (isC y) (ev fr x) (ev fr y) K) := rfl
theorem w_unOp {P : Program} {w0 : W0} {fr : List DV} {S : St} {K : DV → Prop} (b : UnOp) (t : TypeId) (x : Operand) : vcOpQ P w0 (.unOp b t x) fr S K = (vUn b (ev fr x) K) := rfl
theorem w_convert {P : Program} {w0 : W0} {fr : List DV} {S : St} {K : DV → Prop} (s d : TypeId) (x : Operand) : vcOpQ P w0 (.convert s d x) fr S K = (vConv (tk P s) (tk P d) (ev fr x) K) := rfl
theorem w_slice {P : Program} {w0 : W0} {fr : List DV} {S : St} {K : DV → Prop} (t : TypeId) (x : Operand) (lo hi mx : Option Operand) : vcOpQ P w0 (.slice t x lo hi mx) fr S K = ((mx.isSome = true → hi.isSome = true) ∧ nacc (ev fr x) = true ∧ vSlice (tk P t) (ev fr x) (lo.map (ev fr)) (hi.map (ev fr)) (mx.map (ev fr)) K) := rfl
theorem w_buildSlice {P : Program} {w0 : W0} {fr : List DV} {S : St} {K : DV → Prop} (t : TypeId) (len : Nat) (parts : List (Nat × Operand)) : vcOpQ P w0 (.buildSlice t len parts.toArray) fr S K = ((parts.map fun p => ev fr p.2).all naccA = true ∧ vBuildSlice (tk P t) (zD P (elT P t)) len ((parts.map (·.1)).zip (parts.map fun p => ev fr p.2)) K) := rfl
theorem w_len {P : Program} {w0 : W0} {fr : List DV} {S : St} {K : DV → Prop} (x : Operand) (t : TypeId) : vcOpQ P w0 (.call ⟨.builtin .len, #[x], #[t]⟩) fr S K = (vLen (tk P t) (ev fr x) K) := rfl
theorem w_min {P : Program} {w0 : W0} {fr : List DV} {S : St} {K : DV → Prop} (x y : Operand) (ts : Array TypeId) : vcOpQ P w0 (.call ⟨.builtin .min, #[x, y], ts⟩) fr S K = (vMin (ev fr x) (ev fr y) K) := rfl
theorem w_call {P : Program} {w0 : W0} {fr : List DV} {S : St} {K : DV → Prop} (cal : Operand) (a : List Operand) (ts : Array TypeId) : vcOpQ P w0 (.call ⟨.value cal, a.toArray, ts⟩) fr S K = (vCallQ P w0 (ev fr cal) (a.map (ev fr)) S K) := rfl
attribute [go_sem ↓] v_move v_assign v_pick v_load v_fieldAddr v_indexAddr v_index v_extract v_nilCheck v_binOp v_unOp v_convert v_mkIfc v_build v_buildSlice v_makeFunc v_slice v_box v_alloc v_store v_len v_append v_min v_call v_range v_next w_move
attribute [go_sem ↓] w_assign w_pick w_load w_fieldAddr w_indexAddr w_index w_extract w_nilCheck w_binOp w_unOp w_convert w_slice w_buildSlice w_len w_min w_call
attribute [go_sem] e_isQ_move e_isQ_assign e_isQ_pick e_isQ_load e_isQ_fieldAddr e_isQ_indexAddr e_isQ_index e_isQ_extract e_isQ_nilCheck e_isQ_binOp e_isQ_unOp e_isQ_convert e_isQ_buildSlice e_isQ_slice e_isQ_val e_isQ_b_len e_isQ_b_append e_ev_tmp
attribute [go_sem] e_ev_const e_ev_func e_pt_some e_pt_none e_cv_int e_cv_bool e_cv_str e_cv_nil e_cv_ptr e_cv_nif e_isIfc_int e_intK_sl
attribute [go_sem] e_notInt_sl e_nacc_v e_nacc_sl e_naccA_v e_naccA_agg e_isC_tmp e_isC_const e_vals_nil e_vals_v e_fillD_nil e_fillD_cons e_fd1 e_fillE_nil
attribute [go_sem] e_fillE_cons e_setAll_nil e_setAll_cons e_same_add e_same_sub e_same_mul e_same_quo e_same_rem e_same_and e_same_or e_same_eql e_same_neq e_same_lss e_same_leq e_same_gtr e_same_geq e_same_shl e_same_shr e_replicate_0 e_replicate_s e_set_0 e_set_s e_wk e_wkA_nil e_wkA_n e_wkA_c e_upds_nil e_upds_cons e_app_nil e_app_cons e_evG_tmp
attribute [go_sem] e_evG_glob
section
variable {P : Program} {w0 : W0} {K : DV → Prop} {A B : Prop} {F G : List DV → Prop}
/- Tests: what is known is gone by; what can't be known parts the way. -/
theorem n_cond_t : condD (.v (.bool true)) A B = A := by simp [condD]
theorem n_cond_f : condD (.v (.bool false)) A B = B := by simp [condD]
theorem n_cond_d (p : Prop) [Decidable p] : condD (.v (.bool (decide p))) A B = ((p → A) ∧ (¬ p → B)) := by simp [condD]
theorem n_cond_n (b : Bool) : condD (.v (.bool (!b))) A B = condD (.v (.bool b)) B A := by
 simp only [condD, Bool.not_eq_eq_eq_not, Bool.not_true, Bool.not_false]
 exact propext ⟨fun h => ⟨h.2, h.1⟩, fun h => ⟨h.2, h.1⟩⟩
theorem n_cond_b (b : Bool) : condD (.v (.bool b)) A B = ((b = true → A) ∧ (b = false → B)) := rfl
theorem n_pick_t (a b : DV) : vPick (.v (.bool true)) a b K = K a := by simp [vPick]
theorem n_pick_f (a b : DV) : vPick (.v (.bool false)) a b K = K b := by simp [vPick]
/- A choice between what is known is the test itself. -/
theorem n_gD_tt (t : Nat) (fr : List DV) : gD t (.v (.bool true)) fr true F G = F (fr.set t (.v (.bool true))) := by simp [gD]
theorem n_gD_tf (t : Nat) (fr : List DV) : gD t (.v (.bool true)) fr false F G = G (fr.set t (.v (.bool true))) := by simp [gD]
theorem n_gD_ft (t : Nat) (fr : List DV) : gD t (.v (.bool false)) fr true F G = G (fr.set t (.v (.bool false))) := by simp [gD]
theorem n_gD_ff (t : Nat) (fr : List DV) : gD t (.v (.bool false)) fr false F G = F (fr.set t (.v (.bool false))) := by simp [gD]
theorem n_gD_dt (p : Prop) [Decidable p] (t : Nat) (fr : List DV) : gD t (.v (.bool (decide p))) fr true F G = ((p → F (fr.set t (.v (.bool true)))) ∧ (¬ p → G (fr.set t (.v (.bool false))))) := by simp [gD]
theorem n_gD_df (p : Prop) [Decidable p] (t : Nat) (fr : List DV) : gD t (.v (.bool (decide p))) fr false F G = ((p → G (fr.set t (.v (.bool true)))) ∧ (¬ p → F (fr.set t (.v (.bool false))))) := by
 simp only [gD, decide_eq_false_iff_not, Bool.not_false, decide_eq_true_eq]
 exact propext ⟨fun h => ⟨h.2, h.1⟩, fun h => ⟨h.2, h.1⟩⟩
theorem n_gD_bt (b : Bool) (t : Nat) (fr : List DV) : gD t (.v (.bool b)) fr true F G = ((b = true → F (fr.set t (.v (.bool true)))) ∧ (b = false → G (fr.set t (.v (.bool false))))) := by simp [gD]
theorem n_gD_bf (b : Bool) (t : Nat) (fr : List DV) : gD t (.v (.bool b)) fr false F G = ((b = true → G (fr.set t (.v (.bool true)))) ∧ (b = false → F (fr.set t (.v (.bool false))))) := by
 simp only [gD, Bool.not_false]
 exact propext ⟨fun h => ⟨h.2, h.1⟩, fun h => ⟨h.2, h.1⟩⟩
end
attribute [go_sem ↓] n_cond_t n_cond_f n_cond_d n_cond_n n_pick_t n_pick_f n_gD_tt n_gD_tf n_gD_ft n_gD_ff n_gD_dt n_gD_df
attribute [go_sem ↓ low] n_cond_b n_gD_bt n_gD_bf
attribute [go_sem] List.length_cons List.length_nil List.length_map List.cons_append List.nil_append List.map_cons List.map_nil List.zip_cons_cons List.zip_nil_right
section
variable {P : Program} {w0 : W0} {ops : Array Oper} {K : List DV → St → Prop} {fr : List DV} {S : St} {rest : List Oper} {dst : Option Tmp} {op : Op} {ty : TypeId} {pos : String} {aft : Array Edge}
theorem n_vcL_nil : vcL P w0 ops K [] fr S = K fr S := rfl
theorem n_vcL_none : vcL P w0 ops K (⟨dst, op, ty, pos, aft, none⟩ :: rest) fr S = vcOp P w0 op fr S fun d S' => vcL P w0 ops K rest (pt fr dst d) S' := rfl
theorem n_vcL_some (j : Nat) (want : Bool) : vcL P w0 ops K (⟨dst, op, ty, pos, aft, some (j, want)⟩ :: rest) fr S = gK ((ops[j]?).bind (·.dst)) fr want (fun fr => vcOp P w0 op fr S fun d S' => vcL P w0 ops K rest (pt fr dst d) S') (fun fr => vcL P w0 ops K rest (pt fr dst ud) S) := q_guard _ _ _ _ _ _
end
def QC (P : Program) (w0 : W0) (f : FuncId) (ds : List DV) (S : St) [K : Cn (DV → Prop)] : Prop := ∃ d, ACall P w0 f ds S (fun d' S' => d' = d ∧ S' = S) ∧ K.k d
theorem n_callQ {P : Program} {w0 : W0} (f : FuncId) (a cap : Array Value) (ds : List DV) (S : St) (K : DV → Prop) : vCallQ P w0 (.v (.func (.func f) a cap)) ds S K = (a.size = 0 ∧ okF P f = true ∧ cap.toList.all (fun u => u.oneCell') = true ∧ ds.all naccA = true ∧ @QC P w0 f (ds ++ cap.toList.map .v) S ⟨K⟩) := rfl
attribute [go_sem ↓] n_vcL_nil n_vcL_none n_vcL_some n_callQ thenQ blockQ vBinI vSliceS resKs vCut0
attribute [go_sem] List.getD_cons_succ List.getD_cons_zero List.getElem?_cons_succ List.getElem?_cons_zero List.getElem?_toArray Option.bind_some List.all_cons List.all_nil Bool.and_self Bool.and_true
attribute [go_sem] Nat.zero_add true_and and_true List.drop_zero List.drop_succ_cons List.take_succ_cons List.take_zero Option.map_some Option.map_none Option.isSome_some Option.isSome_none Option.isNone_none Option.isNone_some
attribute [go_sem] Bool.false_eq_true if_true if_false or_true true_or false_or or_false forall_const false_implies imp_self Bool.not_true Bool.not_false beq_self_eq_true decide_eq_true_eq decide_eq_false_iff_not decide_true decide_false
attribute [go_sem] Int.toNat_natCast Int.natCast_nonneg Int.ofNat_lt Int.ofNat_le Int.natCast_inj List.getElem?_map Option.map_eq_some_iff forall_exists_index and_imp forall_apply_eq_imp_iff₂ forall_eq_apply_imp_iff ne_eq not_false_eq_true not_true_eq_false
attribute [go_sem] List.size_toArray List.append_nil Int.le_refl Nat.le_refl List.drop_nil List.take_nil Int.toNat_zero Int.natCast_zero Int.natCast_one Int.cast_ofNat_Int Bool.or_true Bool.or_false Bool.true_or Bool.false_or Bool.false_and Bool.and_false Bool.true_and List.isEmpty_nil List.isEmpty_cons
attribute [go_sem] dI dB dS Nat.lt_add_one forall_eq forall_eq' true_implies implies_true Option.some.injEq
structure FN {α : Type} (l : List (Nat × α)) where
 m : Nat
 h : nin l m
def FN.n {α : Type} {l : List (Nat × α)} (b : FN l) : Nat := b.m
theorem n_fresh {α : Type} (l : List (Nat × α)) (F : Nat → Prop) : (∀ b, nin l b → F b) = ∀ b : FN l, F b.n := propext ⟨fun h b => h b.n b.h, fun h b hb => h ⟨b, hb⟩⟩
theorem nin_lk {α : Type} : ∀ {l : List (Nat × α)} {b : Nat}, nin l b → lk l b = none
 | [], _, _ => rfl
 | (k, x) :: t, b, h => by
  simp only [nin] at h
  unfold lk
  rw [if_neg (by first | exact fun e => h.1 e | exact fun e => h.1 e.symm)]
  exact nin_lk (by first | exact h.2 | exact h.2.2)
theorem fn_lk {α : Type} {l : List (Nat × α)} (b : FN l) : lk l b.n = none := nin_lk b.h
theorem n_fn_ne {α : Type} {l : List (Nat × α)} (b : FN l) (c : Nat) (h : (lk l c).isSome = true) : (b.n = c) = False := by
 refine eq_false fun e => ?_
 subst e; rw [show lk l b.n = none from nin_lk b.h] at h; cases h
section
variable {S : St} {K : DV → St → Prop}
theorem n_bx (d : DV) : bxK S d K = ∀ b : FN S.box, K (.v (.pointer (some ⟨b.n, 0, none⟩))) ⟨(b.n, cd d) :: S.box, S.acc⟩ := n_fresh S.box fun b => K (.v (.pointer (some ⟨b, 0, none⟩))) ⟨(b, cd d) :: S.box, S.acc⟩
theorem n_bx_agg (ds : List DV) : bxK S (.agg ds) K = ∀ b : FN S.box, K (.v (.pointer (some ⟨b.n, 0, none⟩))) ⟨(b.n, ds) :: S.box, S.acc⟩ := n_bx _
theorem n_bx_v (u : Value) : bxK S (.v u) K = ∀ b : FN S.box, K (.v (.pointer (some ⟨b.n, 0, none⟩))) ⟨(b.n, [.v u]) :: S.box, S.acc⟩ := n_bx _
end
def frK (S : St) (f : XO) (K : DV → St → Prop) : Prop := ∀ l, nin S.acc l → K (.it l) ⟨S.box, (l, .xo f) :: S.acc⟩
theorem n_frK (S : St) (f : XO) (K : DV → St → Prop) : frK S f K = ∀ l : FN S.acc, K (.it l.n) ⟨S.box, (l.n, .xo f) :: S.acc⟩ := n_fresh S.acc fun l => K (.it l) ⟨S.box, (l, .xo f) :: S.acc⟩
theorem n_rangeS (s : ByteArray) (S : St) (K : DV → St → Prop) : vRangeS S (.v (.string s)) K = frK S (.si s 0) K := rfl
theorem n_rg_str (m : Option (KK × DV)) (S : St) (x : DV) (K : DV → St → Prop) : rgK .str m S x K = vRangeS S x K := rfl
theorem n_nx_t (S : St) (x : DV) (K : DV → St → Prop) : nxK true S x K = vNextS S x K := rfl
attribute [go_sem ↓] n_frK n_rangeS n_rg_str n_nx_t n_siK n_nextS
attribute [go_sem ↓] n_fresh n_bx_agg n_bx_v
attribute [go_sem] n_fn_ne Option.isSome_some
theorem n_map_take {α β : Type} (f : α → β) (n : Nat) (l : List α) : List.take n (List.map f l) = List.map f (List.take n l) := List.map_take.symm
theorem n_map_drop {α β : Type} (f : α → β) (n : Nat) (l : List α) : List.drop n (List.map f l) = List.map f (List.drop n l) := List.map_drop.symm
attribute [go_sem] n_map_take n_map_drop List.length_append List.length_take List.length_drop List.take_length List.drop_length Nat.min_self
theorem n_not_d (P : Prop) [Decidable P] : (!decide P) = decide (¬ P) := (decide_not).symm
attribute [go_sem] n_not_d Bool.not_eq_true' Bool.not_eq_false'
attribute [go_sem] Value.oneCell' false_and and_false and_self List.length_set
attribute [go_sem] gX_t
attribute [go_sem ↓] q_binA_v q_binA_ifc q_binA_agg q_aggN q_aggK_nil q_aggK_i
attribute [go_sem ↓] n_mpT
attribute [go_sem ↓] q_el_map q_el_zero q_ld_int q_ld_fn q_ld_str q_ld_sl q_ld_st q_load_ip q_ia_sl q_ia_arip q_index q_bin_ii q_bin_ss q_bin_bn q_bin_nne q_bin_nnn q_bin_ine q_bin_inn q_un_not q_un_neg q_conv_i q_shr1_v q_shr1_sl q_shr1s_nil q_shr1s_cons q_shr_v q_shr_sl q_shr_ifc q_shr_acc q_shr_agg q_shrs_nil q_shrs_cons q_shrT_v q_shrT_sl q_shrT_acc q_shrT_tup q_bnd_none q_bnd_some q_slice_sl q_slice_str q_len_sl q_len_str q_min q_sliceX_sl q_sliceX_v q_storeX_v q_cont_sl q_append q_app_cons q_call q_fst_nil q_res_tmp q_res_cell q_resK_one q_resK_nil q_resK_two q_oK_some q_bK_arr q_bK_tl q_load_box q_field q_fi_ptr q_fi_ip q_extract q_shr1_acc q_store q_cont_acc q_app_acc q_guard q_gK_some q_gD_ud q_func q_build q_bu q_bsl
attribute [go_sem] q_okE_v q_okE_agg q_okE_acc q_cd_v q_cd_agg q_cd_acc q_lk_same q_lk_ne q_up_same q_up_ne q_nn_ptr q_isNilC_t q_isNilC_i q_isNilC_s q_isNilC_f q_hasAcc_nil q_hasAcc_acc q_hasAcc_v q_hasAcc_sl q_hasAcc_agg q_hasAcc_ifc q_isRow_sl q_isRow_acc
theorem rc_get_s (r : R16) (l : List DV) (n : Nat) (d : DV) : (rc r l).getD (n + 16) d = l.getD n d := rfl
theorem rc_set_s (r : R16) (l : List DV) (n : Nat) (d : DV) : (rc r l).set (n + 16) d = rc r (l.set n d) := rfl
theorem rc_get_0 (a0 a1 a2 a3 a4 a5 a6 a7 a8 a9 a10 a11 a12 a13 a14 a15 : DV) (l : List DV) (d : DV) : (rc ⟨a0, a1, a2, a3, a4, a5, a6, a7, a8, a9, a10, a11, a12, a13, a14, a15⟩ l).getD 0 d = a0 := rfl
theorem rc_set_0 (a0 a1 a2 a3 a4 a5 a6 a7 a8 a9 a10 a11 a12 a13 a14 a15 : DV) (l : List DV) (d : DV) : (rc ⟨a0, a1, a2, a3, a4, a5, a6, a7, a8, a9, a10, a11, a12, a13, a14, a15⟩ l).set 0 d = rc ⟨d, a1, a2, a3, a4, a5, a6, a7, a8, a9, a10, a11, a12, a13, a14, a15⟩ l := rfl
theorem rc_get_1 (a0 a1 a2 a3 a4 a5 a6 a7 a8 a9 a10 a11 a12 a13 a14 a15 : DV) (l : List DV) (d : DV) : (rc ⟨a0, a1, a2, a3, a4, a5, a6, a7, a8, a9, a10, a11, a12, a13, a14, a15⟩ l).getD 1 d = a1 := rfl
theorem rc_set_1 (a0 a1 a2 a3 a4 a5 a6 a7 a8 a9 a10 a11 a12 a13 a14 a15 : DV) (l : List DV) (d : DV) : (rc ⟨a0, a1, a2, a3, a4, a5, a6, a7, a8, a9, a10, a11, a12, a13, a14, a15⟩ l).set 1 d = rc ⟨a0, d, a2, a3, a4, a5, a6, a7, a8, a9, a10, a11, a12, a13, a14, a15⟩ l := rfl
theorem rc_get_2 (a0 a1 a2 a3 a4 a5 a6 a7 a8 a9 a10 a11 a12 a13 a14 a15 : DV) (l : List DV) (d : DV) : (rc ⟨a0, a1, a2, a3, a4, a5, a6, a7, a8, a9, a10, a11, a12, a13, a14, a15⟩ l).getD 2 d = a2 := rfl
theorem rc_set_2 (a0 a1 a2 a3 a4 a5 a6 a7 a8 a9 a10 a11 a12 a13 a14 a15 : DV) (l : List DV) (d : DV) : (rc ⟨a0, a1, a2, a3, a4, a5, a6, a7, a8, a9, a10, a11, a12, a13, a14, a15⟩ l).set 2 d = rc ⟨a0, a1, d, a3, a4, a5, a6, a7, a8, a9, a10, a11, a12, a13, a14, a15⟩ l := rfl
theorem rc_get_3 (a0 a1 a2 a3 a4 a5 a6 a7 a8 a9 a10 a11 a12 a13 a14 a15 : DV) (l : List DV) (d : DV) : (rc ⟨a0, a1, a2, a3, a4, a5, a6, a7, a8, a9, a10, a11, a12, a13, a14, a15⟩ l).getD 3 d = a3 := rfl
theorem rc_set_3 (a0 a1 a2 a3 a4 a5 a6 a7 a8 a9 a10 a11 a12 a13 a14 a15 : DV) (l : List DV) (d : DV) : (rc ⟨a0, a1, a2, a3, a4, a5, a6, a7, a8, a9, a10, a11, a12, a13, a14, a15⟩ l).set 3 d = rc ⟨a0, a1, a2, d, a4, a5, a6, a7, a8, a9, a10, a11, a12, a13, a14, a15⟩ l := rfl
theorem rc_get_4 (a0 a1 a2 a3 a4 a5 a6 a7 a8 a9 a10 a11 a12 a13 a14 a15 : DV) (l : List DV) (d : DV) : (rc ⟨a0, a1, a2, a3, a4, a5, a6, a7, a8, a9, a10, a11, a12, a13, a14, a15⟩ l).getD 4 d = a4 := rfl
theorem rc_set_4 (a0 a1 a2 a3 a4 a5 a6 a7 a8 a9 a10 a11 a12 a13 a14 a15 : DV) (l : List DV) (d : DV) : (rc ⟨a0, a1, a2, a3, a4, a5, a6, a7, a8, a9, a10, a11, a12, a13, a14, a15⟩ l).set 4 d = rc ⟨a0, a1, a2, a3, d, a5, a6, a7, a8, a9, a10, a11, a12, a13, a14, a15⟩ l := rfl
theorem rc_get_5 (a0 a1 a2 a3 a4 a5 a6 a7 a8 a9 a10 a11 a12 a13 a14 a15 : DV) (l : List DV) (d : DV) : (rc ⟨a0, a1, a2, a3, a4, a5, a6, a7, a8, a9, a10, a11, a12, a13, a14, a15⟩ l).getD 5 d = a5 := rfl
theorem rc_set_5 (a0 a1 a2 a3 a4 a5 a6 a7 a8 a9 a10 a11 a12 a13 a14 a15 : DV) (l : List DV) (d : DV) : (rc ⟨a0, a1, a2, a3, a4, a5, a6, a7, a8, a9, a10, a11, a12, a13, a14, a15⟩ l).set 5 d = rc ⟨a0, a1, a2, a3, a4, d, a6, a7, a8, a9, a10, a11, a12, a13, a14, a15⟩ l := rfl
theorem rc_get_6 (a0 a1 a2 a3 a4 a5 a6 a7 a8 a9 a10 a11 a12 a13 a14 a15 : DV) (l : List DV) (d : DV) : (rc ⟨a0, a1, a2, a3, a4, a5, a6, a7, a8, a9, a10, a11, a12, a13, a14, a15⟩ l).getD 6 d = a6 := rfl
theorem rc_set_6 (a0 a1 a2 a3 a4 a5 a6 a7 a8 a9 a10 a11 a12 a13 a14 a15 : DV) (l : List DV) (d : DV) : (rc ⟨a0, a1, a2, a3, a4, a5, a6, a7, a8, a9, a10, a11, a12, a13, a14, a15⟩ l).set 6 d = rc ⟨a0, a1, a2, a3, a4, a5, d, a7, a8, a9, a10, a11, a12, a13, a14, a15⟩ l := rfl
theorem rc_get_7 (a0 a1 a2 a3 a4 a5 a6 a7 a8 a9 a10 a11 a12 a13 a14 a15 : DV) (l : List DV) (d : DV) : (rc ⟨a0, a1, a2, a3, a4, a5, a6, a7, a8, a9, a10, a11, a12, a13, a14, a15⟩ l).getD 7 d = a7 := rfl
theorem rc_set_7 (a0 a1 a2 a3 a4 a5 a6 a7 a8 a9 a10 a11 a12 a13 a14 a15 : DV) (l : List DV) (d : DV) : (rc ⟨a0, a1, a2, a3, a4, a5, a6, a7, a8, a9, a10, a11, a12, a13, a14, a15⟩ l).set 7 d = rc ⟨a0, a1, a2, a3, a4, a5, a6, d, a8, a9, a10, a11, a12, a13, a14, a15⟩ l := rfl
theorem rc_get_8 (a0 a1 a2 a3 a4 a5 a6 a7 a8 a9 a10 a11 a12 a13 a14 a15 : DV) (l : List DV) (d : DV) : (rc ⟨a0, a1, a2, a3, a4, a5, a6, a7, a8, a9, a10, a11, a12, a13, a14, a15⟩ l).getD 8 d = a8 := rfl
theorem rc_set_8 (a0 a1 a2 a3 a4 a5 a6 a7 a8 a9 a10 a11 a12 a13 a14 a15 : DV) (l : List DV) (d : DV) : (rc ⟨a0, a1, a2, a3, a4, a5, a6, a7, a8, a9, a10, a11, a12, a13, a14, a15⟩ l).set 8 d = rc ⟨a0, a1, a2, a3, a4, a5, a6, a7, d, a9, a10, a11, a12, a13, a14, a15⟩ l := rfl
theorem rc_get_9 (a0 a1 a2 a3 a4 a5 a6 a7 a8 a9 a10 a11 a12 a13 a14 a15 : DV) (l : List DV) (d : DV) : (rc ⟨a0, a1, a2, a3, a4, a5, a6, a7, a8, a9, a10, a11, a12, a13, a14, a15⟩ l).getD 9 d = a9 := rfl
theorem rc_set_9 (a0 a1 a2 a3 a4 a5 a6 a7 a8 a9 a10 a11 a12 a13 a14 a15 : DV) (l : List DV) (d : DV) : (rc ⟨a0, a1, a2, a3, a4, a5, a6, a7, a8, a9, a10, a11, a12, a13, a14, a15⟩ l).set 9 d = rc ⟨a0, a1, a2, a3, a4, a5, a6, a7, a8, d, a10, a11, a12, a13, a14, a15⟩ l := rfl
theorem rc_get_10 (a0 a1 a2 a3 a4 a5 a6 a7 a8 a9 a10 a11 a12 a13 a14 a15 : DV) (l : List DV) (d : DV) : (rc ⟨a0, a1, a2, a3, a4, a5, a6, a7, a8, a9, a10, a11, a12, a13, a14, a15⟩ l).getD 10 d = a10 := rfl
theorem rc_set_10 (a0 a1 a2 a3 a4 a5 a6 a7 a8 a9 a10 a11 a12 a13 a14 a15 : DV) (l : List DV) (d : DV) : (rc ⟨a0, a1, a2, a3, a4, a5, a6, a7, a8, a9, a10, a11, a12, a13, a14, a15⟩ l).set 10 d = rc ⟨a0, a1, a2, a3, a4, a5, a6, a7, a8, a9, d, a11, a12, a13, a14, a15⟩ l := rfl
theorem rc_get_11 (a0 a1 a2 a3 a4 a5 a6 a7 a8 a9 a10 a11 a12 a13 a14 a15 : DV) (l : List DV) (d : DV) : (rc ⟨a0, a1, a2, a3, a4, a5, a6, a7, a8, a9, a10, a11, a12, a13, a14, a15⟩ l).getD 11 d = a11 := rfl
theorem rc_set_11 (a0 a1 a2 a3 a4 a5 a6 a7 a8 a9 a10 a11 a12 a13 a14 a15 : DV) (l : List DV) (d : DV) : (rc ⟨a0, a1, a2, a3, a4, a5, a6, a7, a8, a9, a10, a11, a12, a13, a14, a15⟩ l).set 11 d = rc ⟨a0, a1, a2, a3, a4, a5, a6, a7, a8, a9, a10, d, a12, a13, a14, a15⟩ l := rfl
theorem rc_get_12 (a0 a1 a2 a3 a4 a5 a6 a7 a8 a9 a10 a11 a12 a13 a14 a15 : DV) (l : List DV) (d : DV) : (rc ⟨a0, a1, a2, a3, a4, a5, a6, a7, a8, a9, a10, a11, a12, a13, a14, a15⟩ l).getD 12 d = a12 := rfl
theorem rc_set_12 (a0 a1 a2 a3 a4 a5 a6 a7 a8 a9 a10 a11 a12 a13 a14 a15 : DV) (l : List DV) (d : DV) : (rc ⟨a0, a1, a2, a3, a4, a5, a6, a7, a8, a9, a10, a11, a12, a13, a14, a15⟩ l).set 12 d = rc ⟨a0, a1, a2, a3, a4, a5, a6, a7, a8, a9, a10, a11, d, a13, a14, a15⟩ l := rfl
theorem rc_get_13 (a0 a1 a2 a3 a4 a5 a6 a7 a8 a9 a10 a11 a12 a13 a14 a15 : DV) (l : List DV) (d : DV) : (rc ⟨a0, a1, a2, a3, a4, a5, a6, a7, a8, a9, a10, a11, a12, a13, a14, a15⟩ l).getD 13 d = a13 := rfl
theorem rc_set_13 (a0 a1 a2 a3 a4 a5 a6 a7 a8 a9 a10 a11 a12 a13 a14 a15 : DV) (l : List DV) (d : DV) : (rc ⟨a0, a1, a2, a3, a4, a5, a6, a7, a8, a9, a10, a11, a12, a13, a14, a15⟩ l).set 13 d = rc ⟨a0, a1, a2, a3, a4, a5, a6, a7, a8, a9, a10, a11, a12, d, a14, a15⟩ l := rfl
theorem rc_get_14 (a0 a1 a2 a3 a4 a5 a6 a7 a8 a9 a10 a11 a12 a13 a14 a15 : DV) (l : List DV) (d : DV) : (rc ⟨a0, a1, a2, a3, a4, a5, a6, a7, a8, a9, a10, a11, a12, a13, a14, a15⟩ l).getD 14 d = a14 := rfl
theorem rc_set_14 (a0 a1 a2 a3 a4 a5 a6 a7 a8 a9 a10 a11 a12 a13 a14 a15 : DV) (l : List DV) (d : DV) : (rc ⟨a0, a1, a2, a3, a4, a5, a6, a7, a8, a9, a10, a11, a12, a13, a14, a15⟩ l).set 14 d = rc ⟨a0, a1, a2, a3, a4, a5, a6, a7, a8, a9, a10, a11, a12, a13, d, a15⟩ l := rfl
theorem rc_get_15 (a0 a1 a2 a3 a4 a5 a6 a7 a8 a9 a10 a11 a12 a13 a14 a15 : DV) (l : List DV) (d : DV) : (rc ⟨a0, a1, a2, a3, a4, a5, a6, a7, a8, a9, a10, a11, a12, a13, a14, a15⟩ l).getD 15 d = a15 := rfl
theorem rc_set_15 (a0 a1 a2 a3 a4 a5 a6 a7 a8 a9 a10 a11 a12 a13 a14 a15 : DV) (l : List DV) (d : DV) : (rc ⟨a0, a1, a2, a3, a4, a5, a6, a7, a8, a9, a10, a11, a12, a13, a14, a15⟩ l).set 15 d = rc ⟨a0, a1, a2, a3, a4, a5, a6, a7, a8, a9, a10, a11, a12, a13, a14, d⟩ l := rfl
theorem rc_wkA (a0 a1 a2 a3 a4 a5 a6 a7 a8 a9 a10 a11 a12 a13 a14 a15 : DV) (l : List DV) (i : Nat) (js : List Nat) : wkA (rc ⟨a0, a1, a2, a3, a4, a5, a6, a7, a8, a9, a10, a11, a12, a13, a14, a15⟩ l) i js = wkA (a0 :: a1 :: a2 :: a3 :: a4 :: a5 :: a6 :: a7 :: a8 :: a9 :: a10 :: a11 :: a12 :: a13 :: a14 :: a15 :: l) i js := rfl
theorem fold_s (a0 a1 a2 a3 a4 a5 a6 a7 a8 a9 a10 a11 a12 a13 a14 a15 : DV) (l : List DV) : foldF (a0 :: a1 :: a2 :: a3 :: a4 :: a5 :: a6 :: a7 :: a8 :: a9 :: a10 :: a11 :: a12 :: a13 :: a14 :: a15 :: l) = rc ⟨a0, a1, a2, a3, a4, a5, a6, a7, a8, a9, a10, a11, a12, a13, a14, a15⟩ (foldF l) := rfl
theorem fold_0  : foldF [] = [] := rfl
theorem fold_1 (a0 : DV) : foldF [a0] = [a0] := rfl
theorem fold_2 (a0 a1 : DV) : foldF [a0, a1] = [a0, a1] := rfl
theorem fold_3 (a0 a1 a2 : DV) : foldF [a0, a1, a2] = [a0, a1, a2] := rfl
theorem fold_4 (a0 a1 a2 a3 : DV) : foldF [a0, a1, a2, a3] = [a0, a1, a2, a3] := rfl
theorem fold_5 (a0 a1 a2 a3 a4 : DV) : foldF [a0, a1, a2, a3, a4] = [a0, a1, a2, a3, a4] := rfl
theorem fold_6 (a0 a1 a2 a3 a4 a5 : DV) : foldF [a0, a1, a2, a3, a4, a5] = [a0, a1, a2, a3, a4, a5] := rfl
theorem fold_7 (a0 a1 a2 a3 a4 a5 a6 : DV) : foldF [a0, a1, a2, a3, a4, a5, a6] = [a0, a1, a2, a3, a4, a5, a6] := rfl
theorem fold_8 (a0 a1 a2 a3 a4 a5 a6 a7 : DV) : foldF [a0, a1, a2, a3, a4, a5, a6, a7] = [a0, a1, a2, a3, a4, a5, a6, a7] := rfl
theorem fold_9 (a0 a1 a2 a3 a4 a5 a6 a7 a8 : DV) : foldF [a0, a1, a2, a3, a4, a5, a6, a7, a8] = [a0, a1, a2, a3, a4, a5, a6, a7, a8] := rfl
theorem fold_10 (a0 a1 a2 a3 a4 a5 a6 a7 a8 a9 : DV) : foldF [a0, a1, a2, a3, a4, a5, a6, a7, a8, a9] = [a0, a1, a2, a3, a4, a5, a6, a7, a8, a9] := rfl
theorem fold_11 (a0 a1 a2 a3 a4 a5 a6 a7 a8 a9 a10 : DV) : foldF [a0, a1, a2, a3, a4, a5, a6, a7, a8, a9, a10] = [a0, a1, a2, a3, a4, a5, a6, a7, a8, a9, a10] := rfl
theorem fold_12 (a0 a1 a2 a3 a4 a5 a6 a7 a8 a9 a10 a11 : DV) : foldF [a0, a1, a2, a3, a4, a5, a6, a7, a8, a9, a10, a11] = [a0, a1, a2, a3, a4, a5, a6, a7, a8, a9, a10, a11] := rfl
theorem fold_13 (a0 a1 a2 a3 a4 a5 a6 a7 a8 a9 a10 a11 a12 : DV) : foldF [a0, a1, a2, a3, a4, a5, a6, a7, a8, a9, a10, a11, a12] = [a0, a1, a2, a3, a4, a5, a6, a7, a8, a9, a10, a11, a12] := rfl
theorem fold_14 (a0 a1 a2 a3 a4 a5 a6 a7 a8 a9 a10 a11 a12 a13 : DV) : foldF [a0, a1, a2, a3, a4, a5, a6, a7, a8, a9, a10, a11, a12, a13] = [a0, a1, a2, a3, a4, a5, a6, a7, a8, a9, a10, a11, a12, a13] := rfl
theorem fold_15 (a0 a1 a2 a3 a4 a5 a6 a7 a8 a9 a10 a11 a12 a13 a14 : DV) : foldF [a0, a1, a2, a3, a4, a5, a6, a7, a8, a9, a10, a11, a12, a13, a14] = [a0, a1, a2, a3, a4, a5, a6, a7, a8, a9, a10, a11, a12, a13, a14] := rfl
attribute [go_sem] rc_get_s rc_set_s rc_get_0 rc_set_0 rc_get_1 rc_set_1 rc_get_2 rc_set_2 rc_get_3 rc_set_3 rc_get_4 rc_set_4 rc_get_5 rc_set_5 rc_get_6 rc_set_6 rc_get_7 rc_set_7 rc_get_8 rc_set_8 rc_get_9 rc_set_9 rc_get_10 rc_set_10 rc_get_11 rc_set_11 rc_get_12 rc_set_12 rc_get_13 rc_set_13 rc_get_14 rc_set_14 rc_get_15 rc_set_15 rc_wkA fold_s fold_0 fold_1 fold_2 fold_3 fold_4 fold_5 fold_6 fold_7 fold_8 fold_9 fold_10 fold_11 fold_12 fold_13 fold_14 fold_15
end Aml
namespace Aml
open Go Go.RowKit
def vcLT (P : Program) (w0 : W0) (S : St) (ops : Array Oper) (K : List DV → St → Prop) : List Oper → List DV → Prop
 | [], fr => K fr S
 | o :: rest, fr => selK (isQ o.op)
  (guardK ops fr o.guard (fun fr => vcOpQ P w0 o.op fr S fun d => vcLT P w0 S ops K rest (pt fr o.dst d)) (fun fr => vcLT P w0 S ops K rest (pt fr o.dst ud)))
  (vcL P w0 ops K (o :: rest) fr S)
section
variable {P : Program} {w0 : W0}
theorem vcLT_split {S : St} {ops : Array Oper} {K : List DV → St → Prop} : ∀ {l : List Oper} {fr : List DV}, l.all (fun o => okSl o.op) = true → vcLT P w0 S ops K l fr → LQ P w0 S ops (fun fr => vcL P w0 ops K (l.drop (npre l)) fr S) (l.take (npre l)) fr
 | [], fr, _, h => h
 | o :: rest, fr, hs, h => by
  simp only [List.all_cons, Bool.and_eq_true] at hs
  unfold vcLT selK at h
  cases hq : isQ o.op with
  | true =>
   rw [hq] at h
   simp only at h
   have e : npre (o :: rest) = npre rest + 1 := by simp [npre, List.takeWhile_cons, hq]
   rw [e, List.take_succ_cons, List.drop_succ_cons]
   refine guardK_mono (fun fr h => ?_) (fun fr h => vcLT_split hs.2 h) h
   obtain ⟨d, q1, q2⟩ := vcOpQ_sound hs.1 h
   exact ⟨d, q1, vcLT_split hs.2 q2⟩
  | false =>
   rw [hq] at h
   have e : npre (o :: rest) = 0 := by simp [npre, List.takeWhile_cons, hq]
   rw [e]
   exact h
theorem LQ_arr {S : St} {a b : Array Oper} {K : List DV → Prop} : ∀ {l : List Oper} {fr : List DV}, (∀ o, o ∈ l → ∀ j want, o.guard = some (j, want) → a[j]? = b[j]?) → LQ P w0 S a K l fr → LQ P w0 S b K l fr
 | [], fr, _, h => h
 | o :: rest, fr, hg, h => by
  have h' : guardK a fr o.guard (fun fr => ∃ d, QY P w0 S o fr d ∧ LQ P w0 S b K rest (pt fr o.dst d)) (fun fr => LQ P w0 S b K rest (pt fr o.dst ud)) :=
   guardK_mono (fun fr ⟨d, q1, q2⟩ => ⟨d, q1, LQ_arr (fun o ho => hg o (List.mem_cons_of_mem _ ho)) q2⟩) (fun fr h => LQ_arr (fun o ho => hg o (List.mem_cons_of_mem _ ho)) h) h
  unfold guardK at h'
  show guardK b fr o.guard _ _
  unfold guardK
  cases hgo : o.guard with
  | none => rw [hgo] at h'; exact h'
  | some p =>
   obtain ⟨j, want⟩ := p
   rw [hgo] at h'
   simp only at h' ⊢
   rw [← hg o List.mem_cons_self j want hgo]
   exact h'
theorem awp_drawX {id : Nat} {l : List Oper} {fr : List DV} {S : St} {Q : Exit → List DV → St → Prop} (hm : P.follows .mixedOrders = true) (hB : Region.lexB .any (l.take (npre l)).toArray = true) (hT : tailB .any l.toArray (npre l) = true) (hs : l.all (fun o => okSl o.op) = true)
  (h : vcLT P w0 S l.toArray (fun fr S => Q .normal fr S) l fr) : AWp P w0 (.region id l.toArray true) fr S Q := by
 have hn : npre l ≤ l.length := by
  unfold npre
  exact List.Sublist.length_le (List.takeWhile_sublist _)
 refine awp_drawT (npre l) hn hm hB hT hs (LQ_arr ?_ (vcLT_split hs h))
 intro o ho j want hg
 simp only [tailB, Bool.and_eq_true] at hT
 have := List.all_eq_true.1 hT.2 o (by simpa using ho)
 simp only [hg, decide_eq_true_eq] at this
 simp [List.getElem?_take, this]
def AL (P : Program) (w0 : W0) (fr : List DV) (S : St) [c : Cn (Code × (Exit → List DV → St → Prop))] : Prop := AWp P w0 c.k.1 fr S c.k.2
def vw (P : Program) (w0 : W0) (ss : List Nat) : Code → List DV → St → (Exit → List DV → St → Prop) → Prop
 | .skip, fr, S, Q => Q .normal fr S
 | .seq x y, fr, S, Q => vw P w0 ss x fr S (thenQ (fun fr S => vw P w0 ss y fr S Q) Q)
 | .cond c x y, fr, S, Q => condD (ev fr c) (vw P w0 ss x fr S Q) (vw P w0 ss y fr S Q)
 | .block n c, fr, S, Q => selK (ss.contains (n + 1000)) (@AL P w0 fr S ⟨((.block n c), Q)⟩) (vw P w0 ss c fr S (blockQ n Q))
 | .exit n, fr, S, Q => Q (.exit n) fr S
 | .ret, fr, S, Q => Q .ret fr S
 | .region n ops dr, fr, S, Q => selK (ss.contains n) (@AL P w0 fr S ⟨((.region n ops dr), Q)⟩)
  (selK dr (vcLT P w0 S ops (fun fr S => Q .normal fr S) ops.toList fr) (vcL P w0 ops (fun fr S => Q .normal fr S) ops.toList fr S))
 | c, fr, S, Q => @AL P w0 fr S ⟨(c, Q)⟩
/- How it goes. -/
section
variable {P : Program} {w0 : W0} {ss : List Nat} {fr : List DV} {S : St} {Q : Exit → List DV → St → Prop}
theorem n_vw_skip : vw P w0 ss .skip fr S Q = Q .normal fr S := rfl
theorem n_vw_seq (x y : Code) : vw P w0 ss (.seq x y) fr S Q = vw P w0 ss x fr S (thenQ (fun fr S => vw P w0 ss y fr S Q) Q) := rfl
theorem n_vw_cond (c : Operand) (x y : Code) : vw P w0 ss (.cond c x y) fr S Q = condD (ev fr c) (vw P w0 ss x fr S Q) (vw P w0 ss y fr S Q) := rfl
theorem n_vw_block (n : Nat) (c : Code) : vw P w0 ss (.block n c) fr S Q = selK (ss.contains (n + 1000)) (@AL P w0 fr S ⟨((.block n c), Q)⟩) (vw P w0 ss c fr S (blockQ n Q)) := rfl
theorem n_vw_exit (n : Nat) : vw P w0 ss (.exit n) fr S Q = Q (.exit n) fr S := rfl
theorem n_vw_ret : vw P w0 ss .ret fr S Q = Q .ret fr S := rfl
def normF (fr : List DV) (F : List DV → Prop) : Prop := F fr
@[congr] theorem c_normF {fr fr' : List DV} {F : List DV → Prop} (h : fr = fr') : normF fr F = normF fr' F := by cases h; rfl
theorem n_normF (d : DV) (fr : List DV) (F : List DV → Prop) : normF (d :: fr) F = F (d :: fr) := rfl
theorem n_normF_rc (r : R16) (fr : List DV) (F : List DV → Prop) : normF (rc r fr) F = F (rc r fr) := rfl
attribute [go_sem ↓] n_normF n_normF_rc
theorem n_vw_regF (n : Nat) (l : List Oper) : vw P w0 ss (.region n l.toArray false) fr S Q = selK (ss.contains n) (@AL P w0 fr S ⟨((.region n l.toArray false), Q)⟩) (vcL P w0 l.toArray (fun fr S => normF fr fun fr => Q .normal fr S) l fr S) := by simp [vw, selK, normF]
theorem n_vw_regT (n : Nat) (l : List Oper) : vw P w0 ss (.region n l.toArray true) fr S Q = selK (ss.contains n) (@AL P w0 fr S ⟨((.region n l.toArray true), Q)⟩) (vcLT P w0 S l.toArray (fun fr S => normF fr fun fr => Q .normal fr S) l fr) := by simp [vw, selK, normF]
section
variable {ops : Array Oper} {K : List DV → St → Prop} {rest : List Oper} {dst : Option Tmp} {op : Op} {ty : TypeId} {pos : String} {aft : Array Edge}
theorem n_LT_nil : vcLT P w0 S ops K [] fr = K fr S := rfl
theorem n_LT_none : vcLT P w0 S ops K (⟨dst, op, ty, pos, aft, none⟩ :: rest) fr = selK (isQ op) (vcOpQ P w0 op fr S fun d => vcLT P w0 S ops K rest (pt fr dst d)) (vcL P w0 ops K (⟨dst, op, ty, pos, aft, none⟩ :: rest) fr S) := rfl
theorem n_LT_some (j : Nat) (want : Bool) : vcLT P w0 S ops K (⟨dst, op, ty, pos, aft, some (j, want)⟩ :: rest) fr = selK (isQ op) (gK ((ops[j]?).bind (·.dst)) fr want (fun fr => vcOpQ P w0 op fr S fun d => vcLT P w0 S ops K rest (pt fr dst d)) (fun fr => vcLT P w0 S ops K rest (pt fr dst ud))) (vcL P w0 ops K (⟨dst, op, ty, pos, aft, some (j, want)⟩ :: rest) fr S) := by
 rw [← q_guard]; rfl
end
def normL (l : List Oper) (F : List Oper → Prop) : Prop := F l
@[congr] theorem c_normL {l l' : List Oper} {F : List Oper → Prop} (h : l = l') : normL l F = normL l' F := by cases h; rfl
theorem n_normL (l : List Oper) (F : List Oper → Prop) : normL l F = F l := rfl
theorem n_vw_regA (n : Nat) (l1 l2 : List Oper) (dr : Bool) : vw P w0 ss (.region n (l1.append l2).toArray dr) fr S Q = normL (l1.append l2) (fun l => vw P w0 ss (.region n l.toArray dr) fr S Q) := rfl
theorem n_vw_loop (c : Code) : vw P w0 ss (.loop c) fr S Q = @AL P w0 fr S ⟨((.loop c), Q)⟩ := rfl
@[congr] theorem c_vw {c : Code} {fr' : List DV} {S' : St} (h1 : fr = fr') (h2 : S = S') : vw P w0 ss c fr S Q = vw P w0 ss c fr' S' Q := by cases h1; cases h2; rfl
@[congr] theorem c_vcLT {ops : Array Oper} {K : List DV → St → Prop} {l : List Oper} {fr' : List DV} {S' : St} (h1 : fr = fr') (h2 : S = S') : vcLT P w0 S ops K l fr = vcLT P w0 S' ops K l fr' := by cases h1; cases h2; rfl
@[congr] theorem c_AWp {c : Code} {fr' : List DV} {S' : St} (h1 : fr = fr') (h2 : S = S') : AWp P w0 c fr S Q = AWp P w0 c fr' S' Q := by cases h1; cases h2; rfl
end
attribute [go_sem] n_normL List.contains_nil List.contains_cons
attribute [go_sem ↓] n_LT_nil n_LT_none n_LT_some n_vw_skip n_vw_seq n_vw_cond n_vw_block n_vw_exit n_vw_ret n_vw_regF n_vw_regT n_vw_loop
attribute [go_sem ↓ high] n_vw_regA
section
variable {md : Region.Mode} {ops : Array Oper}
def lexG (md : Region.Mode) (ops : Array Oper) : Nat → List Oper → Bool
 | _, [] => true
 | k, o :: l => o.after.toList.all (fun e => !Region.binds md e || decide (e.on < k)) && l.all (fun oj => oj.after.toList.any (fun e => Region.binds md e && e.on == k) || o.apart ops oj) && lexG md ops (k + 1) l
theorem lexFrom_of : ∀ (l : List Oper) (k : Nat) (listed : Array Bool), (∀ j, l[j]? = ops[k + j]?) → listed.size = ops.size → (∀ i, i < k → listed[i]? = some true) → (∀ i, k ≤ i → i < ops.size → listed[i]? = some false) → lexG md ops k l = true → Region.lexFrom md ops l.length k listed = true
 | [], k, listed, hl, hs, h1, h2, _ => by
  simp only [List.length_nil, Region.lexFrom]
  have : Region.ready md ops listed = [] := List.eq_nil_iff_forall_not_mem.2 fun i hi => by
   obtain ⟨hun, o, ho, _⟩ := mem_ready.1 hi
   rw [getD_true] at hun
   rcases Nat.lt_or_ge i k with h | h
   ·rw [h1 i h] at hun; cases hun
   ·have := hl (i - k)
    rw [show k + (i - k) = i by omega, ho] at this
    simp at this
  rw [this]; rfl
 | o :: l, k, listed, hl, hs, h1, h2, hG => by
  have h0 : ops[k]? = some o := by simpa using (hl 0).symm
  have hk : k < ops.size := (Array.getElem?_eq_some_iff.1 h0).1
  simp only [lexG, Bool.and_eq_true] at hG
  obtain ⟨⟨ha, hb⟩, hc⟩ := hG
  simp only [List.length_cons, Region.lexFrom, Bool.and_eq_true]
  have hr : k ∈ Region.ready md ops listed := mem_ready.2 ⟨getD_true.2 (h2 k (Nat.le_refl _) hk), o, h0, fun e he hbind => by
   have := List.all_eq_true.1 ha e (Array.mem_toList_iff.2 he)
   rw [hbind] at this
   simp at this
   exact getD_false.2 (h1 _ this)⟩
  refine ⟨⟨by simpa using hr, ?_⟩, ?_⟩
  ·unfold Region.free
   rw [h0]
   simp only [List.all_eq_true, List.mem_range]
   intro j hj
   rcases Nat.lt_trichotomy j k with h | h | h
   ·have : listed.getD j true = true := by rw [Array.getD_eq_getD_getElem?, h1 j h]; rfl
    simp [this]
   ·simp [h]
   ·have hj2 := hl (j - k)
    rw [show k + (j - k) = j by omega, show j - k = (j - k - 1) + 1 by omega, List.getElem?_cons_succ] at hj2
    rw [← hj2]
    cases hq : l[j - k - 1]? with
    | none => simp
    | some oj =>
     have := List.all_eq_true.1 hb oj (List.mem_of_getElem? hq)
     simp only [Bool.or_eq_true] at this ⊢
     refine .inr ?_
     rcases this with h | h
     ·refine .inl ?_
      obtain ⟨e, he, h⟩ := List.any_eq_true.1 h
      exact Array.any_eq_true'.2 ⟨e, Array.mem_toList_iff.1 he, h⟩
     ·exact .inr h
  ·refine lexFrom_of l (k + 1) _ (fun j => ?_) (by simpa using hs) (fun i hi => ?_) (fun i hi hi2 => ?_) hc
   ·have := hl (j + 1)
    simpa [Nat.add_assoc, Nat.add_comm 1 j] using this
   ·rw [Array.getElem?_setIfInBounds]
    by_cases h : k = i
    ·subst h; rw [if_pos rfl, if_pos (by omega)]
    ·rw [if_neg h]; exact h1 i (by omega)
   ·rw [Array.getElem?_setIfInBounds, if_neg (by omega)]
    exact h2 i (by omega) hi2
theorem lexG_sound {l : List Oper} (hs : Region.noSelect l.toArray = true) (h : lexG md l.toArray 0 l = true) : Region.lexB md l.toArray = true := by
 unfold Region.lexB
 rw [hs, Bool.true_and]
 have := lexFrom_of (md := md) (ops := l.toArray) l 0 (Array.replicate l.toArray.size false) (fun j => by simp) (by simp) (fun i hi => absurd hi (by omega)) (fun i _ hi => by rw [Array.getElem?_replicate, if_pos hi]) h
 simpa using this
end
def okC (ss : List Nat) : Code → Bool
 | .seq x y => okC ss x && okC ss y
 | .cond _ x y => okC ss x && okC ss y
 | .block n c => ss.contains (n + 1000) || okC ss c
 | .region n ops false => ss.contains n || ops.toList.all (fun o => okSl o.op)
 | .region n ops true => ss.contains n || (ops.toList.all (fun o => okSl o.op) && Region.noSelect (ops.toList.take (npre ops.toList)).toArray && lexG .any (ops.toList.take (npre ops.toList)).toArray 0 (ops.toList.take (npre ops.toList)) && tailB .any ops (npre ops.toList))
 | _ => true
theorem vw_sound {ss : List Nat} (hm : P.follows .mixedOrders = true) : ∀ (c : Code) {fr : List DV} {S : St} {Q : Exit → List DV → St → Prop}, okC ss c = true → vw P w0 ss c fr S Q → AWp P w0 c fr S Q
 | .skip, fr, S, Q, _, h => awp_skip h
 | .seq x y, fr, S, Q, ho, h => by
  simp only [okC, Bool.and_eq_true] at ho
  exact awp_seq ((vw_sound hm x ho.1 h).mono fun e fr S hq => by cases e <;> first | exact vw_sound hm y ho.2 hq | exact hq)
 | .cond c x y, fr, S, Q, ho, h => by
  simp only [okC, Bool.and_eq_true] at ho
  exact awp_cond (condD_mono (fun h => vw_sound hm x ho.1 h) (fun h => vw_sound hm y ho.2 h) h)
 | .block n c, fr, S, Q, ho, h => by
  unfold vw selK at h
  unfold okC at ho
  split at h
  ·exact h
  ·rename_i hn
   rw [hn, Bool.false_or] at ho
   exact awp_block (vw_sound hm c ho h)
 | .exit n, fr, S, Q, _, h => awp_exit h
 | .ret, fr, S, Q, _, h => awp_ret h
 | .region n ops false, fr, S, Q, ho, h => by
  unfold vw at h
  unfold selK at h
  unfold okC at ho
  split at h
  ·exact h
  rename_i hn
  rw [hn, Bool.false_or] at ho
  simp only at h
  have := vcL_sound _ ho h
  have := awp_region (id := n) (l := ops.toList) this
  simpa using this
 | .region n ops true, fr, S, Q, ho, h => by
  unfold vw at h
  unfold selK at h
  unfold okC at ho
  split at h
  ·exact h
  rename_i hn
  rw [hn, Bool.false_or] at ho
  simp only [Bool.and_eq_true] at ho
  simp only at h
  have := awp_drawX (id := n) (l := ops.toList) (fr := fr) (S := S) (Q := Q) hm (lexG_sound ho.1.1.2 ho.1.2) ho.2 ho.1.1.1 h
  simpa using this
 | .loop c, fr, S, Q, _, h => h
 | .rangeFunc f ps a b, fr, S, Q, _, h => h
 | .scope c, fr, S, Q, _, h => h
 | .label l, fr, S, Q, _, h => h
 | .goto l, fr, S, Q, _, h => h
 | .refuse w, fr, S, Q, _, h => h
end
end Aml
namespace Aml
open Go Go.RowKit
def Wk (d e : DV) : Prop := ∀ g u, Rep g d u → Rep g e u
def WkL : List DV → List DV → Prop
 | [], [] => True
 | d :: ds, e :: es => Wk d e ∧ WkL ds es
 | _, _ => False
theorem Wk.refl (d : DV) : Wk d d := fun _ _ h => h
theorem Wk.trans {a b c : DV} (h : Wk a b) (k : Wk b c) : Wk a c := fun g u r => k g u (h g u r)
theorem Wk.any (d : DV) : Wk d .any := fun g u _ => .any u
theorem Wk.nil (s s' : Nat) (f : Bool) : Wk (.sl s true []) (.sl s' f []) := fun g u r => by
 obtain ⟨o, h⟩ := rep_full_nil r
 rw [h]; exact .nil _ _ _ _ fun _ => rfl
theorem Wk.full (s : Nat) (f : Bool) (xs : List DV) : Wk (.sl s f xs) (.sl s false xs) := fun g u r => by
 cases r with
 | nil _ _ o c hc => exact .nil _ _ _ _ (by simp)
 | sl _ _ _ b o c us hl hf hc hm hr hz h1 hi => exact .sl _ _ _ _ _ _ us hl (by simp) hc hm hr hz h1 hi
theorem WkL.refl : ∀ ds, WkL ds ds
 | [] => trivial
 | d :: ds => ⟨.refl d, WkL.refl ds⟩
theorem WkL.spec : ∀ {ds es : List DV}, WkL ds es → ∀ {g : Gh} {us : List Value}, RepL g ds us → RepL g es us
 | [], [], _, _, _, r => r
 | d :: ds, e :: es, h, g, us, r => by
  obtain ⟨u, us', rfl, r1, r2⟩ := r.uncons
  exact RepL.cons (h.1 _ _ r1) (WkL.spec h.2 r2)
theorem WkL.length : ∀ {ds es : List DV}, WkL ds es → ds.length = es.length
 | [], [], _ => rfl
 | d :: ds, e :: es, h => by simp [WkL.length h.2]
theorem WkL.trans : ∀ {a b c : List DV}, WkL a b → WkL b c → WkL a c
 | [], [], [], _, _ => trivial
 | _ :: _, _ :: _, _ :: _, h, k => ⟨h.1.trans k.1, h.2.trans k.2⟩
theorem Wk.agg {ds es : List DV} (h : WkL ds es) : Wk (.agg ds) (.agg es) := fun g u r => by
 cases r with
 | agg _ us hl hr h1 =>
  have := h.spec (g := g) (us := us) ⟨hl, hr⟩
  exact .agg _ _ this.len this.at_ h1
theorem Wk.tup {ds es : List DV} (h : WkL ds es) : Wk (.tup ds) (.tup es) := fun g u r => by
 cases r with
 | tup _ us hl hr =>
  have := h.spec (g := g) (us := us) ⟨hl, hr⟩
  exact .tup _ _ this.len this.at_
theorem Wk.ifc {t : TypeId} {d e : DV} (h : Wk d e) : Wk (.ifc t d) (.ifc t e) := fun g u r => by
 cases r with
 | ifc _ _ u r => exact .ifc _ _ _ (h _ _ r)
theorem Wk.sl {s : Nat} {f : Bool} {xs ys : List DV} (h : WkL xs ys) : Wk (.sl s f xs) (.sl s f ys) := fun g u r => by
 cases r with
 | nil _ _ o c hc =>
  cases ys with
  | nil => exact .nil _ _ _ _ hc
  | cons y ys => exact h.elim
 | sl _ _ _ b o c us hl hf hc hm hr hz h1 hi =>
  have := h.spec (g := g) (us := us) ⟨hl, hr⟩
  exact .sl _ _ _ _ _ _ us this.len hf hc hm this.at_ hz h1 hi
theorem Wk_tup {ds es : List DV} (h : WkL ds es) : Wk (.tup ds) (.tup es) = True := eq_true (Wk.tup h)
theorem Wk_agg {ds es : List DV} (h : WkL ds es) : Wk (.agg ds) (.agg es) = True := eq_true (Wk.agg h)
theorem WkL.map {α : Type} {f g : α → DV} (h : ∀ a, Wk (f a) (g a)) : ∀ (l : List α), WkL (l.map f) (l.map g)
 | [] => trivial
 | a :: l => ⟨h a, WkL.map h l⟩
theorem WkL.nil : WkL [] [] := trivial
theorem WkL.cons {d e : DV} {ds es : List DV} (h : Wk d e) (k : WkL ds es) : WkL (d :: ds) (e :: es) := ⟨h, k⟩
theorem WkL_cons (d e : DV) (ds es : List DV) : WkL (d :: ds) (e :: es) = (Wk d e ∧ WkL ds es) := rfl
theorem WkL_nil : WkL [] [] = True := rfl
theorem WkL_rc (a0 a1 a2 a3 a4 a5 a6 a7 a8 a9 a10 a11 a12 a13 a14 a15 : DV) (b0 b1 b2 b3 b4 b5 b6 b7 b8 b9 b10 b11 b12 b13 b14 b15 : DV) (l m : List DV) : WkL (rc ⟨a0, a1, a2, a3, a4, a5, a6, a7, a8, a9, a10, a11, a12, a13, a14, a15⟩ l) (rc ⟨b0, b1, b2, b3, b4, b5, b6, b7, b8, b9, b10, b11, b12, b13, b14, b15⟩ m) = (Wk a0 b0 ∧ Wk a1 b1 ∧ Wk a2 b2 ∧ Wk a3 b3 ∧ Wk a4 b4 ∧ Wk a5 b5 ∧ Wk a6 b6 ∧ Wk a7 b7 ∧ Wk a8 b8 ∧ Wk a9 b9 ∧ Wk a10 b10 ∧ Wk a11 b11 ∧ Wk a12 b12 ∧ Wk a13 b13 ∧ Wk a14 b14 ∧ Wk a15 b15 ∧ WkL l m) := rfl
theorem Wk_self (d : DV) : Wk d d = True := eq_true (.refl d)
theorem Wk_v {u u' : Value} (h : u.oneCell' = true) : Wk (.v u) (.v u') ↔ u = u' :=
 ⟨fun k => by have := k ⟨fun _ _ => none, fun _ _ => none, fun _ => none⟩ u (.v u h); cases this; rfl, fun e => e ▸ .refl _⟩
theorem Wk_int (k : IntKind) (a b : Int) : Wk (.v (.int k a)) (.v (.int k b)) = (a = b) := propext ((Wk_v rfl).trans ⟨fun h => (Value.int.inj h).2, fun h => by rw [h]⟩)
theorem Wk_bool (a b : Bool) : Wk (.v (.bool a)) (.v (.bool b)) = (a = b) := propext ((Wk_v rfl).trans ⟨fun h => Value.bool.inj h, fun h => by rw [h]⟩)
theorem Wk_str (a b : ByteArray) : Wk (.v (.string a)) (.v (.string b)) = (a = b) := propext ((Wk_v rfl).trans ⟨fun h => Value.string.inj h, fun h => by rw [h]⟩)
theorem Wk_nil (s s' : Nat) (f : Bool) : Wk (.sl s true []) (.sl s' f []) = True := eq_true (.nil s s' f)
section
variable {P : Program} {w0 : W0}
theorem acall_use {f : FuncId} {args args' : List DV} {S : St} {K K' : DV → St → Prop} (h : ACall P w0 f args' S K') (ha : WkL args args') (hk : ∀ d S', K' d S' → ∃ e, Wk d e ∧ K e S') : ACall P w0 f args S K :=
 fun g vs w h1 h2 => (h g vs w h1 (ha.spec h2)).mono fun e w' ⟨r, g', d, S', q1, q2, q3, q4, q5⟩ =>
  let ⟨e', k1, k2⟩ := hk _ _ q5
  ⟨r, g', e', S', q1, q2, q3, k1 _ _ q4, k2⟩
theorem acall_one {f : FuncId} {args args' : List DV} {S : St} {K : DV → St → Prop} {r : DV} (h : ACall P w0 f args' S (fun d S' => d = r ∧ S' = S)) (ha : WkL args args') (hk : K r S) : ACall P w0 f args S K :=
 acall_use h ha fun d S' ⟨h1, h2⟩ => ⟨d, .refl d, by rw [h1, h2]; exact hk⟩
theorem use1 {f : FuncId} {args args' : List DV} {S : St} {K : DV → St → Prop} {r : DV} (h : ACall P w0 f args' S (fun d S' => d = r ∧ S' = S)) (hk : K r S) (ha : WkL args args' := by exact WkL.refl _) : @AC P w0 f args S ⟨K⟩ := acall_one h ha hk
theorem useK {f : FuncId} {args args' : List DV} {S : St} {K K' : DV → St → Prop} (h : ACall P w0 f args' S K') (hk : ∀ d S', K' d S' → K d S') (ha : WkL args args' := by exact WkL.refl _) : @AC P w0 f args S ⟨K⟩ := acall_use h ha fun d S' q => ⟨d, .refl d, hk d S' q⟩
theorem useQ {f : FuncId} {args args' : List DV} {S : St} {K : DV → Prop} {r : DV} (h : ACall P w0 f args' S (fun d S' => d = r ∧ S' = S)) (hk : K r) (ha : WkL args args' := by exact WkL.refl _) : @QC P w0 f args S ⟨K⟩ :=
 ⟨r, acall_one h ha ⟨rfl, rfl⟩, hk⟩
structure Sub (S S' : St) : Prop where
 box : S.box.Sublist S'.box
 acc : S.acc.Sublist S'.acc
theorem Sub.refl (S : St) : Sub S S := ⟨List.Sublist.refl _, List.Sublist.refl _⟩
theorem Sub.consB {S : St} {B : List (Nat × List DV)} {A : List (Nat × Ob)} {x : Nat × List DV} (h : Sub S ⟨B, A⟩) : Sub S ⟨x :: B, A⟩ := ⟨h.box.cons _, h.acc⟩
theorem Sub.consA {S : St} {B : List (Nat × List DV)} {A : List (Nat × Ob)} {x : Nat × Ob} (h : Sub S ⟨B, A⟩) : Sub S ⟨B, x :: A⟩ := ⟨h.box, h.acc.cons _⟩
theorem Sub.bothA {B B' : List (Nat × List DV)} {A A' : List (Nat × Ob)} {x : Nat × Ob} (h : Sub ⟨B, A⟩ ⟨B', A'⟩) : Sub ⟨B, x :: A⟩ ⟨B', x :: A'⟩ := ⟨h.box, h.acc.cons_cons _⟩
theorem Sub_refl (S : St) : Sub S S = True := eq_true (.refl S)
theorem Sub_bA {B B' : List (Nat × List DV)} {A A' : List (Nat × Ob)} (x : Nat × Ob) (h : Sub ⟨B, A⟩ ⟨B', A'⟩) : Sub ⟨B, x :: A⟩ ⟨B', x :: A'⟩ = True := eq_true h.bothA
theorem Sub_cB (S : St) {B : List (Nat × List DV)} {A : List (Nat × Ob)} (x : Nat × List DV) (h : Sub S ⟨B, A⟩) : Sub S ⟨x :: B, A⟩ = True := eq_true h.consB
theorem Sub_cA (S : St) {B : List (Nat × List DV)} {A : List (Nat × Ob)} (x : Nat × Ob) (h : Sub S ⟨B, A⟩) : Sub S ⟨B, x :: A⟩ = True := eq_true h.consA
def shrAt : List Nat → List DV → St → (List DV → St → Prop) → Prop
 | [], fr, S, K => K fr S
 | i :: is, fr, S, K => oK (fr[i]?) fun d => shr S d fun d S => shrAt is (fr.set i d) S K
theorem shrAt_nil (fr : List DV) (S : St) (K : List DV → St → Prop) : shrAt [] fr S K = K fr S := rfl
theorem shrAt_ok {K : List DV → St → Prop} : ∀ (is : List Nat) {fr : List DV} {S : St} {g : Gh} {w : World} {us : List Value}, Rel w0 g S w → RepL g fr us → shrAt is fr S K → ∃ g' fr' S', g.le g' ∧ Rel w0 g' S' w ∧ RepL g' fr' us ∧ K fr' S'
 | [], fr, S, g, w, us, h1, h2, h => ⟨g, fr, S, .refl g, h1, h2, h⟩
 | i :: is, fr, S, g, w, us, h1, h2, h => by
  unfold shrAt at h
  cases hi : fr[i]? with
  | none => rw [hi] at h; exact h.elim
  | some d =>
   rw [hi, q_oK_some] at h
   have hlt : i < us.length := by rw [← h2.len]; exact (List.getElem?_eq_some_iff.1 hi).1
   have hr := h2.at_ i _ _ hi (List.getElem?_eq_getElem hlt)
   obtain ⟨g1, d', S1, k1, k2, k3, k4⟩ := shr_ok h1 hr h
   obtain ⟨g2, fr2, S2, q1, q2, q3, q4⟩ := shrAt_ok is k2 (repL_same (h2.mono k1) (List.getElem?_eq_getElem hlt) k3) k4
   exact ⟨g2, fr2, S2, k1.trans q1, q2, q3, q4⟩
theorem loopA {σ : Type} (live : List Nat) (vals : σ → List (Nat × DV)) (st : σ → St) (inv : σ → Prop) (meas : σ → Nat) (s0 : σ) {c : Code} {fr : List DV} {S : St} {Q : Exit → List DV → St → Prop}
  (h0 : inv s0 ∧ WkL (wk live fr) (upds (wk live fr) (vals s0)) ∧ Sub (st s0) S)
  (round : ∀ s, inv s → AWp P w0 c (upds (wk live fr) (vals s)) (st s) (thenQ (fun fr' S' => ∃ s', inv s' ∧ meas s' < meas s ∧ WkL (wk live fr') (upds (wk live fr) (vals s')) ∧ Sub (st s') S') Q)) :
  AWp P w0 (.loop c) fr S Q := by
 intro g a w h1 h2 h3
 refine wpA_loop_ind (fun m a w => Dk w0 g.obj a w ∧ ∃ g' s, g.le g' ∧ Rel w0 g' (st s) w ∧ RepL g' (upds (wk live fr) (vals s)) a.tmps.toList ∧ inv s ∧ meas s = m) (m := meas s0) ⟨h3, g, s0, .refl g, h1.forget h0.2.2.box h0.2.2.acc, h0.2.1.spec (repL_wk live h2), h0.1, rfl⟩ ?_
 rintro m a w ⟨hd, g', s, k1, k2, k3, k4, rfl⟩
 refine wpA_mono (round s k4 g' a w k2 k3 (k1.dk hd)) ?_
 rintro e a' w' ⟨hd', g'', fr'', S'', q1, q2, q3, q4⟩
 cases e with
 | normal =>
  obtain ⟨s', hi, hm, hf, hS⟩ := q4
  exact ⟨meas s', hm, k1.kd hd', g'', s', k1.trans q1, q2.forget hS.box hS.acc, hf.spec (repL_wk live q3), hi, rfl⟩
 | exit n => exact ⟨k1.kd hd', g'', fr'', S'', k1.trans q1, q2, q3, q4⟩
 | goto n => exact ⟨k1.kd hd', g'', fr'', S'', k1.trans q1, q2, q3, q4⟩
 | ret => exact ⟨k1.kd hd', g'', fr'', S'', k1.trans q1, q2, q3, q4⟩
 | panic ch => exact ⟨k1.kd hd', g'', fr'', S'', k1.trans q1, q2, q3, q4⟩
 | outgrown => exact ⟨k1.kd hd', g'', fr'', S'', k1.trans q1, q2, q3, q4⟩
theorem loopK {σ : Type} (ss : List Nat := []) (live : List Nat) (vals : σ → List (Nat × DV)) (st : σ → St) (inv : σ → Prop) (meas : σ → Nat) (s0 : σ) {c : Code} {fr : List DV} {S : St} {Q : Exit → List DV → St → Prop} (hm : P.follows .mixedOrders = true) (hc : okC ss c = true)
  (h0 : inv s0 ∧ WkL (wk live fr) (upds (wk live fr) (vals s0)) ∧ Sub (st s0) S)
  (round : ∀ s, inv s → vw P w0 ss c (upds (wk live fr) (vals s)) (st s) (thenQ (fun fr' S' => ∃ s', inv s' ∧ meas s' < meas s ∧ WkL (wk live fr') (upds (wk live fr) (vals s')) ∧ Sub (st s') S') Q)) :
  AWp P w0 (.loop c) fr S Q := loopA live vals st inv meas s0 h0 fun s hs => vw_sound hm c hc (round s hs)
theorem loopN (ss : List Nat := []) (n : Nat) (live : List Nat) (vals : Nat → List (Nat × DV)) (st : Nat → St) (inv : Nat → Prop) {c : Code} {fr : List DV} {S : St} {Q : Exit → List DV → St → Prop} (hm : P.follows .mixedOrders = true) (hc : okC ss c = true)
  (h0 : inv 0 ∧ WkL (wk live fr) (upds (wk live fr) (vals 0)) ∧ Sub (st 0) S)
  (round : ∀ k, k ≤ n → inv k → vw P w0 ss c (upds (wk live fr) (vals k)) (st k) (thenQ (fun fr' S' => k < n ∧ inv (k + 1) ∧ WkL (wk live fr') (upds (wk live fr) (vals (k + 1))) ∧ Sub (st (k + 1)) S') Q)) :
  AWp P w0 (.loop c) fr S Q := by
 refine loopA live vals st (fun k => k ≤ n ∧ inv k) (fun k => n - k) 0 ⟨⟨Nat.zero_le _, h0.1⟩, h0.2⟩ ?_
 rintro k ⟨h1, h2⟩
 refine (vw_sound hm c hc (round k h1 h2)).mono ?_
 intro e fr' S' q
 cases e with
 | normal =>
  obtain ⟨q1, q2, q3, q4⟩ := q
  exact ⟨k + 1, ⟨q1, q2⟩, by omega, q3, q4⟩
 | exit n => exact q
 | goto n => exact q
 | ret => exact q
 | panic ch => exact q
 | outgrown => exact q
theorem fnS (ss : List Nat := []) {f : FuncId} {fn : Func} {c : Code} {rs : List ResultVar} {args : List DV} {S : St} {r : DV} (hm : P.follows .mixedOrders = true) (hf : P.funcs[f]? = some fn) (hb : fn.body = some c) (hrs : fn.results = rs.toArray) (hc : okC ss c = true)
  (h : vw P w0 ss c (foldF (args ++ List.replicate (fn.ntmps - args.length) ud)) S fun e fr S' => (e = .normal ∨ e = .ret) ∧ resK P fr S' rs fun d => shrT S' d fun d S'' => Wk d r ∧ Sub S S'') : ACall P w0 f args S (fun d S' => d = r ∧ S' = S) := by
 have h1 : ACall P w0 f args S (fun d S' => shrT S' d fun d S'' => Wk d r ∧ Sub S S'') := acall_of hf hb hrs (vw_sound hm c hc h)
 intro g vs w k1 k2
 refine (h1 g vs w k1 k2).mono ?_
 rintro e w' ⟨v, g', d, S', q1, q2, q3, q4, q5⟩
 obtain ⟨g2, d', S2, p1, p2, p3, p4, p5⟩ := shrT_ok q3 q4 q5
 exact ⟨v, g2, r, S, q1, q2.trans p1, p2.forget p5.box p5.acc, p4 _ _ p3, rfl, rfl⟩
theorem awp_tail (i : Nat) {s : Nat} (hs : 0 < s) {xs : List DV} {c : Code} {fr : List DV} {S : St} {Q : Exit → List DV → St → Prop} (hi : fr[i]? = some (.sl s true xs))
  (h : ∀ l, nin S.acc l → AWp P w0 c (fr.set i (.acc l xs.length)) ⟨S.box, (l, .tl s xs) :: S.acc⟩ Q) : AWp P w0 c fr S Q := by
 intro g a w h1 h2 h3
 have hlt : i < a.tmps.toList.length := by rw [← h2.len]; exact (List.getElem?_eq_some_iff.1 hi).1
 have hr := h2.at_ i _ _ hi (List.getElem?_eq_getElem hlt)
 obtain ⟨l, g', hle, hne, hR, hA⟩ := h1.newAcc hs hr (.tl s xs) (.inl rfl)
 have hfr := repL_same (h2.mono hle) (List.getElem?_eq_getElem hlt) hA
 exact wpA_mono (h l (nin_of hne) g' a w hR hfr (hle.dk h3)) fun _ _ _ k => k.of_le hle
theorem _root_.Aml.Rel.wkBox {g : Gh} {S : St} {w : World} (h : Rel w0 g S w) {b : Nat} {ds ds' : List DV} (hl : lk S.box b = some ds) (hw : ∀ us e, w.heap[b]? = some (.cells us e (0, 0)) → RepL g ds us.toList → RepL g ds' us.toList) : Rel w0 g ⟨up S.box b ds', S.acc⟩ w := by
 refine ⟨h.below, h.imm, by rw [map_up]; exact h.nb, h.na, h.accw, h.fresh, h.top, ?_⟩
 obtain ⟨ow, o1, o2⟩ := h.own
 refine ⟨ow, fun b' e hm => ?_, o2⟩
 rcases mem_up h.nb hm with he | ⟨hm, _⟩
 ·cases he
  obtain ⟨q1, q2, q3, us, e, q4, q5, q6⟩ := o1 _ _ (lk_mem hl)
  exact ⟨q1, q2, q3, us, e, q4, hw _ _ q4 q5, q6⟩
 ·exact o1 _ _ hm
theorem awp_growB (b j s : Nat) (hs : 0 < s) {c : Code} {fr : List DV} {S : St} {Q : Exit → List DV → St → Prop} {ds : List DV} {s0 : Nat} (hb : lk S.box b = some ds) (hi : ds[j]? = some (.sl s0 true []))
  (h : ∀ l : FN S.acc, AWp P w0 c fr ⟨up S.box b (ds.set j (.acc l.n 0)), (l.n, .arr s []) :: S.acc⟩ Q) : AWp P w0 c fr S Q := by
 intro g a w h1 h2 h3
 obtain ⟨ow, o1, o2⟩ := h1.own
 obtain ⟨q1, q2, q3, us, e, q4, q5, q6⟩ := o1 _ _ (lk_mem hb)
 have hlt : j < us.toList.length := by rw [← q5.len]; exact (List.getElem?_eq_some_iff.1 hi).1
 have hr := q5.at_ j _ _ hi (List.getElem?_eq_getElem hlt)
 have hr' : Rep g (.sl s true []) us.toList[j] := by obtain ⟨o', ho'⟩ := rep_full_nil hr; rw [ho']; exact .nil _ _ _ _ fun _ => rfl
 obtain ⟨l, g', hle, hne, hR, hA⟩ := h1.newAcc hs hr' (.arr s []) (.inr ⟨rfl, rfl⟩)
 have hR' := hR.wkBox (ds' := ds.set j (.acc l 0)) (b := b) hb ?_
 ·exact wpA_mono (h ⟨l, nin_of hne⟩ g' a w hR' (h2.mono hle) (hle.dk h3)) fun _ _ _ k => k.of_le hle
 ·intro us' e' hh hr2
  rw [hh] at q4
  cases q4
  exact repL_same hr2 (List.getElem?_eq_getElem hlt) hA
theorem tailK (i : Nat) {s : Nat} {xs : List DV} {c : Code} {fr : List DV} {S : St} {Q : Exit → List DV → St → Prop} (hi : fr[i]? = some (.sl s true xs)) (hs : 0 < s)
  (h : ∀ l : FN S.acc, AWp P w0 c (fr.set i (.acc l.n xs.length)) ⟨S.box, (l.n, .tl s xs) :: S.acc⟩ Q) : AWp P w0 c fr S Q := awp_tail i hs hi fun l hl => h ⟨l, hl⟩
theorem growK (i s : Nat) {c : Code} {fr : List DV} {S : St} {Q : Exit → List DV → St → Prop} {s0 : Nat} (hi : fr[i]? = some (.sl s0 true [])) (hs : 0 < s)
  (h : ∀ l : FN S.acc, AWp P w0 c (fr.set i (.acc l.n 0)) ⟨S.box, (l.n, .arr s []) :: S.acc⟩ Q) : AWp P w0 c fr S Q := awp_grow i s hs hi fun l hl => h ⟨l, hl⟩
theorem shrK (ss : List Nat := []) (is : List Nat) {c : Code} {fr : List DV} {S : St} {Q : Exit → List DV → St → Prop} (hm : P.follows .mixedOrders = true) (hc : okC ss c = true) (h : shrAt is fr S fun fr S => vw P w0 ss c fr S Q) : AWp P w0 c fr S Q := by
 intro g a w h1 h2 h3
 obtain ⟨g', f', S', k1, k2, k3, k4⟩ := shrAt_ok is h1 h2 h
 exact wpA_mono (vw_sound hm c hc k4 g' a w k2 k3 (k1.dk h3)) fun _ _ _ k => k.of_le k1
end
attribute [go_sem high] Sub_refl Sub_bA
attribute [go_sem low] Wk_tup Wk_agg
attribute [go_sem] WkL_rc Sub_cB Sub_cA WkL_cons WkL_nil Wk_self Wk_int Wk_bool Wk_str Wk_nil
attribute [go_sem ↓] shrAt_nil
structure Wr (P : Prop) : Prop where
 h : P
end Aml
namespace Aml
open Go Go.RowKit
section
variable {P : Program} {w0 : W0}
theorem fnP (ss : List Nat := []) {f : FuncId} {fn : Func} {c : Code} {rs : List ResultVar} {args : List DV} {S : St} {K : DV → St → Prop} (hm : P.follows .mixedOrders = true) (hf : P.funcs[f]? = some fn) (hb : fn.body = some c) (hrs : fn.results = rs.toArray) (hc : okC ss c = true)
  (h : vw P w0 ss c (foldF (args ++ List.replicate (fn.ntmps - args.length) ud)) S fun e fr S' => (e = .normal ∨ e = .ret) ∧ resK P fr S' rs fun d => ∃ d' S'', Wk d d' ∧ Sub S'' S' ∧ K d' S'') : ACall P w0 f args S K := by
 have h1 : ACall P w0 f args S (fun d S' => ∃ d' S'', Wk d d' ∧ Sub S'' S' ∧ K d' S'') := acall_of hf hb hrs (vw_sound hm c hc h)
 intro g vs w k1 k2
 refine (h1 g vs w k1 k2).mono ?_
 rintro e w' ⟨v, g', d, S', q1, q2, q3, q4, d', S'', p1, p2, p3⟩
 exact ⟨v, g', d', S'', q1, q2, q3.forget p2.box p2.acc, p1 _ _ q4, p3⟩
end
end Aml
