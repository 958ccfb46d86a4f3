/-
  Loops by a state; forgetting slots; growing slices out of nil; The equations by which the reckoning goes: each for one form of value; Statements whose order Go leaves open: where each operation hands back one abstract value and leaves the store, every order serves; Reckoning over statements whose order is open; The rules as they are used: functions, loops; plain values; wraps; Statements whose order is open but for their end: what writes comes behind all that reads; Which parts of the walk's words the reckoning may enter: what comes behind a step is entered when the step is done; The walk by reckoning, whole; functions and loops; Less is said of a value than is known: at calls, at results, at loops; More forms of functions; Statements whose order is open, once more: what reads no store may come at any time, and so may what makes a box that nothing ahead looks at; Statements whose order is open: how the reckoning goes. By an AI agent.
-/
import Derived.Test.YtpcmnebpnpgcmaaGreatDoorML2
import Derived.Still
set_option linter.unusedVariables false
set_option linter.unusedSimpArgs false
set_option maxRecDepth 100000
set_option maxHeartbeats 16000000
namespace Aml
open Go Go.RowKit
def wkA : List DV → Nat → List Nat → List DV
 | [], _, _ => []
 | _ :: ds, i, [] => .any :: wkA ds (i + 1) []
 | d :: ds, i, j :: js => if i = j then d :: wkA ds (i + 1) js else .any :: wkA ds (i + 1) (j :: js)
def wk (live : List Nat) (fr : List DV) : List DV := wkA fr 0 live
def upds (fr : List DV) : List (Nat × DV) → List DV
 | [] => fr
 | (i, d) :: us => upds (fr.set i d) us
structure R16 where
 a0 : DV
 a1 : DV
 a2 : DV
 a3 : DV
 a4 : DV
 a5 : DV
 a6 : DV
 a7 : DV
 a8 : DV
 a9 : DV
 a10 : DV
 a11 : DV
 a12 : DV
 a13 : DV
 a14 : DV
 a15 : DV
def rc (r : R16) (l : List DV) : List DV := r.a0 :: r.a1 :: r.a2 :: r.a3 :: r.a4 :: r.a5 :: r.a6 :: r.a7 :: r.a8 :: r.a9 :: r.a10 :: r.a11 :: r.a12 :: r.a13 :: r.a14 :: r.a15 :: l
def foldF (l : List DV) : List DV := l
theorem repL_any {g : Gh} : ∀ {ds es : List DV} {us : List Value}, RepL g ds us → ds.length = es.length → (∀ (i : Nat) (d e : DV), ds[i]? = some d → es[i]? = some e → e = d ∨ e = .any) → RepL g es us :=
 fun {ds es us} h hl hs => ⟨by rw [← hl]; exact h.len, fun i e u h1 h2 => by
  have hi : i < ds.length := by rw [hl]; exact (List.getElem?_eq_some_iff.1 h1).1
  rcases hs i _ e (List.getElem?_eq_getElem hi) h1 with rfl | rfl
  ·exact h.at_ i _ u (List.getElem?_eq_getElem hi) h2
  ·exact .any u⟩
theorem wkA_spec : ∀ (ds : List DV) (k : Nat) (js : List Nat), (wkA ds k js).length = ds.length ∧ ∀ (i : Nat) (d e : DV), ds[i]? = some d → (wkA ds k js)[i]? = some e → e = d ∨ e = .any
 | [], k, js => ⟨by simp [wkA], fun i d e h => by simp at h⟩
 | d :: ds, k, [] => by
  obtain ⟨h1, h2⟩ := wkA_spec ds (k + 1) []
  refine ⟨by simp [wkA, h1], fun i d' e a b => ?_⟩
  cases i with
  | zero => simp [wkA] at b; exact .inr b.symm
  | succ i => simp [wkA] at a b; exact h2 i d' e a b
 | d :: ds, k, j :: js => by
  simp only [wkA]
  split
  ·obtain ⟨h1, h2⟩ := wkA_spec ds (k + 1) js
   refine ⟨by simp [h1], fun i d' e a b => ?_⟩
   cases i with
   | zero => simp at a b; exact .inl (b.symm.trans a)
   | succ i => simp at a b; exact h2 i d' e a b
  ·obtain ⟨h1, h2⟩ := wkA_spec ds (k + 1) (j :: js)
   refine ⟨by simp [h1], fun i d' e a b => ?_⟩
   cases i with
   | zero => simp at b; exact .inr b.symm
   | succ i => simp at a b; exact h2 i d' e a b
theorem repL_wk {g : Gh} {fr : List DV} {us : List Value} (live : List Nat) (h : RepL g fr us) : RepL g (wk live fr) us :=
 repL_any h (wkA_spec fr 0 live).1.symm (wkA_spec fr 0 live).2
section
variable {P : Program} {w0 : W0}
theorem awp_grow (i s : Nat) (hs : 0 < s) {c : Code} {fr : List DV} {S : St} {Q : Exit → List DV → St → Prop} {s0 : Nat} (hi : fr[i]? = some (.sl s0 true []))
  (h : ∀ l, nin S.acc l → AWp P w0 c (fr.set i (.acc l 0)) ⟨S.box, (l, .arr s []) :: S.acc⟩ Q) : AWp P w0 c fr S Q := by
 intro g a w h1 h2 h3
 have hlt : i < a.tmps.toList.length := by rw [← h2.len]; exact (List.getElem?_eq_some_iff.1 hi).1
 have hr := h2.at_ i _ _ hi (List.getElem?_eq_getElem hlt)
 have hr' : Rep g (.sl s true []) a.tmps.toList[i] := by obtain ⟨o', ho'⟩ := rep_full_nil hr; rw [ho']; exact .nil _ _ _ _ fun _ => rfl
 obtain ⟨l, g', hle, hne, hR, hA⟩ := h1.newAcc hs hr' (.arr s []) (.inr ⟨rfl, rfl⟩)
 have hfr := repL_same (h2.mono hle) (List.getElem?_eq_getElem hlt) hA
 exact wpA_mono (h l (nin_of hne) g' a w hR hfr (hle.dk h3)) fun _ _ _ k => k.of_le hle
end
end Aml
namespace Aml
open Go Go.RowKit
def elK (xs : List DV) (i : Nat) (F : DV → Prop) : Prop := ∀ d, xs[i]? = some d → okE d = true ∧ F d
def exK (xs : List DV) (i : Nat) (F : DV → Prop) : Prop := ∃ d, xs[i]? = some d ∧ okE d = true ∧ F d
theorem q_el_map {α : Type} (f : α → DV) (l : List α) (i : Nat) (F : DV → Prop) : elK (List.map f l) i F = ∀ a, l[i]? = some a → okE (f a) = true ∧ F (f a) := by
 unfold elK
 refine propext ⟨fun h a ha => h _ (by rw [List.getElem?_map, ha]; rfl), fun h d hd => ?_⟩
 rw [List.getElem?_map, Option.map_eq_some_iff] at hd
 obtain ⟨a, ha, rfl⟩ := hd
 exact h a ha
theorem q_el_nil (i : Nat) (F : DV → Prop) : elK [] i F = True := by simp [elK]
theorem q_el_zero (x : DV) (xs : List DV) (F : DV → Prop) : elK (x :: xs) 0 F = (okE x = true ∧ F x) := by simp [elK]
theorem q_el_succ (x : DV) (xs : List DV) (i : Nat) (F : DV → Prop) : elK (x :: xs) (i + 1) F = elK xs i F := by simp [elK]
theorem q_ex_map {α : Type} (f : α → DV) (l : List α) (i : Nat) (F : DV → Prop) : exK (List.map f l) i F = (i < l.length ∧ ∀ a, l[i]? = some a → okE (f a) = true ∧ F (f a)) := by
 unfold exK
 refine propext ⟨fun ⟨d, hd, h⟩ => ?_, fun ⟨hi, h⟩ => ⟨f l[i], by rw [List.getElem?_map, List.getElem?_eq_getElem hi]; rfl, h _ (List.getElem?_eq_getElem hi)⟩⟩
 rw [List.getElem?_map, Option.map_eq_some_iff] at hd
 obtain ⟨a, ha, rfl⟩ := hd
 exact ⟨(List.getElem?_eq_some_iff.1 ha).1, fun b hb => by rw [ha] at hb; cases hb; exact h⟩
theorem q_ex_nil (i : Nat) (F : DV → Prop) : exK [] i F = False := by simp [exK]
theorem q_okE_v (u : Value) : okE (.v u) = true := rfl
theorem q_okE_sl (s : Nat) (f : Bool) (xs : List DV) : okE (.sl s f xs) = true := rfl
theorem q_okE_agg (ds : List DV) : okE (.agg ds) = true := rfl
theorem q_okE_ifc (t : TypeId) (d : DV) : okE (.ifc t d) = true := rfl
theorem q_okE_acc (l n : Nat) : okE (.acc l n) = true := rfl
theorem q_cd_v (u : Value) : cd (.v u) = [.v u] := rfl
theorem q_cd_sl (s : Nat) (f : Bool) (xs : List DV) : cd (.sl s f xs) = [.sl s f xs] := rfl
theorem q_cd_agg (ds : List DV) : cd (.agg ds) = ds := rfl
theorem q_cd_ifc (t : TypeId) (d : DV) : cd (.ifc t d) = [.ifc t d] := rfl
theorem q_cd_acc (l n : Nat) : cd (.acc l n) = [.acc l n] := rfl
theorem q_lk_same {α : Type} (k : Nat) (x : α) (t : List (Nat × α)) : lk ((k, x) :: t) k = some x := by simp [lk]
theorem q_lk_ne {α : Type} {k n : Nat} (h : ¬ k = n) (x : α) (t : List (Nat × α)) : lk ((k, x) :: t) n = lk t n := by simp [lk, h]
theorem q_up_same {α : Type} (k : Nat) (x y : α) (t : List (Nat × α)) : up ((k, x) :: t) k y = (k, y) :: t := by simp [up]
theorem q_up_ne {α : Type} {k n : Nat} (h : ¬ k = n) (x y : α) (t : List (Nat × α)) : up ((k, x) :: t) n y = (k, x) :: up t n y := by simp [up, h]
section
variable {P : Program} {w0 : W0} (K : DV → Prop) (K2 : DV → St → Prop) (S : St)
theorem q_ld_int (k : IntKind) (d : DV) (ds : List DV) : ldK (.int k) (d :: ds) K = K d := rfl
theorem q_ld_one (d : DV) (ds : List DV) : ldK .one (d :: ds) K = K d := rfl
theorem q_ld_fn (d : DV) (ds : List DV) : ldK .fn (d :: ds) K = K d := rfl
theorem q_ld_str (d : DV) (ds : List DV) : ldK .str (d :: ds) K = K d := rfl
theorem q_ld_sl (e s b : Nat) (i : Bool) (d : DV) (ds : List DV) : ldK (.sl e s b i) (d :: ds) K = K d := rfl
theorem q_ld_map (k e : Nat) (d : DV) (ds : List DV) : ldK (.map k e) (d :: ds) K = K d := rfl
theorem q_ld_ptr (e : Nat) (d : DV) (ds : List DV) : ldK (.ptr e) (d :: ds) K = K d := rfl
theorem q_ld_ifc (m : List String) (d : DV) (ds : List DV) : ldK (.ifc m) (d :: ds) K = K d := rfl
theorem q_ld_st (fs : List (Nat × Nat × Bool)) (n : Nat) (ds : List DV) : ldK (.st fs n) ds K = (n ≤ ds.length ∧ K (.agg (ds.take n))) := rfl
theorem q_load_ip (k : TK) (ds : List DV) : vLoad k S (.ip ds) K = ldK k ds K := rfl
theorem q_ia_sl (e s b s' : Nat) (f : Bool) (xs : List DV) (k : IntKind) (z : Int) : vIndexAddr (.sl e s b true) (.sl s' f xs) (.v (.int k z)) K = (s' = s ∧ 0 ≤ z ∧ z < xs.length ∧ elK xs z.toNat fun d => K (.ip (cd d))) := rfl
theorem q_ia_row (e s b bb o n c : Nat) (k : IntKind) (z : Int) : vIndexAddr (.sl e s b true) (.v (.slice (some ⟨bb, o, none⟩) n c)) (.v (.int k z)) K = (0 ≤ z ∧ z < n ∧ K (.v (.pointer (some ⟨bb, o + z.toNat * s, none⟩)))) := rfl
theorem q_ia_arp (len e s nn bb o : Nat) (a : Bool) (k : IntKind) (z : Int) : vIndexAddr (.ar len e s a nn) (.v (.pointer (some ⟨bb, o, none⟩))) (.v (.int k z)) K = (0 < s ∧ 0 ≤ z ∧ z < len ∧ K (.v (.pointer (some ⟨bb, o + z.toNat * s, none⟩)))) := rfl
theorem q_ia_arip (len e s nn : Nat) (a : Bool) (ds : List DV) (k : IntKind) (z : Int) : vIndexAddr (.ar len e s a nn) (.ip ds) (.v (.int k z)) K = (0 < s ∧ 0 ≤ z ∧ z < len ∧ z.toNat * s ≤ ds.length ∧ K (.ip (ds.drop (z.toNat * s)))) := rfl
theorem q_ia_acc (e s b l n : Nat) (k : IntKind) (z : Int) : vIndexAddr (.sl e s b true) (.acc l n) (.v (.int k z)) K = (0 ≤ z ∧ z < n ∧ K (.ap l n s z.toNat 0)) := rfl
theorem q_index (s : ByteArray) (k : IntKind) (z : Int) : vIndex .str (.v (.string s)) (.v (.int k z)) K = (0 ≤ z ∧ z < s.size ∧ ∀ c, s.data.toList[z.toNat]? = some c → K (.v (.int .u8 c.toNat))) := rfl
theorem q_bin_ii (op : BinOp) (t : TK) (cx cy : Bool) (k k' : IntKind) (m n : Int) : vBin op t cx cy (.v (.int k m)) (.v (.int k' n)) K = (sameKind op k k' = true ∧ vBinI op k m n K) := rfl
theorem q_bin_ss (op : BinOp) (t : TK) (cx cy : Bool) (a b : ByteArray) : vBin op t cx cy (.v (.string a)) (.v (.string b)) K = vBinS op a b K := rfl
theorem q_bin_bn (cx cy a b : Bool) : vBin .neq .one cx cy (.v (.bool a)) (.v (.bool b)) K = K (.v (.bool (!(a == b)))) := rfl
theorem q_un_not (b : Bool) : vUn .not (.v (.bool b)) K = K (.v (.bool (!b))) := rfl
theorem q_un_xor (k : IntKind) (n : Int) : vUn .xor (.v (.int k n)) K = K (.v (.int k (bitD .xor k (if k.signed then -1 else k.max) n))) := rfl
theorem q_conv_i (k0 k k1 : IntKind) (n : Int) : vConv (.int k0) (.int k) (.v (.int k1 n)) K = K (.v (.int k (k.wrap n))) := rfl
theorem q_nn_ptr (a : Addr) : notNil (.v (.pointer (some a))) = true := rfl
theorem q_shr1_v (u : Value) : shr1 S (.v u) K2 = K2 (.v u) S := rfl
theorem q_shr1_sl (s : Nat) (f : Bool) (xs : List DV) : shr1 S (.sl s f xs) K2 = K2 (.sl s f xs) S := rfl
theorem q_shr1s_nil (K3 : List DV → St → Prop) : shr1s S [] K3 = K3 [] S := rfl
theorem q_shr1s_cons (d : DV) (ds : List DV) (K3 : List DV → St → Prop) : shr1s S (d :: ds) K3 = shr1 S d fun e S => shr1s S ds fun es S => K3 (e :: es) S := rfl
theorem q_shr_v (u : Value) : shr S (.v u) K2 = K2 (.v u) S := rfl
theorem q_shr_sl (s : Nat) (f : Bool) (xs : List DV) : shr S (.sl s f xs) K2 = K2 (.sl s f xs) S := rfl
theorem q_shr_ifc (t : TypeId) (d : DV) : shr S (.ifc t d) K2 = K2 (.ifc t d) S := rfl
theorem q_shr_acc (l n : Nat) : shr S (.acc l n) K2 = shr1 S (.acc l n) K2 := rfl
theorem q_shr_agg (ds : List DV) : shr S (.agg ds) K2 = shr1s S ds fun ds S => K2 (.agg ds) S := rfl
theorem q_shrs_nil (K3 : List DV → St → Prop) : shrs S [] K3 = K3 [] S := rfl
theorem q_shrs_cons (d : DV) (ds : List DV) (K3 : List DV → St → Prop) : shrs S (d :: ds) K3 = shr S d fun e S => shrs S ds fun es S => K3 (e :: es) S := rfl
theorem q_shrT_v (u : Value) : shrT S (.v u) K2 = K2 (.v u) S := rfl
theorem q_shrT_sl (s : Nat) (f : Bool) (xs : List DV) : shrT S (.sl s f xs) K2 = K2 (.sl s f xs) S := rfl
theorem q_shrT_acc (l n : Nat) : shrT S (.acc l n) K2 = shr1 S (.acc l n) K2 := rfl
theorem q_shrT_agg (ds : List DV) : shrT S (.agg ds) K2 = shr1s S ds fun ds S => K2 (.agg ds) S := rfl
theorem q_shrT_tup (ds : List DV) : shrT S (.tup ds) K2 = shrs S ds fun ds S => K2 (.tup ds) S := rfl
theorem q_bnd_none (z : Int) (K4 : Int → Prop) : bnd none z K4 = K4 z := rfl
theorem q_bnd_some (k : IntKind) (n z : Int) (K4 : Int → Prop) : bnd (some (.v (.int k n))) z K4 = K4 n := rfl
theorem q_slice_sl (e s b s' : Nat) (f : Bool) (xs : List DV) (lo hi mx : Option DV) : vSlice (.sl e s b true) (.sl s' f xs) lo hi mx K = ((s' = s ∨ xs = []) ∧ bnd lo 0 fun l => bnd hi xs.length fun h => bnd mx h fun m => 0 ≤ l ∧ l ≤ h ∧ h ≤ m ∧ m ≤ xs.length ∧
   K (.sl s (if mx.isSome then decide (m = h) else (f && (hi.isNone || xs.isEmpty))) ((xs.take h.toNat).drop l.toNat))) := rfl
theorem q_slice_str (s : ByteArray) (lo hi mx : Option DV) : vSlice .str (.v (.string s)) lo hi mx K = (mx.isNone = true ∧ bnd lo 0 fun l => bnd hi s.size fun h => 0 ≤ l ∧ l ≤ h ∧ h ≤ s.size ∧ K (.v (.string (s.extract l.toNat h.toNat)))) := rfl
theorem q_len_sl (e s b : Nat) (i : Bool) (s' : Nat) (f : Bool) (xs : List DV) : vLen (.sl e s b i) (.sl s' f xs) K = K (.v (.int .i64 xs.length)) := rfl
theorem q_len_acc (e s b : Nat) (i : Bool) (l n : Nat) : vLen (.sl e s b i) (.acc l n) K = K (.v (.int .i64 n)) := rfl
theorem q_len_str (s : ByteArray) : vLen .str (.v (.string s)) K = K (.v (.int .i64 s.size)) := rfl
theorem q_min (k k' : IntKind) (m n : Int) : vMin (.v (.int k m)) (.v (.int k' n)) K = K (.v (.int k (if n < m then n else m))) := rfl
theorem q_max (k k' : IntKind) (m n : Int) : vMax (.v (.int k m)) (.v (.int k' n)) K = K (.v (.int k (if m < n then n else m))) := rfl
theorem q_sliceX_sl (k : TK) (s : Nat) (f : Bool) (xs : List DV) (lo hi mx : Option DV) : vSliceX k S (.sl s f xs) lo hi mx K2 = vSlice k (.sl s f xs) lo hi mx (K2 · S) := rfl
theorem q_sliceX_v (k : TK) (u : Value) (lo hi mx : Option DV) : vSliceX k S (.v u) lo hi mx K2 = vSlice k (.v u) lo hi mx (K2 · S) := rfl
theorem q_sliceX_acc (k : TK) (l n : Nat) (lo hi mx : Option DV) : vSliceX k S (.acc l n) lo hi mx K2 = ((lo.isNone = true ∧ mx.isNone = true ∧ isZ n hi ∧ (∃ e s b, k = .sl e s b true) ∧ vCut0 S (.acc l n) (atZ hi) K2) ∨ vSliceS k S (.acc l n) lo hi mx K2) := rfl
theorem q_isZ (k : IntKind) (m : Nat) (n : Int) : isZ m (some (.v (.int k n))) = ((n == 0) = true ∨ (0 ≤ n ∧ n ≤ m)) := rfl
theorem q_atZ (k : IntKind) (n : Int) : atZ (some (.v (.int k n))) = n.toNat := rfl
theorem q_isNilC_t (t : Nat) : isNilC (.tmp t) = false := rfl
theorem q_isNilC_i (k : IntKind) (n : Int) : isNilC (.const (.int k n)) = false := rfl
theorem q_isNilC_s (s : ByteArray) : isNilC (.const (.string s)) = false := rfl
theorem q_isNilC_n : isNilC (.const (.slice none 0 0)) = true := rfl
theorem q_nilEq_sl (e s b s' : Nat) (i f : Bool) (xs : List DV) : vNilEq .eql (.sl e s b i) (.sl s' f xs) K = ∀ b : Bool, (xs ≠ [] → b = false) → K (.v (.bool b)) := rfl
theorem q_nilEq_re (e s b n c : Nat) (i : Bool) (p : Addr) : vNilEq .eql (.sl e s b i) (.v (.slice (some p) n c)) K = K (.v (.bool false)) := rfl
theorem q_appInt (e s b s' : Nat) (z : DV) (k : IntKind) (n : Int) : vAppInt (.sl e s b true) z S (.sl s' true []) (.v (.int k n)) K2 = (okE z = true ∧ 0 < n ∧ n * b ≤ 140737488355328 ∧ n ≤ 9223372036854775807 ∧ ∀ l, nin S.acc l → K2 (.acc l n.toNat) ⟨S.box, (l, .arr s (List.replicate n.toNat z)) :: S.acc⟩) := rfl
theorem q_storeX_v (n : Nat) (u : Value) (y : DV) (K5 : St → Prop) : vStoreX n S (.v u) y K5 = vStore n S (.v u) y K5 := rfl
theorem q_makeSlice (e s b : Nat) (z : DV) (k k' : IntKind) (n m : Int) : vMakeSlice (.sl e s b true) z (.v (.int k n)) (.v (.int k' m)) S K2 = (okE z = true ∧ 0 ≤ n ∧ n ≤ m ∧ m * b ≤ 140737488355328 ∧ m ≤ 9223372036854775807 ∧ ∀ l, nin S.acc l → K2 (.acc l n.toNat) ⟨S.box, (l, .arr s (List.replicate n.toNat z)) :: S.acc⟩) := rfl
theorem q_cap (e s b : Nat) (i : Bool) (s' : Nat) (xs : List DV) : vCap (.sl e s b i) (.sl s' true xs) K = K (.v (.int .i64 xs.length)) := rfl
theorem q_cont_sl (s : Nat) (f : Bool) (xs : List DV) (K6 : Nat → List DV → Prop) : contK S (.sl s f xs) K6 = K6 s xs := rfl
theorem q_cont_row (b o n c : Nat) (K6 : Nat → List DV → Prop) : contK S (.v (.slice (some ⟨b, o, none⟩) n c)) K6 = oK (lk S.box b) fun ds => o + n ≤ ds.length ∧ K6 1 ((ds.drop o).take n) := by
 cases h : lk S.box b <;> simp [contK, oK, h]
theorem q_cont_str (b : ByteArray) (K6 : Nat → List DV → Prop) : contK S (.v (.string b)) K6 = K6 1 (b.data.toList.map fun c => .v (.int .u8 c.toNat)) := rfl
theorem q_append (e s b : Nat) (k2 : TK) (x y : DV) : vAppend (.sl e s b true) k2 S x y K2 = (notInt k2 = true ∧ contK S y fun s2 ys => (s2 = s ∨ ys = []) ∧ vApp s b S x ys K2) := rfl
theorem q_app_nil (s0 s by' : Nat) (ys : List DV) : vApp s by' S (.sl s0 true []) ys K2 = (ys.length * by' ≤ 140737488355328 ∧ ys.length ≤ maxLen ∧ ∀ l, nin S.acc l → K2 (.acc l ys.length) ⟨S.box, (l, .arr s ys) :: S.acc⟩) := rfl
theorem q_app_cons (s0 s by' : Nat) (x : DV) (xs ys : List DV) : vApp s by' S (.sl s0 true (x :: xs)) ys K2 = (s0 = s ∧ ((x :: xs).length + ys.length) * by' ≤ 140737488355328 ∧ (x :: xs).length + ys.length ≤ maxLen ∧ ∀ l, nin S.acc l → K2 (.acc l ((x :: xs) ++ ys).length) ⟨S.box, (l, .tl s ((x :: xs) ++ ys)) :: S.acc⟩) := rfl
theorem q_call (f : FuncId) (a cap : Array Value) (ds : List DV) : vCall P w0 (.v (.func (.func f) a cap)) ds S K2 = (cap.toList.all (fun u => u.oneCell') = true ∧ fstK a (gX (okF P f) (callK S ds fun ds S => @AC P w0 f (ds ++ cap.toList.map .v) S ⟨K2⟩) (@XC P w0 f (ds ++ cap.toList.map .v) S ⟨K2⟩)) fun us => okF P f = true ∧ callK S ds fun ds S => @AC P w0 f (us.map .v ++ (ds ++ cap.toList.map .v)) S ⟨K2⟩) := rfl
theorem q_fst_nil (A : Prop) (B : List Value → Prop) : fstK #[] A B = A := rfl
theorem q_fst_one (u : Value) (A : Prop) (B : List Value → Prop) : fstK #[u] A B = (([u] : List Value).all (fun u => u.oneCell') = true ∧ B [u]) := rfl
theorem q_inv (t : TypeId) (name : String) (F : FuncId → DV → Prop) : vInv P (.ifc t (.agg [])) name F = oK (invF P t name) fun f => okF P f = true ∧ F f (.agg []) := by
 unfold vInv
 cases h : invF P t name <;> simp only [oK, h]
theorem q_hasAcc_nil : hasAcc [] = false := rfl
theorem q_hasAcc_acc (l n : Nat) (ds : List DV) : hasAcc (.acc l n :: ds) = true := rfl
theorem q_hasAcc_v (u : Value) (ds : List DV) : hasAcc (.v u :: ds) = hasAcc ds := rfl
theorem q_hasAcc_sl (s : Nat) (f : Bool) (xs ds : List DV) : hasAcc (.sl s f xs :: ds) = hasAcc ds := rfl
theorem q_hasAcc_agg (xs ds : List DV) : hasAcc (.agg xs :: ds) = hasAcc ds := rfl
theorem q_res_tmp (fr : List DV) (t : Nat) : resK1 P fr S K (.tmp t) = K (fr.getD t ud) := rfl
theorem q_res_cell (fr : List DV) (a t : Nat) : resK1 P fr S K (.cell a t) = vLoad (tk P t) S (fr.getD a ud) K := rfl
theorem q_resK_one (fr : List DV) (r : ResultVar) : resK P fr S [r] K = resK1 P fr S K r := rfl
theorem q_resK_nil (fr : List DV) : resK P fr S [] K = K (.tup []) := rfl
theorem q_resK_two (fr : List DV) (r r' : ResultVar) (rs : List ResultVar) : resK P fr S (r :: r' :: rs) K = resKs P fr S (r :: r' :: rs) fun ds => K (.tup ds) := rfl
end
theorem q_oK_some {α : Type} (a : α) (F : α → Prop) : oK (some a) F = F a := rfl
def bK : Option Ob → (Nat → List DV → Prop) → (Nat → List DV → Prop) → Prop
 | some (.arr s xs), F, _ => F s xs
 | some (.tl s xs), _, G => G s xs
 | _, _, _ => False
theorem q_bK_arr (s : Nat) (xs : List DV) (F G : Nat → List DV → Prop) : bK (some (.arr s xs)) F G = F s xs := rfl
theorem q_bK_tl (s : Nat) (xs : List DV) (F G : Nat → List DV → Prop) : bK (some (.tl s xs)) F G = G s xs := rfl
def fiK (p : Option (Nat × Nat × Bool)) (x : DV) (K : DV → Prop) : Prop := match p with
 | some (off, sz, _) => sz ≠ 0 ∧ (match x with
   | .v (.pointer (some ⟨b, o, none⟩)) => K (.v (.pointer (some ⟨b, o + off, none⟩)))
   | .ip ds => off ≤ ds.length ∧ K (.ip (ds.drop off))
   | .ap l n s i o => K (.ap l n s i (o + off))
   | _ => False)
 | none => False
def fvK (p : Option (Nat × Nat × Bool)) (ds : List DV) (K : DV → Prop) : Prop := match p with
 | some (off, sz, true) => off + sz ≤ ds.length ∧ K (.agg ((ds.drop off).take sz))
 | some (off, sz, false) => off + sz ≤ ds.length ∧ oK (ds[off]?) K
 | none => False
def gD (t : Nat) (d : DV) (fr : List DV) (want : Bool) (A B : List DV → Prop) : Prop := match d with
 | .v (.bool b) => (b = want → A (fr.set t (.v (.bool want)))) ∧ (b = !want → B (fr.set t (.v (.bool !want))))
 | .tup [] => B fr
 | _ => False
def gK (t : Option Tmp) (fr : List DV) (want : Bool) (A B : List DV → Prop) : Prop := match t with
 | none => B fr
 | some t => gD t (fr.getD t ud) fr want A B
def buK (k : TK) (z : DV) (parts : List (Nat × DV)) (K : DV → Prop) : Prop := match k, z with
 | .st fs _, .agg zs => oK (fillD fs zs parts) fun ds => K (.agg ds)
 | _, _ => False
section
variable {P : Program} {w0 : W0} (K : DV → Prop) (K2 : DV → St → Prop) (S : St)
theorem q_load_box (k : TK) (b o : Nat) : vLoad k S (.v (.pointer (some ⟨b, o, none⟩))) K = oK (lk S.box b) fun ds => ldK k (ds.drop o) K := by
 cases h : lk S.box b <;> simp [vLoad, oK, h]
theorem q_load_ap (k : TK) (l n s i o : Nat) : vLoad k S (.ap l n s i o) K = bK (lk S.acc l) (fun s' xs => xs.length = n ∧ s' = s ∧ exK xs i fun d => ldK k ((cd d).drop o) K) (fun s' xs => xs.length = n ∧ s' = s ∧ exK xs i fun d => ldK k ((cd d).drop o) K) := by
 cases h : lk S.acc l with
 | none => simp [vLoad, bK, h]
 | some o => cases o <;> simp [vLoad, bK, h, exK]
theorem q_slice_ar (n e s nn bb o : Nat) (a : Bool) (lo hi mx : Option DV) : vSlice (.ar n e s a nn) (.v (.pointer (some ⟨bb, o, none⟩))) lo hi mx K = (0 < s ∧ bnd lo 0 fun l => bnd hi n fun h => bnd mx n fun m => 0 ≤ l ∧ l ≤ h ∧ h ≤ m ∧ m ≤ n ∧
   K (.v (.slice (some ⟨bb, if m.toNat = l.toNat then o else o + l.toNat * s, none⟩) (h.toNat - l.toNat) (m.toNat - l.toNat)))) := rfl
theorem q_len_row (e s b : Nat) (i : Bool) (a : Option Addr) (n c : Nat) : vLen (.sl e s b i) (.v (.slice a n c)) K = K (.v (.int .i64 n)) := rfl
theorem q_isRow_sl (s : Nat) (f : Bool) (xs : List DV) : isRow (.sl s f xs) = false := rfl
theorem q_isRow_acc (l n : Nat) : isRow (.acc l n) = false := rfl
theorem q_copy (e s b bb o n c : Nat) (y : DV) : vCopy (.sl e s b true) S (.v (.slice (some ⟨bb, o, none⟩) n c)) y K2 = oK (lk S.box bb) fun ds => o + n * s ≤ ds.length ∧ copyK S s ds o bb n y K2 := by
 cases h : lk S.box bb with
 | none => simp [vCopy, oK, h]
 | some ds =>
  simp only [vCopy, oK, h, copyK]
  split
  ·rename_i b2 o2 m c2
   cases h2 : lk S.box b2 <;> simp [oK]
  ·rfl
theorem q_copyK_sl (s bb o n : Nat) (ds : List DV) (s' : Nat) (f : Bool) (ys : List DV) : copyK S s ds o bb n (.sl s' f ys) K2 = ((s' = s ∨ ys = []) ∧ (∀ d, d ∈ ys → okE d = true) ∧ ys.length ≤ n ∧ K2 (.v (.int .i64 ys.length)) ⟨up S.box bb (putL ds o (ys.flatMap cd)), S.acc⟩) := rfl
theorem q_field (fs : List (Nat × Nat × Bool)) (n f : Nat) (x : DV) : vField (.st fs n) f x K = fiK (fs[f]?) x K := by
 cases h : fs[f]? <;> simp only [vField, fiK, h] <;> cases x <;> rfl
theorem q_fi_ptr (off sz b o : Nat) (ag : Bool) : fiK (some (off, sz, ag)) (.v (.pointer (some ⟨b, o, none⟩))) K = (sz ≠ 0 ∧ K (.v (.pointer (some ⟨b, o + off, none⟩)))) := rfl
theorem q_fi_ip (off sz : Nat) (ag : Bool) (ds : List DV) : fiK (some (off, sz, ag)) (.ip ds) K = (sz ≠ 0 ∧ off ≤ ds.length ∧ K (.ip (ds.drop off))) := rfl
theorem q_fi_ap (off sz l m s i o : Nat) (ag : Bool) : fiK (some (off, sz, ag)) (.ap l m s i o) K = (sz ≠ 0 ∧ K (.ap l m s i (o + off))) := rfl
theorem q_extract (i : Nat) (ds : List DV) : vExtract i (.tup ds) K = oK (ds[i]?) K := by
 cases h : ds[i]? <;> simp [vExtract, oK, h]
theorem q_shr1_acc (l n : Nat) : shr1 S (.acc l n) K2 = bK (lk S.acc l) (fun s xs => xs.length = n ∧ K2 (.sl s false xs) ⟨S.box, up S.acc l (.tl s xs)⟩) (fun s xs => xs.length = n ∧ K2 (.sl s false xs) S) := by
 cases h : lk S.acc l with
 | none => simp [shr1, bK, h]
 | some o => cases o <;> simp [shr1, bK, h]
theorem q_store (n b o : Nat) (y : DV) (K5 : St → Prop) : vStore n S (.v (.pointer (some ⟨b, o, none⟩))) y K5 = (okE y = true ∧ (cd y).length = n ∧ oK (lk S.box b) fun ds => o + n ≤ ds.length ∧ K5 ⟨up S.box b (setAll ds o (cd y)), S.acc⟩) := by
 cases h : lk S.box b <;> simp [vStore, oK, h]
theorem q_storeX_ap (n l m s i o : Nat) (y : DV) (K5 : St → Prop) : vStoreX n S (.ap l m s i o) y K5 = (okE y = true ∧ (cd y).length = n ∧ bK (lk S.acc l) (fun s' xs => s' = s ∧ xs.length = m ∧ o + n ≤ s ∧ exK xs i fun d => oK (elSet d o n s y) fun d' => K5 ⟨S.box, up S.acc l (.arr s (xs.set i d'))⟩) (fun _ _ => False)) := by
 cases h : lk S.acc l with
 | none => simp [vStoreX, bK, h]
 | some o => cases o with
  | tl s' xs => simp [vStoreX, bK, h]
  | xo f => simp [vStoreX, bK, h]
  | arr s' xs =>
   simp only [vStoreX, bK, h, exK]
   refine propext (and_congr Iff.rfl (and_congr Iff.rfl (and_congr Iff.rfl (and_congr Iff.rfl (and_congr Iff.rfl (exists_congr fun d => and_congr Iff.rfl (and_congr Iff.rfl ?_)))))))
   cases elSet d o n s y with
   | none => simp [oK]
   | some x => simp [oK]
theorem q_cont_acc (l n : Nat) (K6 : Nat → List DV → Prop) : contK S (.acc l n) K6 = bK (lk S.acc l) (fun s xs => xs.length = n ∧ K6 s xs) (fun s xs => xs.length = n ∧ K6 s xs) := by
 cases h : lk S.acc l with
 | none => simp [contK, bK, h]
 | some o => cases o <;> simp [contK, bK, h]
theorem q_app_acc (l n s by' : Nat) (ys : List DV) : vApp s by' S (.acc l n) ys K2 = bK (lk S.acc l)
  (fun s' xs => s' = s ∧ xs.length = n ∧ (xs.length + ys.length) * by' ≤ 140737488355328 ∧ xs.length + ys.length ≤ maxLen ∧ K2 (.acc l (xs ++ ys).length) ⟨S.box, up S.acc l (.arr s (xs ++ ys))⟩)
  (fun s' xs => s' = s ∧ xs.length = n ∧ (xs.length + ys.length) * by' ≤ 140737488355328 ∧ xs.length + ys.length ≤ maxLen ∧ K2 (.acc l (xs ++ ys).length) ⟨S.box, up S.acc l (.tl s (xs ++ ys))⟩) := by
 cases h : lk S.acc l with
 | none => simp [vApp, bK, h]
 | some o => cases o <;> simp [vApp, bK, h]
theorem q_guard (ops : Array Oper) (fr : List DV) (j : Nat) (want : Bool) (A B : List DV → Prop) : guardK ops fr (some (j, want)) A B = gK ((ops[j]?).bind (·.dst)) fr want A B := by
 cases h : (ops[j]?).bind (·.dst) <;> simp only [guardK, gK, h] <;> rfl
theorem q_gK_some (t : Nat) (fr : List DV) (want : Bool) (A B : List DV → Prop) : gK (some t) fr want A B = gD t (fr.getD t ud) fr want A B := rfl
theorem q_gD_ud (t : Nat) (fr : List DV) (want : Bool) (A B : List DV → Prop) : gD t ud fr want A B = B fr := rfl
theorem q_func (fn : Fn) (a b : List DV) : vFunc fn a b K = oK (vals a) fun us => oK (vals b) fun vs => K (.v (.func fn us.toArray vs.toArray)) := by
 cases h : vals a <;> cases h' : vals b <;> simp [vFunc, oK, h, h']
theorem q_build (t : TypeId) (parts : List (Nat × DV)) : vBuild P t parts K = buK (tk P t) (zD P t) parts K := by
 cases h : tk P t <;> cases h' : zD P t <;> simp only [vBuild, buK, h, h'] <;> (rename_i fs _ zs; cases h2 : fillD fs zs parts <;> simp [oK])
theorem q_bu (fs : List (Nat × Nat × Bool)) (n : Nat) (zs : List DV) (parts : List (Nat × DV)) : buK (.st fs n) (.agg zs) parts K = oK (fillD fs zs parts) fun ds => K (.agg ds) := rfl
theorem q_bsl (e s b len : Nat) (z : DV) (parts : List (Nat × DV)) : vBuildSlice (.sl e s b true) z len parts K = (okE z = true ∧ (cd z).length = s ∧ len * s ≤ 16777216 ∧ oK (fillE s (List.replicate len z) parts) fun xs => K (.sl s true xs)) := by
 cases h : fillE s (List.replicate len z) parts <;> simp [vBuildSlice, oK, h]
end
end Aml
namespace Aml
open Go Go.RowKit
def QY (P : Program) (w0 : W0) (S : St) (o : Oper) (fr : List DV) (d : DV) : Prop := YieldsE P w0 o (ev fr) S fun d' S' => d' = d ∧ S' = S
def wantB (ops : Array Oper) (fr : List DV) (gd : Option (Nat × Bool)) : Option Bool := match gd with
 | none => some true
 | some (j, want) => match (ops[j]?).bind (·.dst) with
  | none => some false
  | some t => match fr.getD t ud with
   | .v (.bool b) => some (b == want)
   | .tup [] => some false
   | _ => none
def LQ (P : Program) (w0 : W0) (S : St) (ops : Array Oper) (K : List DV → Prop) : List Oper → List DV → Prop
 | [], fr => K fr
 | o :: rest, fr => guardK ops fr o.guard (fun fr => ∃ d, QY P w0 S o fr d ∧ LQ P w0 S ops K rest (pt fr o.dst d)) (fun fr => LQ P w0 S ops K rest (pt fr o.dst ud))
def qOp (P : Program) (w0 : W0) (S : St) (ops : Array Oper) (i : Nat) (K : List DV → Prop) (fr : List DV) : Prop :=
 match ops[i]? with
 | none => K fr
 | some o => (wantB ops fr o.guard = some true ∧ ∃ d, QY P w0 S o fr d ∧ K (pt fr o.dst d)) ∨ (wantB ops fr o.guard = some false ∧ K (pt fr o.dst ud))
def wpAnyD (P : Program) (w0 : W0) (S : St) (md : Region.Mode) (ops : Array Oper) (K : List DV → Prop) : Nat → Array Bool → List DV → Prop
 | 0, listed, fr => Region.ready md ops listed = [] ∧ K fr
 | fuel + 1, listed, fr => (Region.ready md ops listed = [] → K fr) ∧ ∀ i ∈ Region.ready md ops listed, qOp P w0 S ops i (wpAnyD P w0 S md ops K fuel (listed.setIfInBounds i true)) fr
def YD (P : Program) (w0 : W0) (S : St) (ops : Array Oper) (o : Oper) (d : DV) (fr : List DV) : Prop :=
 (wantB ops fr o.guard = some true ∧ QY P w0 S o fr d) ∨ (wantB ops fr o.guard = some false ∧ d = ud)
section
variable {P : Program} {w0 : W0} {S : St} {ops : Array Oper} {md : Region.Mode}
theorem set_same {fr : List DV} {t : Nat} {d : DV} (h : fr.getD t ud = d) (hd : d ≠ ud) : fr.set t d = fr := by
 rcases Nat.lt_or_ge t fr.length with hl | hl
 ·rw [List.getD_eq_getElem?_getD, List.getElem?_eq_getElem hl, Option.getD_some] at h
  rw [← h, List.set_getElem_self]
 ·rw [List.getD_eq_getElem?_getD, List.getElem?_eq_none hl] at h
  exact absurd h.symm hd
theorem guardK_want {fr : List DV} {gd : Option (Nat × Bool)} {A B : List DV → Prop} (h : guardK ops fr gd A B) : (wantB ops fr gd = some true ∧ A fr) ∨ (wantB ops fr gd = some false ∧ B fr) := by
 unfold guardK at h
 unfold wantB
 split at h
 ·exact .inl ⟨rfl, h⟩
 ·rename_i j want
  split at h
  ·rename_i hj
   exact .inr ⟨by simp only [hj], h⟩
  ·rename_i t hj
   simp only [hj]
   split at h
   ·rename_i b hb
    rw [hb]
    by_cases hw : b = want
    ·have := h.1 hw
     rw [← hw, set_same hb (by simp [ud])] at this
     exact .inl ⟨by simp [hw], this⟩
    ·have hw' : b = !want := by cases b <;> cases want <;> simp_all
     have := h.2 hw'
     rw [← hw', set_same hb (by simp [ud])] at this
     exact .inr ⟨by simp [hw], this⟩
   ·rename_i hb
    rw [hb]
    exact .inr ⟨rfl, h⟩
   ·exact h.elim
theorem want_guard {fr : List DV} {gd : Option (Nat × Bool)} {x : Bool} (h : wantB ops fr gd = some x) : guardK ops fr gd (fun _ => x = true) (fun _ => x = false) := by
 unfold wantB at h
 unfold guardK
 split at h
 ·simpa using h.symm
 ·rename_i j want
  split at h
  ·rename_i hj; simp only [hj]; simpa using h.symm
  ·rename_i t hj
   simp only [hj]
   split at h
   ·rename_i b hb
    rw [hb]
    simp only [Option.some.injEq] at h
    exact ⟨fun e => by simp [← h, e], fun e => by simp [← h, e]⟩
   ·rename_i hb; rw [hb]; simpa using h.symm
   ·cases h
theorem wantB_sound {g : Gh} {fr : List DV} {a : Act} {o : Oper} {x : Bool} (hr : RepL g fr a.tmps.toList) (h : wantB ops fr o.guard = some x) : Region.wanted o (yielded ops a.tmps) = x := by
 rcases guard_sound (o := o) hr (want_guard h) with ⟨h1, _, _, h2⟩ | ⟨h1, _, _, h2⟩
 ·rw [h1, h2]
 ·rw [h1, h2]
theorem qOp_mono {i : Nat} {fr : List DV} {K K' : List DV → Prop} (h : ∀ fr, K fr → K' fr) (hh : qOp P w0 S ops i K fr) : qOp P w0 S ops i K' fr := by
 unfold qOp at *
 split
 ·rename_i ho; simp only [ho] at hh; exact h _ hh
 ·rename_i o ho
  simp only [ho] at hh
  rcases hh with ⟨h1, d, h2, h3⟩ | ⟨h1, h2⟩
  ·exact .inl ⟨h1, d, h2, h _ h3⟩
  ·exact .inr ⟨h1, h _ h2⟩
theorem YD.qOp {i : Nat} {o : Oper} {d : DV} {fr : List DV} (hi : ops[i]? = some o) (hy : YD P w0 S ops o d fr) {K : List DV → Prop} (h : K (pt fr o.dst d)) : qOp P w0 S ops i K fr := by
 unfold Aml.qOp
 simp only [hi]
 rcases hy with ⟨h1, h2⟩ | ⟨h1, rfl⟩
 ·exact .inl ⟨h1, d, h2, h⟩
 ·exact .inr ⟨h1, h⟩
theorem yd_of_qOp {i : Nat} {o : Oper} {fr : List DV} {K : List DV → Prop} (hi : ops[i]? = some o) (h : qOp P w0 S ops i K fr) : ∃ d, YD P w0 S ops o d fr ∧ K (pt fr o.dst d) := by
 unfold qOp at h
 simp only [hi] at h
 rcases h with ⟨h1, d, h2, h3⟩ | ⟨h1, h2⟩
 ·exact ⟨d, .inl ⟨h1, h2⟩, h3⟩
 ·exact ⟨ud, .inr ⟨h1, rfl⟩, h2⟩
theorem yields_congr {o : Oper} {ρD ρD' : Operand → DV} {K : DV → St → Prop} (h : ∀ x, x ∈ o.op.operands.toList → ρD x = ρD' x) (hy : YieldsE P w0 o ρD S K) : YieldsE P w0 o ρD' S K :=
 fun g w ρ h1 h2 h3 => hy g w ρ h1 (fun x hx => by rw [h x hx]; exact h2 x hx) h3
theorem getD_set {fr : List DV} {t t' : Nat} {d : DV} (h : t ≠ t') : (fr.set t d).getD t' ud = fr.getD t' ud := by
 simp only [List.getD_eq_getElem?_getD, List.getElem?_set, if_neg h]
theorem ev_put {fr : List DV} {dst : Option Tmp} {d : DV} {o : Oper} (h : ∀ t, dst = some t → t ∉ o.looksAt ops) : ∀ x, x ∈ o.op.operands.toList → ev (pt fr dst d) x = ev fr x := by
 intro x hx
 cases dst with
 | none => rfl
 | some t =>
  cases x with
  | tmp t' =>
   have : t ≠ t' := by
    rintro rfl
    exact h t rfl (List.mem_append_left _ (List.mem_filterMap.2 ⟨.tmp t, hx, rfl⟩))
   exact getD_set this
  | _ => rfl
theorem want_put {fr : List DV} {dst : Option Tmp} {d : DV} {o : Oper} (h : ∀ t, dst = some t → t ∉ o.looksAt ops) : wantB ops (pt fr dst d) o.guard = wantB ops fr o.guard := by
 cases dst with
 | none => rfl
 | some t =>
  unfold wantB
  cases hg : o.guard with
  | none => rfl
  | some gw =>
   obtain ⟨j, want⟩ := gw
   simp only
   cases ht : (ops[j]?).bind (·.dst) with
   | none => rfl
   | some t' =>
    have hne : t ≠ t' := fun e => h t rfl (by subst e; simp [Oper.looksAt, hg, ht])
    simp only [pt]
    rw [getD_set hne]
theorem pt_comm (fr : List DV) {x y : Option Tmp} (d e : DV) (h : ∀ t, x = some t → y ≠ some t) : pt (pt fr x d) y e = pt (pt fr y e) x d := by
 cases x with
 | none => rfl
 | some t =>
  cases y with
  | none => rfl
  | some u =>
   have hne : t ≠ u := fun he => h t rfl (he ▸ rfl)
   simp only [pt]
   exact List.set_comm _ _ hne
theorem YD.put {o : Oper} {d : DV} {fr : List DV} (hy : YD P w0 S ops o d fr) {dst : Option Tmp} {e : DV} (h : ∀ t, dst = some t → t ∉ o.looksAt ops) : YD P w0 S ops o d (pt fr dst e) := by
 unfold YD at *
 rw [want_put h]
 exact hy.imp (fun ⟨a, b⟩ => ⟨a, yields_congr (fun x hx => (ev_put (ops := ops) h x hx).symm) b⟩) id
theorem qOp_put {j : Nat} {oi oj : Oper} {d : DV} (hj : ops[j]? = some oj) (hap : oi.apart ops oj = true) {K : List DV → Prop} {fr : List DV} (hy : YD P w0 S ops oi d fr) (h : qOp P w0 S ops j K (pt fr oi.dst d)) :
  qOp P w0 S ops j (fun fr' => YD P w0 S ops oi d fr' ∧ K (pt fr' oi.dst d)) fr := by
 obtain ⟨h1, h2, h3⟩ := Oper.apart_spec hap
 unfold Aml.qOp at *
 simp only [hj] at *
 rw [want_put h1] at h
 rcases h with ⟨hw, e, hq, hk⟩ | ⟨hw, hk⟩
 ·exact .inl ⟨hw, e, yields_congr (fun x hx => ev_put (ops := ops) h1 x hx) hq, hy.put h3, by rw [← pt_comm fr d e h2]; exact hk⟩
 ·exact .inr ⟨hw, hy.put h3, by rw [← pt_comm fr d ud h2]; exact hk⟩
theorem wpAnyD_first {K : List DV → Prop} {i : Nat} {oi : Oper} {d : DV} (hi : ops[i]? = some oi) :
  ∀ (fuel : Nat) (listed : Array Bool) (fr : List DV),
   (∀ j oj, ops[j]? = some oj → j ≠ i → listed.getD j true = false → (∀ e ∈ oj.after, Region.binds md e = true → e.on ≠ i) → oi.apart ops oj = true) →
   i ∈ Region.ready md ops listed → YD P w0 S ops oi d fr →
   wpAnyD P w0 S md ops K fuel (listed.setIfInBounds i true) (pt fr oi.dst d) → wpAnyD P w0 S md ops K (fuel + 1) listed fr := by
 intro fuel
 induction fuel with
 | zero =>
  intro listed fr _ hr hy H
  refine ⟨fun h => (by rw [h] at hr; cases hr), fun j hj => ?_⟩
  by_cases hji : j = i
  ·subst hji; exact hy.qOp hi H
  ·have := ready_mono hj hji
   rw [H.1] at this
   cases this
 | succ fuel ih =>
  intro listed fr hfree hr hy H
  refine ⟨fun h => (by rw [h] at hr; cases hr), fun j hj => ?_⟩
  by_cases hji : j = i
  ·subst hji; exact hy.qOp hi H
  ·have h1 := H.2 j (ready_mono hj hji)
   obtain ⟨hjun, oj, hoj, hall⟩ := mem_ready.1 hj
   have hnot : ∀ e ∈ oj.after, Region.binds md e = true → e.on ≠ i := fun e he hb heq => by
    have h1 := hall e he hb
    have h0 := (mem_ready.1 hr).1
    rw [heq] at h1
    rcases Nat.lt_or_ge i listed.size with h' | h'
    ·simp [h'] at h0 h1; rw [h0] at h1; cases h1
    ·simp [Array.getElem?_eq_none h'] at h1
   have h2 := qOp_put hoj (hfree j oj hoj hji hjun hnot) hy h1
   have hfree' : ∀ k ok, ops[k]? = some ok → k ≠ i → (listed.setIfInBounds j true).getD k true = false →
     (∀ e ∈ ok.after, Region.binds md e = true → e.on ≠ i) → oi.apart ops ok = true := fun k ok hk hki hun hno => by
    refine hfree k ok hk hki ?_ hno
    by_cases hjk : j = k
    ·subst hjk; exact hjun
    ·rw [getD_set_ne true hjk] at hun; exact hun
   refine qOp_mono (fun fr' h3 => ih (listed.setIfInBounds j true) fr' hfree' (ready_mono hr (Ne.symm hji)) h3.1 ?_) h2
   rw [Array.setIfInBounds_comm _ _ hji]
   exact h3.2
theorem wpAnyD_lex {K : List DV → Prop} : ∀ (l : List Oper) (k : Nat) (listed : Array Bool) (fr : List DV), (∀ j, l[j]? = ops[k + j]?) →
  Region.lexFrom md ops l.length k listed = true → LQ P w0 S ops K l fr → wpAnyD P w0 S md ops K l.length listed fr
 | [], _, _, _, _, hB, h => ⟨by simpa [Region.lexFrom] using hB, h⟩
 | o :: l, k, listed, fr, hl, hB, h => by
  have h0 : ops[k]? = some o := by simpa using (hl 0).symm
  simp only [List.length_cons, Region.lexFrom, Bool.and_eq_true] at hB
  obtain ⟨⟨hr, hf⟩, hB'⟩ := hB
  have hst : qOp P w0 S ops k (LQ P w0 S ops K l) fr := by
   unfold qOp
   simp only [h0]
   exact guardK_want h
  obtain ⟨d, hy, hK⟩ := yd_of_qOp h0 hst
  exact wpAnyD_first h0 l.length listed fr (Region.free_spec h0 hf) (by simpa using hr) hy
   (wpAnyD_lex l (k + 1) _ _ (fun j => by have := hl (j + 1); simpa [Nat.add_assoc, Nat.add_comm 1 j] using this) hB' hK)
end
end Aml
namespace Aml
open Go Go.RowKit
section
variable {P : Program} {w0 : W0} {S : St} {K : DV → Prop}
theorem det_pick {c a b : DV} (h : vPick c a b K) : ∃ d, vPick c a b (· = d) ∧ K d := by
 unfold vPick at *
 split at h
 ·rename_i t
  cases t
  ·exact ⟨b, ⟨by simp, fun _ => rfl⟩, h.2 rfl⟩
  ·exact ⟨a, ⟨fun _ => rfl, by simp⟩, h.1 rfl⟩
 ·exact h.elim
theorem det_hd {ds : List DV} (h : hdK ds K) : ∃ d, hdK ds (· = d) ∧ K d := by
 unfold hdK at *
 split at h
 ·exact ⟨_, rfl, h⟩
 ·exact h.elim
theorem det_ld {k : TK} {ds : List DV} (h : ldK k ds K) : ∃ d, ldK k ds (· = d) ∧ K d := by
 unfold ldK at *
 split at h
 ·exact ⟨_, ⟨h.1, rfl⟩, h.2⟩
 ·exact ⟨_, ⟨h.1, rfl⟩, h.2⟩
 ·exact h.elim
 ·exact det_hd h
theorem det_load {k : TK} {x : DV} (h : vLoad k S x K) : ∃ d, vLoad k S x (· = d) ∧ K d := by
 unfold vLoad at *
 split at h
 ·split at h
  ·rename_i hb; (try simp only [hb]); exact det_ld h
  ·exact h.elim
 ·exact det_ld h
 ·split at h
  ·rename_i hb
   obtain ⟨h1, h2, d, h3, h4, h5⟩ := h
   obtain ⟨e, q1, q2⟩ := det_ld h5
   exact ⟨e, by first | exact ⟨h1, h2, d, h3, h4, q1⟩ | (simp only [hb]; exact ⟨h1, h2, d, h3, h4, q1⟩), q2⟩
  ·rename_i hb
   obtain ⟨h1, h2, d, h3, h4, h5⟩ := h
   obtain ⟨e, q1, q2⟩ := det_ld h5
   exact ⟨e, by first | exact ⟨h1, h2, d, h3, h4, q1⟩ | (simp only [hb]; exact ⟨h1, h2, d, h3, h4, q1⟩), q2⟩
  ·exact h.elim
 ·exact h.elim
theorem det_field {k : TK} {f : Nat} {x : DV} (h : vField k f x K) : ∃ d, vField k f x (· = d) ∧ K d := by
 unfold vField at *
 split at h
 ·split at h
  ·rename_i hf
   try simp only [hf]
   obtain ⟨h1, h⟩ := h
   split at h
   ·exact ⟨_, ⟨h1, rfl⟩, h⟩
   ·exact ⟨_, ⟨h1, h.1, rfl⟩, h.2⟩
   ·exact ⟨_, ⟨h1, rfl⟩, h⟩
   ·exact h.elim
  ·exact h.elim
 ·exact h.elim
theorem det_indexAddr {k : TK} {x i : DV} (h : vIndexAddr k x i K) : ∃ d, vIndexAddr k x i (· = d) ∧ K d := by
 unfold vIndexAddr at *
 split at h
 ·split at h
  ·obtain ⟨h1, h2, h3, h4⟩ := h
   rename_i z _ _ _ xs
   have hlt : z.toNat < xs.length := by omega
   obtain ⟨h5, h6⟩ := h4 _ (List.getElem?_eq_getElem hlt)
   exact ⟨_, ⟨h1, h2, h3, fun d hd => by rw [List.getElem?_eq_getElem hlt] at hd; cases hd; exact ⟨h5, rfl⟩⟩, h6⟩
  ·exact ⟨_, ⟨h.1, h.2.1, rfl⟩, h.2.2⟩
  ·exact ⟨_, ⟨h.1, h.2.1, rfl⟩, h.2.2⟩
  ·exact h.elim
 ·obtain ⟨h1, h2, h3, h4⟩ := h
  split at h4
  ·exact ⟨_, ⟨h1, h2, h3, rfl⟩, h4⟩
  ·exact ⟨_, ⟨h1, h2, h3, h4.1, rfl⟩, h4.2⟩
  ·exact h4.elim
 ·exact h.elim
theorem det_evG {w0 : W0} {fr : List DV} {x : Operand} {k : TK} {i : DV} (h : evG w0 fr x fun d => vIndexAddr k d i K) : ∃ d, (evG w0 fr x fun d' => vIndexAddr k d' i (· = d)) ∧ K d := by
 cases x with
 | global b =>
  obtain ⟨us, hg, h⟩ := h
  obtain ⟨d, q1, q2⟩ := det_indexAddr h
  exact ⟨d, ⟨us, hg, q1⟩, q2⟩
 | tmp n => exact det_indexAddr (x := ev fr (.tmp n)) h
 | const u => exact det_indexAddr (x := ev fr (.const u)) h
 | func f => exact det_indexAddr (x := ev fr (.func f)) h
theorem det_index {k : TK} {x i : DV} (h : vIndex k x i K) : ∃ d, vIndex k x i (· = d) ∧ K d := by
 unfold vIndex at *
 split at h
 ·obtain ⟨h1, h2, h3⟩ := h
  rename_i s _ z
  have hlt : z.toNat < s.data.toList.length := by simp; have : s.data.size = s.size := rfl; omega
  exact ⟨_, ⟨h1, h2, fun d hd => by rw [List.getElem?_eq_getElem hlt] at hd; cases hd; rfl⟩, h3 _ (List.getElem?_eq_getElem hlt)⟩
 ·exact h.elim
theorem det_fieldV {k : TK} {f : Nat} {x : DV} (h : vFieldV k f x K) : ∃ d, vFieldV k f x (· = d) ∧ K d := by
 unfold vFieldV at *
 split at h
 ·split at h
  ·rename_i hf
   try simp only [hf]
   split at h
   ·obtain ⟨h1, h⟩ := h
    split at h
    ·exact ⟨_, ⟨h1, rfl⟩, h⟩
    ·split at h
     ·rename_i hd; (try simp only [hd]); exact ⟨_, ⟨h1, rfl⟩, h⟩
     ·exact h.elim
   ·exact h.elim
  ·exact h.elim
 ·exact h.elim
theorem det_extract {i : Nat} {x : DV} (h : vExtract i x K) : ∃ d, vExtract i x (· = d) ∧ K d := by
 unfold vExtract at *
 split at h
 ·split at h
  ·rename_i hd; (try simp only [hd]); exact ⟨_, rfl, h⟩
  ·exact h.elim
 ·exact h.elim
theorem det_binI {op : BinOp} {k : IntKind} {m n : Int} (h : vBinI op k m n K) : ∃ d, vBinI op k m n (· = d) ∧ K d := by
 cases op <;> simp only [vBinI] at h ⊢ <;> first | exact ⟨_, rfl, h⟩ | exact ⟨_, ⟨h.1, rfl⟩, h.2⟩
theorem det_binS {op : BinOp} {x y : ByteArray} (h : vBinS op x y K) : ∃ d, vBinS op x y (· = d) ∧ K d := by
 cases op <;> simp only [vBinS] at h ⊢ <;> first | exact ⟨_, rfl, h⟩ | exact ⟨_, ⟨h.1, rfl⟩, h.2⟩
theorem det_bin {op : BinOp} {t : TK} {cx cy : Bool} {x y : DV} (h : vBin op t cx cy x y K) : ∃ d, vBin op t cx cy x y (· = d) ∧ K d := by
 unfold vBin at *
 split at h
 ·obtain ⟨d, q1, q2⟩ := det_binI h.2
  exact ⟨d, ⟨h.1, q1⟩, q2⟩
 ·exact det_binS h
 ·split at h <;> first | exact ⟨_, rfl, h⟩ | exact h.elim
 ·split at h <;> first | exact ⟨_, ⟨h.1, rfl⟩, h.2⟩ | exact h.elim
 ·split at h <;> first | exact ⟨_, rfl, h⟩ | exact h.elim
 ·split at h <;> first | exact ⟨_, rfl, h⟩ | exact h.elim
 ·split at h <;> first | exact ⟨_, ⟨h.1, rfl⟩, h.2⟩ | exact h.elim
 ·exact h.elim
theorem det_binA {op : BinOp} {t : TypeId} {cx cy : Bool} {x y : DV} (h : vBinA P op t cx cy x y K) : ∃ d, vBinA P op t cx cy x y (· = d) ∧ K d := by
 unfold vBinA at *
 split at h
 ·unfold vAggEq at *
  split at h
  ·rename_i he
   obtain ⟨q, q1, q2⟩ := aggK_det h
   exact ⟨_, aggK_mono (fun r e => by rw [e]) q1, q2⟩
  ·rename_i he
   obtain ⟨q, q1, q2⟩ := aggK_det h
   exact ⟨_, aggK_mono (fun r e => by rw [e]) q1, q2⟩
  ·exact h.elim
 ·exact det_bin h
theorem det_un {op : UnOp} {x : DV} (h : vUn op x K) : ∃ d, vUn op x (· = d) ∧ K d := by
 unfold vUn at *
 split at h <;> first | exact ⟨_, rfl, h⟩ | exact h.elim
theorem det_conv {a b : TK} {x : DV} (h : vConv a b x K) : ∃ d, vConv a b x (· = d) ∧ K d := by
 unfold vConv at *
 split at h <;> first | exact ⟨_, rfl, h⟩ | exact h.elim
theorem det_func {fn : Fn} {a b : List DV} (h : vFunc fn a b K) : ∃ d, vFunc fn a b (· = d) ∧ K d := by
 unfold vFunc at *
 split at h <;> first | exact ⟨_, rfl, h⟩ | exact h.elim
theorem det_bnd {x : Option DV} {z : Int} {F : (DV → Prop) → Int → Prop} (hF : ∀ n, F K n → ∃ d, F (· = d) n ∧ K d) (h : bnd x z (F K)) : ∃ d, bnd x z (F (· = d)) ∧ K d := by
 unfold bnd at *
 split at h <;> first | exact hF _ h | exact h.elim
theorem det_slice {k : TK} {x : DV} {lo hi mx : Option DV} (h : vSlice k x lo hi mx K) : ∃ d, vSlice k x lo hi mx (· = d) ∧ K d := by
 unfold vSlice at *
 split at h
 ·obtain ⟨h1, h⟩ := h
  rename_i e s b s' f xs
  obtain ⟨d, q1, q2⟩ := det_bnd (F := fun K l => bnd hi xs.length fun h => bnd mx h fun m => 0 ≤ l ∧ l ≤ h ∧ h ≤ m ∧ m ≤ xs.length ∧
   K (.sl s (if mx.isSome then decide (m = h) else (f && (hi.isNone || xs.isEmpty))) ((xs.take h.toNat).drop l.toNat))) (fun l h => det_bnd (F := fun K h => bnd mx h fun m => 0 ≤ l ∧ l ≤ h ∧ h ≤ m ∧ m ≤ xs.length ∧
   K (.sl s (if mx.isSome then decide (m = h) else (f && (hi.isNone || xs.isEmpty))) ((xs.take h.toNat).drop l.toNat))) (fun hh h => det_bnd (F := fun K m => 0 ≤ l ∧ l ≤ hh ∧ hh ≤ m ∧ m ≤ xs.length ∧
   K (.sl s (if mx.isSome then decide (m = hh) else (f && (hi.isNone || xs.isEmpty))) ((xs.take hh.toNat).drop l.toNat))) (fun m h => ⟨_, ⟨h.1, h.2.1, h.2.2.1, h.2.2.2.1, rfl⟩, h.2.2.2.2⟩) h) h) h
  exact ⟨d, ⟨h1, q1⟩, q2⟩
 ·obtain ⟨h1, h⟩ := h
  rename_i s
  obtain ⟨d, q1, q2⟩ := det_bnd (F := fun K l => bnd hi s.size fun h => 0 ≤ l ∧ l ≤ h ∧ h ≤ s.size ∧ K (.v (.string (s.extract l.toNat h.toNat)))) (fun l h => det_bnd (F := fun K h => 0 ≤ l ∧ l ≤ h ∧ h ≤ s.size ∧ K (.v (.string (s.extract l.toNat h.toNat))))
   (fun hh h => ⟨_, ⟨h.1, h.2.1, h.2.2.1, rfl⟩, h.2.2.2⟩) h) h
  exact ⟨d, ⟨h1, q1⟩, q2⟩
 ·rename_i e s by' b o n c
  exact det_bnd (F := fun K l => bnd hi n fun h => bnd mx c fun m => 0 ≤ l ∧ l ≤ h ∧ h ≤ m ∧ m ≤ c ∧
   K (.v (.slice (some ⟨b, if m.toNat = l.toNat then o else o + l.toNat * s, none⟩) (h.toNat - l.toNat) (m.toNat - l.toNat)))) (fun l h => det_bnd (F := fun K h => bnd mx c fun m => 0 ≤ l ∧ l ≤ h ∧ h ≤ m ∧ m ≤ c ∧
   K (.v (.slice (some ⟨b, if m.toNat = l.toNat then o else o + l.toNat * s, none⟩) (h.toNat - l.toNat) (m.toNat - l.toNat)))) (fun hh h => det_bnd (F := fun K m => 0 ≤ l ∧ l ≤ hh ∧ hh ≤ m ∧ m ≤ c ∧
   K (.v (.slice (some ⟨b, if m.toNat = l.toNat then o else o + l.toNat * s, none⟩) (hh.toNat - l.toNat) (m.toNat - l.toNat)))) (fun m h => ⟨_, ⟨h.1, h.2.1, h.2.2.1, h.2.2.2.1, rfl⟩, h.2.2.2.2⟩) h) h) h
 ·obtain ⟨h1, h⟩ := h
  rename_i n e s ag nn b o
  obtain ⟨d, q1, q2⟩ := det_bnd (F := fun K l => bnd hi n fun h => bnd mx n fun m => 0 ≤ l ∧ l ≤ h ∧ h ≤ m ∧ m ≤ n ∧
   K (.v (.slice (some ⟨b, if m.toNat = l.toNat then o else o + l.toNat * s, none⟩) (h.toNat - l.toNat) (m.toNat - l.toNat)))) (fun l h => det_bnd (F := fun K h => bnd mx n fun m => 0 ≤ l ∧ l ≤ h ∧ h ≤ m ∧ m ≤ n ∧
   K (.v (.slice (some ⟨b, if m.toNat = l.toNat then o else o + l.toNat * s, none⟩) (h.toNat - l.toNat) (m.toNat - l.toNat)))) (fun hh h => det_bnd (F := fun K m => 0 ≤ l ∧ l ≤ hh ∧ hh ≤ m ∧ m ≤ n ∧
   K (.v (.slice (some ⟨b, if m.toNat = l.toNat then o else o + l.toNat * s, none⟩) (hh.toNat - l.toNat) (m.toNat - l.toNat)))) (fun m h => ⟨_, ⟨h.1, h.2.1, h.2.2.1, h.2.2.2.1, rfl⟩, h.2.2.2.2⟩) h) h) h
  exact ⟨d, ⟨h1, q1⟩, q2⟩
 ·exact h.elim
theorem det_len {k : TK} {x : DV} (h : vLen k x K) : ∃ d, vLen k x (· = d) ∧ K d := by
 unfold vLen at *
 split at h <;> first | exact ⟨_, rfl, h⟩ | exact h.elim
theorem det_cap {k : TK} {x : DV} (h : vCap k x K) : ∃ d, vCap k x (· = d) ∧ K d := by
 unfold vCap at *
 split at h <;> first | exact ⟨_, rfl, h⟩ | exact h.elim
theorem det_min {x y : DV} (h : vMin x y K) : ∃ d, vMin x y (· = d) ∧ K d := by
 unfold vMin at *
 split at h <;> first | exact ⟨_, rfl, h⟩ | exact h.elim
theorem det_max {x y : DV} (h : vMax x y K) : ∃ d, vMax x y (· = d) ∧ K d := by
 unfold vMax at *
 split at h <;> first | exact ⟨_, rfl, h⟩ | exact h.elim
theorem det_build {t : TypeId} {parts : List (Nat × DV)} (h : vBuild P t parts K) : ∃ d, vBuild P t parts (· = d) ∧ K d := by
 unfold vBuild at *
 split at h
 ·split at h
  ·rename_i hf; (try simp only [hf]); exact ⟨_, rfl, h⟩
  ·exact h.elim
 ·exact h.elim
theorem det_buildSlice {k : TK} {z : DV} {len : Nat} {parts : List (Nat × DV)} (h : vBuildSlice k z len parts K) : ∃ d, vBuildSlice k z len parts (· = d) ∧ K d := by
 unfold vBuildSlice at *
 split at h
 ·obtain ⟨h1, h2, h3, h⟩ := h
  split at h
  ·rename_i hf; (try simp only [hf]); exact ⟨_, ⟨h1, h2, h3, rfl⟩, h⟩
  ·exact h.elim
 ·exact h.elim
def nacc : DV → Bool
 | .acc _ _ => false
 | _ => true
def naccA : DV → Bool
 | .agg ds => ds.all nacc
 | d => nacc d
theorem shr1_id {K : DV → St → Prop} {d : DV} (hd : nacc d = true) (h : K d S) : shr1 S d K := by
 cases d <;> first | (cases hd; done) | exact h
theorem sliceX_id {K : DV → St → Prop} {k : TK} {x : DV} {lo hi mx : Option DV} (hx : nacc x = true) (h : vSliceS k S x lo hi mx K) : vSliceX k S x lo hi mx K := by
 cases x <;> first | (cases hx; done) | exact h
theorem shr1s_id : ∀ {ds : List DV} {K : List DV → St → Prop}, ds.all nacc = true → K ds S → shr1s S ds K
 | [], K, _, h => h
 | d :: ds, K, hd, h => by
  simp only [List.all_cons, Bool.and_eq_true] at hd
  exact shr1_id hd.1 (shr1s_id hd.2 h)
theorem shr_id {K : DV → St → Prop} {d : DV} (hd : naccA d = true) (h : K d S) : shr S d K := by
 cases d with
 | agg ds => exact shr1s_id hd h
 | acc l n => cases hd
 | _ => exact h
theorem shrs_id : ∀ {ds : List DV} {K : List DV → St → Prop}, ds.all naccA = true → K ds S → shrs S ds K
 | [], K, _, h => h
 | d :: ds, K, hd, h => by
  simp only [List.all_cons, Bool.and_eq_true] at hd
  exact shr_id hd.1 (shrs_id hd.2 h)
theorem callK_id {ds : List DV} {F : List DV → St → Prop} (hd : ds.all naccA = true) (h : F ds S) : callK S ds F := by
 unfold callK
 split
 ·exact .inl h
 ·exact shrs_id hd h
def vCallQ (P : Program) (w0 : W0) (cal : DV) (ds : List DV) (S : St) (K : DV → Prop) : Prop := match cal with
 | .v (.func (.func f) a cap) => a.size = 0 ∧ okF P f = true ∧ cap.toList.all (fun u => u.oneCell') = true ∧ ds.all naccA = true ∧ ∃ d, ACall P w0 f (ds ++ cap.toList.map .v) S (fun d' S' => d' = d ∧ S' = S) ∧ K d
 | _ => False
theorem det_lookup {m : Option (KK × DV)} {S : St} {x y : DV} {ok : Bool} {K : DV → Prop} (h : vLookup m S x y ok K) : ∃ d, vLookup m S x y ok (· = d) ∧ K d := by
 unfold vLookup at *
 cases m with
 | none => exact h.elim
 | some p =>
  simp only [oK] at h ⊢
  obtain ⟨h0, h⟩ := h
  cases hk : kVal y with
  | none => rw [hk] at h; exact h.elim
  | some k =>
   rw [hk] at h
   simp only at h ⊢
   obtain ⟨h1, h⟩ := h
   split at h
   ·exact ⟨_, ⟨h0, h1, rfl⟩, h⟩
   ·split at h
    ·obtain ⟨h2, h⟩ := h
     cases hg : mGet _ k with
     | none => rw [hg] at h; exact ⟨_, ⟨h0, h1, h2, rfl⟩, h⟩
     | some d => rw [hg] at h; exact ⟨_, ⟨h0, h1, h2, rfl⟩, h⟩
    ·exact h.elim
   ·exact h.elim
def vcOpQ (P : Program) (w0 : W0) (op : Op) (fr : List DV) (S : St) (K : DV → Prop) : Prop := match op with
 | .move x => K (ev fr x)
 | .assign x => K (ev fr x)
 | .pick c a b => vPick (ev fr c) (ev fr a) (ev fr b) K
 | .load t x => vLoad (tk P t) S (ev fr x) K
 | .fieldAddr t x f => vField (tk P t) f (ev fr x) K
 | .indexAddr t x i => evG w0 fr x fun d => vIndexAddr (tk P t) d (ev fr i) K
 | .index t x i => vIndex (tk P t) (ev fr x) (ev fr i) K
 | .field t x f => vFieldV (tk P t) f (ev fr x) K
 | .extract x i => vExtract i (ev fr x) K
 | .nilCheck x => notNil (ev fr x) = true ∧ K (ev fr x)
 | .binOp b t x y _ => isNilC y = false ∧ vBinA P b t (isC x) (isC y) (ev fr x) (ev fr y) K
 | .unOp b _ x => vUn b (ev fr x) K
 | .convert s d x => vConv (tk P s) (tk P d) (ev fr x) K
 | .makeInterface t x => isIfc (tk P t) = false ∧ naccA (ev fr x) = true ∧ K (.ifc t (ev fr x))
 | .makeFunc fn a b => vFunc fn (a.toList.map (ev fr)) (b.toList.map (ev fr)) K
 | .slice t x lo hi mx => (mx.isSome = true → hi.isSome = true) ∧ nacc (ev fr x) = true ∧ vSlice (tk P t) (ev fr x) (lo.map (ev fr)) (hi.map (ev fr)) (mx.map (ev fr)) K
 | .build t parts => (parts.toList.map fun p => ev fr p.2).all naccA = true ∧ vBuild P t ((parts.toList.map (·.1)).zip (parts.toList.map fun p => ev fr p.2)) K
 | .buildSlice t len parts => (parts.toList.map fun p => ev fr p.2).all naccA = true ∧ vBuildSlice (tk P t) (zD P (elT P t)) len ((parts.toList.map (·.1)).zip (parts.toList.map fun p => ev fr p.2)) K
 | .lookup t x y ok => vLookup (mpT P t) S (ev fr x) (ev fr y) ok K
 | .call c => match c.callee with
  | .builtin .len => (match c.args.toList, c.argTypes.toList with
   | [x], [t] => vLen (tk P t) (ev fr x) K
   | _, _ => False)
  | .builtin .cap => (match c.args.toList, c.argTypes.toList with
   | [x], [t] => vCap (tk P t) (ev fr x) K
   | _, _ => False)
  | .builtin .min => (match c.args.toList with
   | [x, y] => vMin (ev fr x) (ev fr y) K
   | _ => False)
  | .builtin .max => (match c.args.toList with
   | [x, y] => vMax (ev fr x) (ev fr y) K
   | _ => False)
  | .value cal => vCallQ P w0 (ev fr cal) (c.args.toList.map (ev fr)) S K
  | .invoke r name => vInv P (ev fr r) name fun f d => vCallQ P w0 (.v (.func (.func f) #[] #[])) (d :: c.args.toList.map (ev fr)) S K
  | _ => False
 | _ => False
theorem vcOpQ_sound {o : Oper} {fr : List DV} (hs : okSl o.op = true) (h : vcOpQ P w0 o.op fr S K) : ∃ d, QY P w0 S o fr d ∧ K d := by
 have fin : ∀ {d : DV}, vcOp P w0 o.op fr S (fun d' S' => d' = d ∧ S' = S) → K d → ∃ d, QY P w0 S o fr d ∧ K d := fun h1 h2 => ⟨_, vcOp_sound hs h1, h2⟩
 cases hop : o.op with
 | move x => rw [hop] at h; exact fin (by rw [hop]; exact ⟨rfl, rfl⟩) h
 | assign x => rw [hop] at h; exact fin (by rw [hop]; exact ⟨rfl, rfl⟩) h
 | pick c a b => rw [hop] at h; obtain ⟨d, q1, q2⟩ := det_pick h; exact fin (by rw [hop]; simpa [vcOp] using q1) q2
 | load t x => rw [hop] at h; obtain ⟨d, q1, q2⟩ := det_load h; exact fin (by rw [hop]; simpa [vcOp] using q1) q2
 | fieldAddr t x f => rw [hop] at h; obtain ⟨d, q1, q2⟩ := det_field h; exact fin (by rw [hop]; simpa [vcOp] using q1) q2
 | indexAddr t x i =>
  rw [hop] at h
  cases x with
  | global b =>
   obtain ⟨us, hg, h⟩ := (show globK w0 b fun d => vIndexAddr (tk P t) d (ev fr i) K from h)
   obtain ⟨d, q1, q2⟩ := det_indexAddr h
   exact fin (by rw [hop]; exact ⟨us, hg, by simpa using q1⟩) q2
  | tmp n => obtain ⟨d, q1, q2⟩ := det_indexAddr (show vIndexAddr (tk P t) (ev fr (.tmp n)) (ev fr i) K from h); exact fin (by rw [hop]; simpa [vcOp, evG] using q1) q2
  | const u => obtain ⟨d, q1, q2⟩ := det_indexAddr (show vIndexAddr (tk P t) (ev fr (.const u)) (ev fr i) K from h); exact fin (by rw [hop]; simpa [vcOp, evG] using q1) q2
  | func f => obtain ⟨d, q1, q2⟩ := det_indexAddr (show vIndexAddr (tk P t) (ev fr (.func f)) (ev fr i) K from h); exact fin (by rw [hop]; simpa [vcOp, evG] using q1) q2
 | index t x i => rw [hop] at h; obtain ⟨d, q1, q2⟩ := det_index h; exact fin (by rw [hop]; simpa [vcOp] using q1) q2
 | field t x f => rw [hop] at h; obtain ⟨d, q1, q2⟩ := det_fieldV h; exact fin (by rw [hop]; simpa [vcOp] using q1) q2
 | extract x i => rw [hop] at h; obtain ⟨d, q1, q2⟩ := det_extract h; exact fin (by rw [hop]; simpa [vcOp] using q1) q2
 | nilCheck x => rw [hop] at h; exact fin (by rw [hop]; exact ⟨h.1, rfl, rfl⟩) h.2
 | binOp b t x y t' => rw [hop] at h; obtain ⟨d, q1, q2⟩ := det_binA h.2; exact fin (by rw [hop]; simp only [vcOp, h.1]; simpa using q1) q2
 | unOp b t x => rw [hop] at h; obtain ⟨d, q1, q2⟩ := det_un h; exact fin (by rw [hop]; simpa [vcOp] using q1) q2
 | convert s d x => rw [hop] at h; obtain ⟨d', q1, q2⟩ := det_conv h; exact fin (by rw [hop]; simpa [vcOp] using vConvS_of (ke := tk P (elT P s)) (kb := tk P (elT P d)) (S := S) q1) q2
 | makeInterface t x => rw [hop] at h; exact fin (by rw [hop]; exact ⟨h.1, shr_id h.2.1 ⟨rfl, rfl⟩⟩) h.2.2
 | makeFunc fn a b => rw [hop] at h; obtain ⟨d, q1, q2⟩ := det_func h; exact fin (by rw [hop]; simpa [vcOp] using q1) q2
 | slice t x lo hi mx => rw [hop] at h; obtain ⟨d, q1, q2⟩ := det_slice h.2.2; exact fin (by rw [hop]; exact ⟨h.1, sliceX_id h.2.1 (shr1_id h.2.1 (by simpa using q1))⟩) q2
 | lookup t x y ok => rw [hop] at h; obtain ⟨d, q1, q2⟩ := det_lookup h; exact fin (by rw [hop]; simpa [vcOp] using q1) q2
 | build t parts => rw [hop] at h; obtain ⟨d, q1, q2⟩ := det_build h.2; exact fin (by rw [hop]; exact shrs_id h.1 (by simpa using q1)) q2
 | buildSlice t len parts => rw [hop] at h; obtain ⟨d, q1, q2⟩ := det_buildSlice h.2; exact fin (by rw [hop]; exact shrs_id h.1 (by simpa using q1)) q2
 | call c =>
  rw [hop] at h
  obtain ⟨callee, args, ts⟩ := c
  simp only [vcOpQ] at h
  split at h
  ·split at h
   ·rename_i x t e1 e2
    obtain ⟨d, q1, q2⟩ := det_len h
    exact fin (by rw [hop]; simp only [vcOp, e1, e2]; simpa using q1) q2
   ·exact h.elim
  ·split at h
   ·rename_i x t e1 e2
    obtain ⟨d, q1, q2⟩ := det_cap h
    exact fin (by rw [hop]; simp only [vcOp, e1, e2]; simpa using q1) q2
   ·exact h.elim
  ·split at h
   ·rename_i x y e1
    obtain ⟨d, q1, q2⟩ := det_min h
    exact fin (by rw [hop]; simp only [vcOp, e1]; simpa using q1) q2
   ·exact h.elim
  ·split at h
   ·rename_i x y e1
    obtain ⟨d, q1, q2⟩ := det_max h
    exact fin (by rw [hop]; simp only [vcOp, e1]; simpa using q1) q2
   ·exact h.elim
  ·rename_i cal
   unfold vCallQ at h
   split at h
   ·rename_i f a cap hcal
    obtain ⟨h1, h2, h3, h4, d, h5, h6⟩ := h
    exact fin (by rw [hop]; simp only [vcOp, hcal]; exact vCall_of h1 h3 (by rw [h2, gX_t]; exact callK_id h4 h5)) h6
   ·exact h.elim
  ·rename_i r name
   unfold vInv at h
   split at h
   ·rename_i t hx
    split at h
    ·rename_i f hi
     obtain ⟨hf, _, h2, h3, h4, d, h5, h6⟩ := h
     have h5' : ACall P w0 f (.agg [] :: args.toList.map (ev fr)) S (fun d' S' => d' = d ∧ S' = S) := by simpa using h5
     exact fin (by rw [hop]; simp only [vcOp, vInv, hx, hi]; exact ⟨hf, callK_id h4 h5'⟩) h6
    ·exact h.elim
   ·exact h.elim
  ·exact h.elim
 | _ => rw [hop] at h; exact h.elim
end
end Aml
namespace Aml
open Go Go.RowKit
def dI (n : Int) : DV := .v (.int .i64 n)
def dU (n : Int) : DV := .v (.int .u64 n)
def dY (n : Int) : DV := .v (.int .u8 n)
def dB (b : Bool) : DV := .v (.bool b)
def dS (s : ByteArray) : DV := .v (.string s)
theorem wu64 {n : Int} (h0 : 0 ≤ n) (h1 : n ≤ 18446744073709551615) : IntKind.u64.wrap n = n := by
 show n % 18446744073709551616 = n
 omega
theorem wu8 {n : Int} (h0 : 0 ≤ n) (h1 : n ≤ 255) : IntKind.u8.wrap n = n := by
 show n % 256 = n
 omega
section
variable {P : Program} {w0 : W0}
end
end Aml
namespace Aml
open Go Go.RowKit
def isQ : Op → Bool
 | .store .. | .box .. | .alloc .. | .makeSlice .. | .mapUpdate .. | .makeMap .. => false
 | .call c => match c.callee with
  | .builtin .append | .builtin .clear | .builtin .delete | .builtin .copy => false
  | _ => true
 | _ => true
def reachB (md : Region.Mode) (ops : Array Oper) : Nat → Nat → Nat → Bool
 | 0, _, _ => false
 | n + 1, k, i => match ops[k]? with
  | none => false
  | some o => o.after.any fun e => Region.binds md e && (e.on == i || reachB md ops n e.on i)
def backB (md : Region.Mode) (ops : Array Oper) : Bool := (List.range ops.size).all fun k => match ops[k]? with
 | none => true
 | some o => o.after.all fun e => !Region.binds md e || decide (e.on < k)
def tailB (md : Region.Mode) (ops : Array Oper) (n : Nat) : Bool := backB md ops &&
 ((List.range ops.size).all fun k => decide (k < n) || (List.range k).all fun i => reachB md ops ops.size k i) &&
 (ops.toList.take n).all fun o => match o.guard with | none => true | some (j, _) => decide (j < n)
section
variable {P : Program} {w0 : W0} {ops : Array Oper} {md : Region.Mode}
theorem back_spec (h : backB md ops = true) {k : Nat} {o : Oper} (hk : ops[k]? = some o) : ∀ e ∈ o.after, Region.binds md e = true → e.on < k := by
 intro e he hb
 have hlt : k < ops.size := (Array.getElem?_eq_some_iff.1 hk).1
 have := List.all_eq_true.1 h k (List.mem_range.2 hlt)
 simp only [hk] at this
 have := Array.all_eq_true'.1 this e he
 simpa [hb] using this
def Clo (md : Region.Mode) (ops : Array Oper) (L : Array Bool) : Prop := ∀ (j : Nat) (o : Oper), ops[j]? = some o → L[j]? = some true → ∀ e ∈ o.after, Region.binds md e = true → L[e.on]? = some true
theorem reach_listed {L : Array Bool} (hc : Clo md ops L) : ∀ (n k i : Nat) (o : Oper), ops[k]? = some o → (∀ e ∈ o.after, Region.binds md e = true → L[e.on]? = some true) → reachB md ops n k i = true → L[i]? = some true
 | 0, _, _, _, _, _, h => by cases h
 | n + 1, k, i, o, hk, ha, h => by
  simp only [reachB, hk] at h
  obtain ⟨e, he, h⟩ := Array.any_eq_true'.1 h
  simp only [Bool.and_eq_true, Bool.or_eq_true, beq_iff_eq] at h
  rcases h.2 with h' | h'
  ·rw [← h']; exact ha e he h.1
  ·have hl := ha e he h.1
   cases ho : ops[e.on]? with
   | none => cases n <;> simp [reachB, ho] at h'
   | some o' => exact reach_listed hc n e.on i o' ho (hc e.on o' ho hl) h'
theorem getD_false {L : Array Bool} {i : Nat} : L.getD i false = true ↔ L[i]? = some true := by
 rw [Array.getD_eq_getD_getElem?]
 cases L[i]? <;> simp
theorem getD_true {L : Array Bool} {i : Nat} : L.getD i true = false ↔ L[i]? = some false := by
 rw [Array.getD_eq_getD_getElem?]
 cases L[i]? <;> simp
theorem step_op {ro : Option Nat} {g0 g : Gh} {Q : Exit → List DV → St → Prop} {o : Oper} {fr : List DV} {S : St} {a : Act} {w : World} {K : List DV → St → Prop} {K' : Act → World → Prop} (k : g0.le g) (h1 : Rel w0 g S w) (h2 : RepL g fr a.tmps.toList) (h3 : Dk w0 g.obj a w)
  (hK : ∀ fr S g a w, g0.le g → Rel w0 g S w → RepL g fr a.tmps.toList → Dk w0 g.obj a w → K fr S → K' a w)
  (h : guardK ops fr o.guard (fun fr => YieldsE P w0 o (ev fr) S fun d S' => K (pt fr o.dst d) S') (fun fr => K (pt fr o.dst ud) S)) {i : Nat} (hi : ops[i]? = some o) :
  wpOpIn (fz ro) 0 P ops (Good w0 g0 Q) i K' a w := by
 unfold wpOpIn
 simp only [hi]
 rcases guard_sound h2 h with ⟨hw, fr', h2', hA⟩ | ⟨hw, fr', h2', hB⟩
 ·rw [if_pos hw]
  refine wpIn_of_yields hA h1 (fun x _ => rep_ev h2' x) h3 fun g' d u S' w' k1 k2 k3 k4 k5 => ?_
  exact hK _ _ g' _ _ (k.trans k1) k2 (repL_put (h2'.mono k1) _ k3) (k1.dk k5) k4
 ·rw [if_neg (by simp [hw])]
  exact ⟨fun _ _ => trivial, hK _ _ g _ _ k h1 (repL_put h2' _ (rep_ud g)) (h3.keep (put_defers _ _ _) fun _ _ h _ => h) hB⟩
theorem LQ_mono {S : St} {K K' : List DV → Prop} (hk : ∀ fr, K fr → K' fr) : ∀ {l : List Oper} {fr : List DV}, LQ P w0 S ops K l fr → LQ P w0 S ops K' l fr
 | [], fr, h => hk _ h
 | o :: rest, fr, h => guardK_mono (fun fr ⟨d, q1, q2⟩ => ⟨d, q1, LQ_mono hk q2⟩) (fun fr h => LQ_mono hk h) h
theorem wpAny_tail {ro : Option Nat} {g0 : Gh} {Q : Exit → List DV → St → Prop} {n : Nat} (hB : tailB md ops n = true) : ∀ (l : List Oper) (k fuel : Nat) (L : Array Bool) (fr : List DV) (S : St) (g : Gh) (a : Act) (w : World),
  (∀ j, l[j]? = ops[k + j]?) → n ≤ k → k ≤ ops.size → l.length ≤ fuel → L.size = ops.size → (∀ i, i < k → L[i]? = some true) → (∀ i, k ≤ i → i < ops.size → L[i]? = some false) → g0.le g → Rel w0 g S w → RepL g fr a.tmps.toList → Dk w0 g.obj a w →
  LWp P w0 ops (fun fr S => Q .normal fr S) l fr S → wpAnyIn (fz ro) 0 P md ops (Good w0 g0 Q) fuel L a w := by
 simp only [tailB, Bool.and_eq_true] at hB
 obtain ⟨⟨hb, ha⟩, -⟩ := hB
 have none_ready : ∀ (k : Nat) (L : Array Bool), ops.size ≤ k → L.size = ops.size → (∀ i, i < k → L[i]? = some true ∨ ops.size ≤ i) → ∀ i, i ∉ Region.ready md ops L := by
  intro k L hk hs hl i hi
  obtain ⟨h1, o, ho, _⟩ := mem_ready.1 hi
  rw [getD_true] at h1
  have hlt : i < ops.size := (Array.getElem?_eq_some_iff.1 ho).1
  rcases hl i (by omega) with h | h
  ·rw [h] at h1; cases h1
  ·omega
 intro l
 induction l with
 | nil =>
  intro k fuel L fr S g a w hl hn hk hf hs ht hu k1 h1 h2 h3 h
  have hk' : ops.size ≤ k := by
   have := hl 0
   simp only [List.getElem?_nil, Nat.add_zero] at this
   exact Array.getElem?_eq_none_iff.1 this.symm
  have hno := none_ready k L hk' hs (fun i hi => .inl (ht i hi))
  have hemp : Region.ready md ops L = [] := List.eq_nil_iff_forall_not_mem.2 hno
  cases fuel with
  | zero => exact ⟨hemp, k1.kd h3, g, fr, S, k1, h1, h2, h⟩
  | succ fuel => exact ⟨fun _ => ⟨k1.kd h3, g, fr, S, k1, h1, h2, h⟩, fun i hi => absurd hi (hno i)⟩
 | cons o rest ih =>
  intro k fuel L fr S g a w hl hn hk hf hs ht hu k1 h1 h2 h3 h
  have h0 : ops[k]? = some o := by simpa using (hl 0).symm
  have hklt : k < ops.size := (Array.getElem?_eq_some_iff.1 h0).1
  have hready : k ∈ Region.ready md ops L := mem_ready.2 ⟨getD_true.2 (hu k (Nat.le_refl _) hklt), o, h0, fun e he hbe => getD_false.2 (ht _ (back_spec hb h0 e he hbe))⟩
  cases fuel with
  | zero => simp at hf
  | succ fuel =>
   refine ⟨fun h => (by rw [h] at hready; cases hready), fun i hi => ?_⟩
   obtain ⟨hi1, oi, hoi, hia⟩ := mem_ready.1 hi
   rw [getD_true] at hi1
   have hilt : i < ops.size := (Array.getElem?_eq_some_iff.1 hoi).1
   have hclo : Clo md ops L := fun j oj hj hlj e he hbe => by
    have hjk : j < k := by
     rcases Nat.lt_or_ge j k with h | h
     ·exact h
     ·rw [hu j h (Array.getElem?_eq_some_iff.1 hj).1] at hlj; cases hlj
    exact ht _ (Nat.lt_trans (back_spec hb hj e he hbe) hjk)
   have hik : i = k := by
    rcases Nat.lt_trichotomy i k with h | h | h
    ·rw [ht i h] at hi1; cases hi1
    ·exact h
    ·have hr := List.all_eq_true.1 ha i (List.mem_range.2 hilt)
     rw [Bool.or_eq_true] at hr
     rcases hr with hr | hr
     ·have := of_decide_eq_true hr; omega
     ·have hr := List.all_eq_true.1 hr k (List.mem_range.2 h)
      have := reach_listed hclo _ i k oi hoi (fun e he hbe => getD_false.1 (hia e he hbe)) hr
      rw [hu k (Nat.le_refl _) hklt] at this; cases this
   subst hik
   refine step_op (o := o) k1 h1 h2 h3 (K := LWp P w0 ops (fun fr S => Q .normal fr S) rest) ?_ h h0
   intro fr' S' g' a' w' q1 q2 q3 q4 q5
   refine ih (i + 1) fuel (L.setIfInBounds i true) fr' S' g' a' w' (fun j => by have := hl (j + 1); simpa [Nat.add_assoc, Nat.add_comm 1 j] using this) (by omega) (by omega) (by simpa using hf) (by simpa using hs) ?_ ?_ q1 q2 q3 q4 q5
   ·intro j hj
    rw [Array.getElem?_setIfInBounds]
    split
    ·rename_i e; rw [if_pos (by omega)]
    ·exact ht j (by omega)
   ·intro j hj hj'
    rw [Array.getElem?_setIfInBounds, if_neg (by omega)]
    exact hu j (by omega) hj'
theorem wpAny_pre {ro : Option Nat} {g0 : Gh} {Q : Exit → List DV → St → Prop} {S : St} {n : Nat} (hB : tailB md ops n = true) (hn : n ≤ ops.size) : ∀ (fuel F : Nat) (L M : Array Bool) (fr : List DV) (g : Gh) (a : Act) (w : World),
  L.size = n → M.size = ops.size → (∀ i, i < n → M[i]? = L[i]?) → (∀ i, n ≤ i → i < ops.size → M[i]? = some false) → Clo md ops M → fuel + (ops.size - n) ≤ F → g0.le g → Rel w0 g S w → RepL g fr a.tmps.toList → Dk w0 g.obj a w →
  wpAnyD P w0 S md (ops.toList.take n).toArray (fun fr => LWp P w0 ops (fun fr S => Q .normal fr S) (ops.toList.drop n) fr S) fuel L fr → wpAnyIn (fz ro) 0 P md ops (Good w0 g0 Q) F M a w := by
 have hB' := hB
 simp only [tailB, Bool.and_eq_true] at hB'
 obtain ⟨⟨hb, ha⟩, hg⟩ := hB'
 have hpre : ∀ i, i < n → (ops.toList.take n).toArray[i]? = ops[i]? := fun i hi => by simp [List.getElem?_take, hi]
 have full : ∀ (L M : Array Bool), L.size = n → M.size = ops.size → (∀ i, i < n → M[i]? = L[i]?) → Region.ready md (ops.toList.take n).toArray L = [] → ∀ i, i < n → M[i]? = some true := by
  intro L M hs hM hLM hr i
  induction i using Nat.strongRecOn with
  | _ i ih =>
   intro hi
   have hlt : i < M.size := by omega
   have hsome : ∃ o, ops[i]? = some o := ⟨_, Array.getElem?_eq_getElem (by omega)⟩
   obtain ⟨o, ho⟩ := hsome
   cases hx : M[i]? with
   | none => rw [Array.getElem?_eq_getElem hlt] at hx; cases hx
   | some x =>
    cases x with
    | true => rfl
    | false =>
     have : i ∈ Region.ready md (ops.toList.take n).toArray L := mem_ready.2 ⟨getD_true.2 (by rw [← hLM i hi]; exact hx), o, by rw [hpre i hi]; exact ho, fun e he hbe => by
      have hlt' := back_spec hb ho e he hbe
      rw [getD_false, ← hLM _ (by omega)]
      exact ih _ hlt' (by omega)⟩
     rw [hr] at this; cases this
 have tail : ∀ (F : Nat) (L M : Array Bool) (fr : List DV) (g : Gh) (a : Act) (w : World), L.size = n → M.size = ops.size → (∀ i, i < n → M[i]? = L[i]?) → (∀ i, n ≤ i → i < ops.size → M[i]? = some false) → ops.size - n ≤ F → g0.le g → Rel w0 g S w → RepL g fr a.tmps.toList → Dk w0 g.obj a w →
   Region.ready md (ops.toList.take n).toArray L = [] → LWp P w0 ops (fun fr S => Q .normal fr S) (ops.toList.drop n) fr S → wpAnyIn (fz ro) 0 P md ops (Good w0 g0 Q) F M a w := by
  intro F L M fr g a w hs hM hLM hM0 hF q1 q2 q3 q4 hr h
  exact wpAny_tail hB (ops.toList.drop n) n F M fr S g a w (fun j => by simp [List.getElem?_drop]) (Nat.le_refl _) hn (by simp; omega) hM (full L M hs hM hLM hr) hM0 q1 q2 q3 q4 h
 intro fuel
 induction fuel with
 | zero =>
  intro F L M fr g a w hs hM hLM hM0 hc hF q1 q2 q3 q4 h
  exact tail F L M fr g a w hs hM hLM hM0 (by omega) q1 q2 q3 q4 h.1 h.2
 | succ fuel ih =>
  intro F L M fr g a w hs hM hLM hM0 hc hF q1 q2 q3 q4 h
  by_cases hr : Region.ready md (ops.toList.take n).toArray L = []
  ·exact tail F L M fr g a w hs hM hLM hM0 (by omega) q1 q2 q3 q4 hr (h.1 hr)
  ·obtain ⟨F, rfl⟩ : ∃ F', F = F' + 1 := ⟨F - 1, by omega⟩
   have up : ∀ i, i ∈ Region.ready md (ops.toList.take n).toArray L → i ∈ Region.ready md ops M := by
    intro i hi
    obtain ⟨h1, o, ho, h2⟩ := mem_ready.1 hi
    have hi' : i < n := by have := (Array.getElem?_eq_some_iff.1 ho).1; simp at this; omega
    rw [hpre i hi'] at ho
    refine mem_ready.2 ⟨getD_true.2 (by rw [hLM i hi']; exact getD_true.1 h1), o, ho, fun e he hbe => ?_⟩
    have hlt := back_spec hb ho e he hbe
    rw [getD_false, hLM _ (by omega)]
    exact getD_false.1 (h2 e he hbe)
   refine ⟨fun h0 => ?_, fun i hi => ?_⟩
   ·exfalso
    obtain ⟨x, xs, hx⟩ : ∃ x xs, Region.ready md (ops.toList.take n).toArray L = x :: xs := by
     cases he : Region.ready md (ops.toList.take n).toArray L with
     | nil => exact absurd he hr
     | cons x xs => exact ⟨x, xs, rfl⟩
    have := up x (by rw [hx]; exact List.mem_cons_self)
    rw [h0] at this; cases this
   ·obtain ⟨hi1, oi, hoi, hia⟩ := mem_ready.1 hi
    rw [getD_true] at hi1
    have hilt : i < ops.size := (Array.getElem?_eq_some_iff.1 hoi).1
    by_cases hin : i < n
    ·have hiL : i ∈ Region.ready md (ops.toList.take n).toArray L := mem_ready.2 ⟨getD_true.2 (by rw [← hLM i hin]; exact hi1), oi, by rw [hpre i hin]; exact hoi, fun e he hbe => by
      have hlt := back_spec hb hoi e he hbe
      rw [getD_false, ← hLM _ (by omega)]
      exact getD_false.1 (hia e he hbe)⟩
     have hq := h.2 i hiL
     have hgi : ∀ j want, oi.guard = some (j, want) → j < n := by
      intro j want hgj
      have hmem : oi ∈ ops.toList.take n := by
       have : (ops.toList.take n)[i]? = some oi := by rw [List.getElem?_take, if_pos hin]; simpa using hoi
       exact List.mem_of_getElem? this
      have := List.all_eq_true.1 hg oi hmem
      simpa [hgj] using this
     have hwant : ∀ fr, wantB (ops.toList.take n).toArray fr oi.guard = wantB ops fr oi.guard := by
      intro fr
      cases hgo : oi.guard with
      | none => rfl
      | some p =>
       obtain ⟨j, want⟩ := p
       simp only [wantB, hpre j (hgi j want hgo)]
     have hLs : (L.setIfInBounds i true).size = n := by simpa using hs
     have hMs : (M.setIfInBounds i true).size = ops.size := by simpa using hM
     have hLM' : ∀ j, j < n → (M.setIfInBounds i true)[j]? = (L.setIfInBounds i true)[j]? := by
      intro j hj
      rw [Array.getElem?_setIfInBounds, Array.getElem?_setIfInBounds, hLM j hj]
      split
      ·rw [if_pos (by omega), if_pos (by omega)]
      ·rfl
     have hM0' : ∀ j, n ≤ j → j < ops.size → (M.setIfInBounds i true)[j]? = some false := by
      intro j hj hj'
      rw [Array.getElem?_setIfInBounds, if_neg (by omega)]
      exact hM0 j hj hj'
     have hc' : Clo md ops (M.setIfInBounds i true) := by
      intro j oj hj hlj e he hbe
      rw [Array.getElem?_setIfInBounds]
      split
      ·rw [if_pos (by omega)]
      ·rw [Array.getElem?_setIfInBounds] at hlj
       split at hlj
       ·rename_i hij
        subst hij
        rw [hoi] at hj; cases hj
        exact getD_false.1 (hia e he hbe)
       ·exact hc j oj hj hlj e he hbe
     have cont : ∀ fr' g' a' w', g0.le g' → Rel w0 g' S w' → RepL g' fr' a'.tmps.toList → Dk w0 g'.obj a' w' → wpAnyD P w0 S md (ops.toList.take n).toArray (fun fr => LWp P w0 ops (fun fr S => Q .normal fr S) (ops.toList.drop n) fr S) fuel (L.setIfInBounds i true) fr' →
       wpAnyIn (fz ro) 0 P md ops (Good w0 g0 Q) F (M.setIfInBounds i true) a' w' := fun fr' g' a' w' p1 p2 p3 p4 p5 =>
      ih F _ _ fr' g' a' w' hLs hMs hLM' hM0' hc' (by omega) p1 p2 p3 p4 p5
     unfold qOp at hq
     rw [hpre i hin] at hq
     unfold wpOpIn
     simp only [hoi] at hq ⊢
     rcases hq with ⟨hw, d, hy, hk⟩ | ⟨hw, hk⟩
     ·rw [hwant] at hw
      have hw' := wantB_sound (o := oi) q3 hw
      rw [if_pos hw']
      refine wpIn_of_yields hy q2 (fun x _ => rep_ev q3 x) q4 fun g' d' u S' w' k1 k2 k3 k4 k5 => ?_
      obtain ⟨hd, hS⟩ := k4
      rw [hS] at k2
      rw [hd] at k3
      exact cont _ g' _ _ (q1.trans k1) k2 (repL_put (q3.mono k1) _ k3) (k1.dk k5) hk
     ·rw [hwant] at hw
      have hw' := wantB_sound (o := oi) q3 hw
      rw [if_neg (by simp [hw'])]
      exact ⟨fun _ _ => trivial, cont _ g _ _ q1 q2 (repL_put q3 _ (rep_ud g)) (q4.keep (put_defers _ _ _) fun _ _ h _ => h) hk⟩
    ·exfalso
     have hall : ∀ j, j < n → M[j]? = some true := by
      intro j hj
      have hr' := List.all_eq_true.1 ha i (List.mem_range.2 hilt)
      rw [Bool.or_eq_true] at hr'
      rcases hr' with hr' | hr'
      ·exact absurd (of_decide_eq_true hr') hin
      ·have hr' := List.all_eq_true.1 hr' j (List.mem_range.2 (by omega))
       exact reach_listed hc _ i j oi hoi (fun e he hbe => getD_false.1 (hia e he hbe)) hr'
     refine hr (List.eq_nil_iff_forall_not_mem.2 fun j hj => ?_)
     obtain ⟨h1, o, ho, _⟩ := mem_ready.1 hj
     have hj' : j < n := by have := (Array.getElem?_eq_some_iff.1 ho).1; simp at this; omega
     rw [getD_true, ← hLM j hj', hall j hj'] at h1
     cases h1
def npre (l : List Oper) : Nat := (l.takeWhile fun o => isQ o.op).length
theorem awp_drawT {id : Nat} {l : List Oper} {fr : List DV} {S : St} {Q : Exit → List DV → St → Prop} (n : Nat) (hn : n ≤ l.length) (hm : P.follows .mixedOrders = true) (hB : Region.lexB .any (l.take n).toArray = true) (hT : tailB .any l.toArray n = true) (hs : l.all (fun o => okSl o.op) = true)
  (h : LQ P w0 S (l.take n).toArray (fun fr => vcL P w0 l.toArray (fun fr S => Q .normal fr S) (l.drop n) fr S) (l.take n) fr) : AWp P w0 (.region id l.toArray true) fr S Q := by
 intro g a w h1 h2 h3
 simp only [Region.lexB, Bool.and_eq_true] at hB
 refine wpA_region_any hm fun ro => ?_
 have hR : Rel w0 g S { w with drawn := w.drawn + 1 } := h1.grow (below_drew w)
 have hs1 : (l.take n).all (fun o => okSl o.op) = true := List.all_eq_true.2 fun o ho => List.all_eq_true.1 hs o (List.mem_of_mem_take ho)
 have hs2 : (l.drop n).all (fun o => okSl o.op) = true := List.all_eq_true.2 fun o ho => List.all_eq_true.1 hs o (List.mem_of_mem_drop ho)
 have hLQ : LQ P w0 S (l.take n).toArray (fun fr => LWp P w0 l.toArray (fun fr S => Q .normal fr S) (l.drop n) fr S) (l.take n) fr := by
  exact LQ_mono (fun fr h => vcL_sound _ hs2 h) h
 have := wpAnyD_lex (P := P) (w0 := w0) (S := S) (md := .any) (ops := (l.take n).toArray) (l.take n) 0 (Array.replicate (l.take n).toArray.size false) fr (by simp) (by simpa using hB.2) hLQ
 refine wpAny_pre (n := n) (S := S) hT (by simpa using hn) (l.take n).length _ (Array.replicate (l.take n).toArray.size false) _ fr g a _ (by simp; omega) (by simp) ?_ ?_ ?_ (by simp; omega) (.refl g) hR h2 (h3.keep rfl fun _ _ h _ => h) (by simpa using this)
 ·intro i hi
  simp only [Array.getElem?_replicate, List.size_toArray, List.length_take]
  rw [if_pos (by omega), if_pos (by omega)]
 ·intro i hi hi'
  simp only [Array.getElem?_replicate]
  rw [if_pos hi']
 ·intro j o hj hl
  simp [Array.getElem?_replicate] at hl
end
end Aml
namespace Aml
open Go Go.RowKit
@[congr] theorem c_condD {d : DV} {d' : DV} {A : Prop} {B : Prop} (hd : d = d') : condD d A B = condD d' A B := by cases hd; rfl
@[congr] theorem c_hdK {ds : List DV} {ds' : List DV} {K : DV → Prop} (hds : ds = ds') : hdK ds K = hdK ds' K := by cases hds; rfl
@[congr] theorem c_ldK {k : TK} {k' : TK} {ds : List DV} {ds' : List DV} {K : DV → Prop} (hk : k = k') (hds : ds = ds') : ldK k ds K = ldK k' ds' K := by cases hk; cases hds; rfl
@[congr] theorem c_vPick {c : DV} {c' : DV} {a : DV} {a' : DV} {b : DV} {b' : DV} {K : DV → Prop} (hc : c = c') (ha : a = a') (hb : b = b') : vPick c a b K = vPick c' a' b' K := by cases hc; cases ha; cases hb; rfl
@[congr] theorem c_vLoad {k : TK} {k' : TK} {S : St} {S' : St} {x : DV} {x' : DV} {K : DV → Prop} (hk : k = k') (hS : S = S') (hx : x = x') : vLoad k S x K = vLoad k' S' x' K := by cases hk; cases hS; cases hx; rfl
@[congr] theorem c_vField {k : TK} {k' : TK} {f : Nat} {f' : Nat} {x : DV} {x' : DV} {K : DV → Prop} (hk : k = k') (hf : f = f') (hx : x = x') : vField k f x K = vField k' f' x' K := by cases hk; cases hf; cases hx; rfl
@[congr] theorem c_vIndexAddr {k : TK} {k' : TK} {x : DV} {x' : DV} {i : DV} {i' : DV} {K : DV → Prop} (hk : k = k') (hx : x = x') (hi : i = i') : vIndexAddr k x i K = vIndexAddr k' x' i' K := by cases hk; cases hx; cases hi; rfl
@[congr] theorem c_vExtract {i : Nat} {i' : Nat} {x : DV} {x' : DV} {K : DV → Prop} (hi : i = i') (hx : x = x') : vExtract i x K = vExtract i' x' K := by cases hi; cases hx; rfl
@[congr] theorem c_vFieldV {k : TK} {k' : TK} {f : Nat} {f' : Nat} {x : DV} {x' : DV} {K : DV → Prop} (hk : k = k') (hf : f = f') (hx : x = x') : vFieldV k f x K = vFieldV k' f' x' K := by cases hk; cases hf; cases hx; rfl
@[congr] theorem c_vBinI {op : BinOp} {k : IntKind} {m : Int} {m' : Int} {n : Int} {n' : Int} {K : DV → Prop} (hm : m = m') (hn : n = n') : vBinI op k m n K = vBinI op k m' n' K := by cases hm; cases hn; rfl
@[congr] theorem c_vBinS {op : BinOp} {x : ByteArray} {x' : ByteArray} {y : ByteArray} {y' : ByteArray} {K : DV → Prop} (hx : x = x') (hy : y = y') : vBinS op x y K = vBinS op x' y' K := by cases hx; cases hy; rfl
@[congr] theorem c_vBin {op : BinOp} {t : TK} {t' : TK} {cx : Bool} {cx' : Bool} {cy : Bool} {cy' : Bool} {x : DV} {x' : DV} {y : DV} {y' : DV} {K : DV → Prop} (ht : t = t') (hcx : cx = cx') (hcy : cy = cy') (hx : x = x') (hy : y = y') : vBin op t cx cy x y K = vBin op t' cx' cy' x' y' K := by cases ht; cases hcx; cases hcy; cases hx; cases hy; rfl
@[congr] theorem c_vAggEq {o : Option (List FK)} {o' : Option (List FK)} {op : BinOp} {al : List DV} {al' : List DV} {y : DV} {y' : DV} {K : DV → Prop} (ho : o = o') (hal : al = al') (hy : y = y') : vAggEq o op al y K = vAggEq o' op al' y' K := by cases ho; cases hal; cases hy; rfl
@[congr] theorem c_aggK {ks : List FK} {al : List DV} {al' : List DV} {bs : List DV} {bs' : List DV} {r : Bool} {r' : Bool} {F : Bool → Prop} (hal : al = al') (hbs : bs = bs') (hr : r = r') : aggK ks al bs r F = aggK ks al' bs' r' F := by cases hal; cases hbs; cases hr; rfl
@[congr] theorem c_vUn {op : UnOp} {x : DV} {x' : DV} {K : DV → Prop} (hx : x = x') : vUn op x K = vUn op x' K := by cases hx; rfl
@[congr] theorem c_vConv {a : TK} {a' : TK} {b : TK} {b' : TK} {x : DV} {x' : DV} {K : DV → Prop} (ha : a = a') (hb : b = b') (hx : x = x') : vConv a b x K = vConv a' b' x' K := by cases ha; cases hb; cases hx; rfl
@[congr] theorem c_vConvS {a : TK} {a' : TK} {b : TK} {b' : TK} {ke : TK} {ke' : TK} {kb : TK} {kb' : TK} {S : St} {S' : St} {x : DV} {x' : DV} {K : DV → Prop} (ha : a = a') (hb : b = b') (hke : ke = ke') (hkb : kb = kb') (hS : S = S') (hx : x = x') : vConvS a b ke kb S x K = vConvS a' b' ke' kb' S' x' K := by cases ha; cases hb; cases hke; cases hkb; cases hS; cases hx; rfl
@[congr] theorem c_vIndex {k : TK} {k' : TK} {x : DV} {x' : DV} {i : DV} {i' : DV} {K : DV → Prop} (hk : k = k') (hx : x = x') (hi : i = i') : vIndex k x i K = vIndex k' x' i' K := by cases hk; cases hx; cases hi; rfl
@[congr] theorem c_bnd {d : Option DV} {d' : Option DV} {z : Int} {z' : Int} {K : Int → Prop} (hd : d = d') (hz : z = z') : bnd d z K = bnd d' z' K := by cases hd; cases hz; rfl
@[congr] theorem c_vSlice {k : TK} {k' : TK} {x : DV} {x' : DV} {lo : Option DV} {lo' : Option DV} {hi : Option DV} {hi' : Option DV} {mx : Option DV} {mx' : Option DV} {K : DV → Prop} (hk : k = k') (hx : x = x') (hlo : lo = lo') (hhi : hi = hi') (hmx : mx = mx') : vSlice k x lo hi mx K = vSlice k' x' lo' hi' mx' K := by cases hk; cases hx; cases hlo; cases hhi; cases hmx; rfl
@[congr] theorem c_vLen {k : TK} {k' : TK} {x : DV} {x' : DV} {K : DV → Prop} (hk : k = k') (hx : x = x') : vLen k x K = vLen k' x' K := by cases hk; cases hx; rfl
@[congr] theorem c_vCap {k : TK} {k' : TK} {x : DV} {x' : DV} {K : DV → Prop} (hk : k = k') (hx : x = x') : vCap k x K = vCap k' x' K := by cases hk; cases hx; rfl
@[congr] theorem c_vMin {x : DV} {x' : DV} {y : DV} {y' : DV} {K : DV → Prop} (hx : x = x') (hy : y = y') : vMin x y K = vMin x' y' K := by cases hx; cases hy; rfl
@[congr] theorem c_vMax {x : DV} {x' : DV} {y : DV} {y' : DV} {K : DV → Prop} (hx : x = x') (hy : y = y') : vMax x y K = vMax x' y' K := by cases hx; cases hy; rfl
@[congr] theorem c_vStore {n : Nat} {n' : Nat} {S : St} {S' : St} {x : DV} {x' : DV} {y : DV} {y' : DV} {K : St → Prop} (hn : n = n') (hS : S = S') (hx : x = x') (hy : y = y') : vStore n S x y K = vStore n' S' x' y' K := by cases hn; cases hS; cases hx; cases hy; rfl
@[congr] theorem c_vStoreX {n : Nat} {n' : Nat} {S : St} {S' : St} {x : DV} {x' : DV} {y : DV} {y' : DV} {K : St → Prop} (hn : n = n') (hS : S = S') (hx : x = x') (hy : y = y') : vStoreX n S x y K = vStoreX n' S' x' y' K := by cases hn; cases hS; cases hx; cases hy; rfl
@[congr] theorem c_vBuildSlice {k : TK} {k' : TK} {z : DV} {z' : DV} {len : Nat} {len' : Nat} {parts : List (Nat × DV)} {parts' : List (Nat × DV)} {K : DV → Prop} (hk : k = k') (hz : z = z') (hlen : len = len') (hparts : parts = parts') : vBuildSlice k z len parts K = vBuildSlice k' z' len' parts' K := by cases hk; cases hz; cases hlen; cases hparts; rfl
@[congr] theorem c_contK {S : St} {S' : St} {d : DV} {d' : DV} {K : Nat → List DV → Prop} (hS : S = S') (hd : d = d') : contK S d K = contK S' d' K := by cases hS; cases hd; rfl
@[congr] theorem c_vApp {s : Nat} {s' : Nat} {b : Nat} {b' : Nat} {S : St} {S' : St} {x : DV} {x' : DV} {ys : List DV} {ys' : List DV} {K : DV → St → Prop} (hs : s = s') (hb : b = b') (hS : S = S') (hx : x = x') (hys : ys = ys') : vApp s b S x ys K = vApp s' b' S' x' ys' K := by cases hs; cases hb; cases hS; cases hx; cases hys; rfl
@[congr] theorem c_vAppend {k : TK} {k' : TK} {k2 : TK} {k2' : TK} {S : St} {S' : St} {x : DV} {x' : DV} {y : DV} {y' : DV} {K : DV → St → Prop} (hk : k = k') (hk2 : k2 = k2') (hS : S = S') (hx : x = x') (hy : y = y') : vAppend k k2 S x y K = vAppend k' k2' S' x' y' K := by cases hk; cases hk2; cases hS; cases hx; cases hy; rfl
@[congr] theorem c_vAppInt {k : TK} {k' : TK} {z : DV} {z' : DV} {S : St} {S' : St} {x : DV} {x' : DV} {y : DV} {y' : DV} {K : DV → St → Prop} (hk : k = k') (hz : z = z') (hS : S = S') (hx : x = x') (hy : y = y') : vAppInt k z S x y K = vAppInt k' z' S' x' y' K := by cases hk; cases hz; cases hS; cases hx; cases hy; rfl
@[congr] theorem c_vAppC {k : TK} {k' : TK} {k2 : TK} {k2' : TK} {S : St} {S' : St} {x : DV} {x' : DV} {y : DV} {y' : DV} {K : DV → St → Prop} (hk : k = k') (hk2 : k2 = k2') (hS : S = S') (hx : x = x') (hy : y = y') : vAppC k k2 S x y K = vAppC k' k2' S' x' y' K := by cases hk; cases hk2; cases hS; cases hx; cases hy; rfl
@[congr] theorem c_vAppZ {k : TK} {k' : TK} {z : DV} {z' : DV} {S : St} {S' : St} {x : DV} {x' : DV} {y : DV} {y' : DV} {K : DV → St → Prop} (hk : k = k') (hz : z = z') (hS : S = S') (hx : x = x') (hy : y = y') : vAppZ k z S x y K = vAppZ k' z' S' x' y' K := by cases hk; cases hz; cases hS; cases hx; cases hy; rfl
@[congr] theorem c_vCopy {k : TK} {k' : TK} {S : St} {S' : St} {x : DV} {x' : DV} {y : DV} {y' : DV} {K : DV → St → Prop} (hk : k = k') (hS : S = S') (hx : x = x') (hy : y = y') : vCopy k S x y K = vCopy k' S' x' y' K := by cases hk; cases hS; cases hx; cases hy; rfl
@[congr] theorem c_vClear {k : TK} {k' : TK} {z : DV} {z' : DV} {S : St} {S' : St} {x : DV} {x' : DV} {K : DV → St → Prop} (hk : k = k') (hz : z = z') (hS : S = S') (hx : x = x') : vClear k z S x K = vClear k' z' S' x' K := by cases hk; cases hz; cases hS; cases hx; rfl
@[congr] theorem c_copyK {S : St} {S' : St} {s : Nat} {s' : Nat} {ds : List DV} {ds' : List DV} {o : Nat} {o' : Nat} {b : Nat} {n : Nat} {n' : Nat} {y : DV} {y' : DV} {K : DV → St → Prop} (hS : S = S') (hs : s = s') (hds : ds = ds') (ho : o = o') (hn : n = n') (hy : y = y') : copyK S s ds o b n y K = copyK S' s' ds' o' b n' y' K := by cases hS; cases hs; cases hds; cases ho; cases hn; cases hy; rfl
@[congr] theorem c_rowsK {S : St} {S' : St} {s : Nat} {s' : Nat} {y : DV} {y' : DV} {F : Nat → List DV → Prop} (hS : S = S') (hs : s = s') (hy : y = y') : rowsK S s y F = rowsK S' s' y' F := by cases hS; cases hs; cases hy; rfl
@[congr] theorem c_vNilEq {op : BinOp} {k : TK} {k' : TK} {x : DV} {x' : DV} {K : DV → Prop} (hk : k = k') (hx : x = x') : vNilEq op k x K = vNilEq op k' x' K := by cases hk; cases hx; rfl
@[congr] theorem c_vCut0 {S : St} {S' : St} {x : DV} {x' : DV} {z : Nat} {z' : Nat} {K : DV → St → Prop} (hS : S = S') (hx : x = x') (hz : z = z') : vCut0 S x z K = vCut0 S' x' z' K := by cases hS; cases hx; cases hz; rfl
@[congr] theorem c_vSliceX {k : TK} {k' : TK} {S : St} {S' : St} {x : DV} {x' : DV} {lo : Option DV} {lo' : Option DV} {hi : Option DV} {hi' : Option DV} {mx : Option DV} {mx' : Option DV} {K : DV → St → Prop} (hk : k = k') (hS : S = S') (hx : x = x') (hlo : lo = lo') (hhi : hi = hi') (hmx : mx = mx') : vSliceX k S x lo hi mx K = vSliceX k' S' x' lo' hi' mx' K := by cases hk; cases hS; cases hx; cases hlo; cases hhi; cases hmx; rfl
@[congr] theorem c_vSliceS {k : TK} {k' : TK} {S : St} {S' : St} {x : DV} {x' : DV} {lo : Option DV} {lo' : Option DV} {hi : Option DV} {hi' : Option DV} {mx : Option DV} {mx' : Option DV} {K : DV → St → Prop} (hk : k = k') (hS : S = S') (hx : x = x') (hlo : lo = lo') (hhi : hi = hi') (hmx : mx = mx') : vSliceS k S x lo hi mx K = vSliceS k' S' x' lo' hi' mx' K := by cases hk; cases hS; cases hx; cases hlo; cases hhi; cases hmx; rfl
@[congr] theorem c_vMakeSlice {k : TK} {k' : TK} {z : DV} {z' : DV} {x : DV} {x' : DV} {y : DV} {y' : DV} {S : St} {S' : St} {K : DV → St → Prop} (hk : k = k') (hz : z = z') (hx : x = x') (hy : y = y') (hS : S = S') : vMakeSlice k z x y S K = vMakeSlice k' z' x' y' S' K := by cases hk; cases hz; cases hx; cases hy; cases hS; rfl
@[congr] theorem c_shr1 {S : St} {S' : St} {d : DV} {d' : DV} {K : DV → St → Prop} (hS : S = S') (hd : d = d') : shr1 S d K = shr1 S' d' K := by cases hS; cases hd; rfl
@[congr] theorem c_shr1s {S : St} {S' : St} {d : List DV} {d' : List DV} {K : List DV → St → Prop} (hS : S = S') (hd : d = d') : shr1s S d K = shr1s S' d' K := by cases hS; cases hd; rfl
@[congr] theorem c_shr {S : St} {S' : St} {d : DV} {d' : DV} {K : DV → St → Prop} (hS : S = S') (hd : d = d') : shr S d K = shr S' d' K := by cases hS; cases hd; rfl
@[congr] theorem c_shrs {S : St} {S' : St} {d : List DV} {d' : List DV} {K : List DV → St → Prop} (hS : S = S') (hd : d = d') : shrs S d K = shrs S' d' K := by cases hS; cases hd; rfl
@[congr] theorem c_shrT {S : St} {S' : St} {d : DV} {d' : DV} {K : DV → St → Prop} (hS : S = S') (hd : d = d') : shrT S d K = shrT S' d' K := by cases hS; cases hd; rfl
@[congr] theorem c_callK {S : St} {S' : St} {d : List DV} {d' : List DV} {F : List DV → St → Prop} (hS : S = S') (hd : d = d') : callK S d F = callK S' d' F := by cases hS; cases hd; rfl
@[congr] theorem c_fiK {p : Option (Nat × Nat × Bool)} {p' : Option (Nat × Nat × Bool)} {x : DV} {x' : DV} {K : DV → Prop} (hp : p = p') (hx : x = x') : fiK p x K = fiK p' x' K := by cases hp; cases hx; rfl
@[congr] theorem c_fvK {p : Option (Nat × Nat × Bool)} {p' : Option (Nat × Nat × Bool)} {ds : List DV} {ds' : List DV} {K : DV → Prop} (hp : p = p') (hds : ds = ds') : fvK p ds K = fvK p' ds' K := by cases hp; cases hds; rfl
@[congr] theorem c_gD {t : Nat} {t' : Nat} {d : DV} {d' : DV} {fr : List DV} {fr' : List DV} {want : Bool} {want' : Bool} {A : List DV → Prop} {B : List DV → Prop} (ht : t = t') (hd : d = d') (hfr : fr = fr') (hwant : want = want') : gD t d fr want A B = gD t' d' fr' want' A B := by cases ht; cases hd; cases hfr; cases hwant; rfl
@[congr] theorem c_gK {t : Option Tmp} {t' : Option Tmp} {fr : List DV} {fr' : List DV} {want : Bool} {want' : Bool} {A : List DV → Prop} {B : List DV → Prop} (ht : t = t') (hfr : fr = fr') (hwant : want = want') : gK t fr want A B = gK t' fr' want' A B := by cases ht; cases hfr; cases hwant; rfl
@[congr] theorem c_guardK {ops : Array Oper} {fr : List DV} {fr' : List DV} {gd : Option (Nat × Bool)} {gd' : Option (Nat × Bool)} {A : List DV → Prop} {B : List DV → Prop} (hfr : fr = fr') (hgd : gd = gd') : guardK ops fr gd A B = guardK ops fr' gd' A B := by cases hfr; cases hgd; rfl
@[congr] theorem c_buK {k : TK} {k' : TK} {z : DV} {z' : DV} {parts : List (Nat × DV)} {parts' : List (Nat × DV)} {K : DV → Prop} (hk : k = k') (hz : z = z') (hparts : parts = parts') : buK k z parts K = buK k' z' parts' K := by cases hk; cases hz; cases hparts; rfl
@[congr] theorem c_elK {xs : List DV} {xs' : List DV} {i : Nat} {i' : Nat} {F : DV → Prop} (hxs : xs = xs') (hi : i = i') : elK xs i F = elK xs' i' F := by cases hxs; cases hi; rfl
@[congr] theorem c_exK {xs : List DV} {xs' : List DV} {i : Nat} {i' : Nat} {F : DV → Prop} (hxs : xs = xs') (hi : i = i') : exK xs i F = exK xs' i' F := by cases hxs; cases hi; rfl
@[congr] theorem c_bK {o : Option Ob} {o' : Option Ob} {F : Nat → List DV → Prop} {G : Nat → List DV → Prop} (ho : o = o') : bK o F G = bK o' F G := by cases ho; rfl
@[congr] theorem c_xK {o : Option Ob} {o' : Option Ob} {F : KK → List (Value × DV × Nat) → Nat → Prop} (ho : o = o') : xK o F = xK o' F := by cases ho; rfl
@[congr] theorem c_iK {o : Option Ob} {o' : Option Ob} {F : Nat → Nat → List Nat → Nat → Prop} (ho : o = o') : iK o F = iK o' F := by cases ho; rfl
@[congr] theorem c_goK {o : Option DV} {o' : Option DV} {F : DV → Prop} {G : Prop} (ho : o = o') : goK o F G = goK o' F G := by cases ho; rfl
@[congr] theorem c_vLookup {m : Option (KK × DV)} {m' : Option (KK × DV)} {S : St} {S' : St} {x : DV} {x' : DV} {y : DV} {y' : DV} {ok : Bool} {ok' : Bool} {K : DV → Prop} (hm : m = m') (hS : S = S') (hx : x = x') (hy : y = y') (hok : ok = ok') : vLookup m S x y ok K = vLookup m' S' x' y' ok' K := by cases hm; cases hS; cases hx; cases hy; cases hok; rfl
@[congr] theorem c_vMapUpd {m : Option (KK × DV)} {m' : Option (KK × DV)} {S : St} {S' : St} {x : DV} {x' : DV} {y : DV} {y' : DV} {d : DV} {d' : DV} {K : St → Prop} (hm : m = m') (hS : S = S') (hx : x = x') (hy : y = y') (hd : d = d') : vMapUpd m S x y d K = vMapUpd m' S' x' y' d' K := by cases hm; cases hS; cases hx; cases hy; cases hd; rfl
@[congr] theorem c_vDelete {m : Option (KK × DV)} {m' : Option (KK × DV)} {S : St} {S' : St} {x : DV} {x' : DV} {y : DV} {y' : DV} {K : St → Prop} (hm : m = m') (hS : S = S') (hx : x = x') (hy : y = y') : vDelete m S x y K = vDelete m' S' x' y' K := by cases hm; cases hS; cases hx; cases hy; rfl
@[congr] theorem c_vRange {m : Option (KK × DV)} {m' : Option (KK × DV)} {S : St} {S' : St} {x : DV} {x' : DV} {K : DV → St → Prop} (hm : m = m') (hS : S = S') (hx : x = x') : vRange m S x K = vRange m' S' x' K := by cases hm; cases hS; cases hx; rfl
@[congr] theorem c_vMakeMap {m : Option (KK × DV)} {m' : Option (KK × DV)} {r : Option Operand} {S : St} {S' : St} {K : DV → St → Prop} (hm : m = m') (hS : S = S') : vMakeMap m r S K = vMakeMap m' r S' K := by cases hm; cases hS; rfl
@[congr] theorem c_vNext {S : St} {S' : St} {x : DV} {x' : DV} {s : Bool} {s' : Bool} {K : DV → St → Prop} (hS : S = S') (hx : x = x') (hs : s = s') : vNext S x s K = vNext S' x' s' K := by cases hS; cases hx; cases hs; rfl
@[congr] theorem c_vEntry {S : St} {S' : St} {x : DV} {x' : DV} {K : DV → Prop} (hS : S = S') (hx : x = x') : vEntry S x K = vEntry S' x' K := by cases hS; cases hx; rfl
@[congr] theorem c_oK {α : Type} {o o' : Option α} {F : α → Prop} (h : o = o') : oK o F = oK o' F := by cases h; rfl
@[congr] theorem c_vcOp {P : Program} {w0 : W0} {op : Op} {fr : List DV} {fr' : List DV} {S : St} {S' : St} {K : DV → St → Prop} (hfr : fr = fr') (hS : S = S') : vcOp P w0 op fr S K = vcOp P w0 op fr' S' K := by cases hfr; cases hS; rfl
@[congr] theorem c_vcOpQ {P : Program} {w0 : W0} {op : Op} {fr : List DV} {fr' : List DV} {S : St} {S' : St} {K : DV → Prop} (hfr : fr = fr') (hS : S = S') : vcOpQ P w0 op fr S K = vcOpQ P w0 op fr' S' K := by cases hfr; cases hS; rfl
@[congr] theorem c_vCall {P : Program} {w0 : W0} {cal : DV} {cal' : DV} {ds : List DV} {ds' : List DV} {S : St} {S' : St} {K : DV → St → Prop} (hcal : cal = cal') (hds : ds = ds') (hS : S = S') : vCall P w0 cal ds S K = vCall P w0 cal' ds' S' K := by cases hcal; cases hds; cases hS; rfl
@[congr] theorem c_vCallQ {P : Program} {w0 : W0} {cal : DV} {cal' : DV} {ds : List DV} {ds' : List DV} {S : St} {S' : St} {K : DV → Prop} (hcal : cal = cal') (hds : ds = ds') (hS : S = S') : vCallQ P w0 cal ds S K = vCallQ P w0 cal' ds' S' K := by cases hcal; cases hds; cases hS; rfl
@[congr] theorem c_vcL {P : Program} {w0 : W0} {ops : Array Oper} {K : List DV → St → Prop} {l : List Oper} {fr : List DV} {fr' : List DV} {S : St} {S' : St} (hfr : fr = fr') (hS : S = S') : vcL P w0 ops K l fr S = vcL P w0 ops K l fr' S' := by cases hfr; cases hS; rfl
@[congr] theorem c_vBinA {P : Program} {op : BinOp} {t : TypeId} {cx : Bool} {cx' : Bool} {cy : Bool} {cy' : Bool} {x : DV} {x' : DV} {y : DV} {y' : DV} {K : DV → Prop} (hcx : cx = cx') (hcy : cy = cy') (hx : x = x') (hy : y = y') : vBinA P op t cx cy x y K = vBinA P op t cx' cy' x' y' K := by cases hcx; cases hcy; cases hx; cases hy; rfl
@[congr] theorem c_vBuild {P : Program} {t : TypeId} {parts : List (Nat × DV)} {parts' : List (Nat × DV)} {K : DV → Prop} (hparts : parts = parts') : vBuild P t parts K = vBuild P t parts' K := by cases hparts; rfl
@[congr] theorem c_vAssert {P : Program} {t : TypeId} {ok : Bool} {ok' : Bool} {x : DV} {x' : DV} {K : DV → Prop} (hok : ok = ok') (hx : x = x') : vAssert P t ok x K = vAssert P t ok' x' K := by cases hok; cases hx; rfl
@[congr] theorem c_resK1 {P : Program} {fr : List DV} {fr' : List DV} {S : St} {S' : St} {K : DV → Prop} {r : ResultVar} (hfr : fr = fr') (hS : S = S') : resK1 P fr S K r = resK1 P fr' S' K r := by cases hfr; cases hS; rfl
@[congr] theorem c_resKs {P : Program} {fr : List DV} {fr' : List DV} {S : St} {S' : St} {r : List ResultVar} {K : List DV → Prop} (hfr : fr = fr') (hS : S = S') : resKs P fr S r K = resKs P fr' S' r K := by cases hfr; cases hS; rfl
@[congr] theorem c_resK {P : Program} {fr : List DV} {fr' : List DV} {S : St} {S' : St} {r : List ResultVar} {K : DV → Prop} (hfr : fr = fr') (hS : S = S') : resK P fr S r K = resK P fr' S' r K := by cases hfr; cases hS; rfl
def selK (b : Bool) (A B : Prop) : Prop := match b with
 | true => A
 | false => B
theorem n_sel_t (A B : Prop) : selK true A B = A := rfl
theorem n_sel_f (A B : Prop) : selK false A B = B := rfl
@[congr] theorem c_selK {b b' : Bool} {A B : Prop} (h : b = b') : selK b A B = selK b' A B := by cases h; rfl
theorem n_callK (S : St) (ds : List DV) (F : List DV → St → Prop) : callK S ds F = selK (hasAcc ds) (F ds S ∨ shrs S ds F) (shrs S ds F) := by
 unfold callK selK; cases hasAcc ds <;> rfl
attribute [go_sem ↓] n_sel_t n_sel_f n_callK
def bxK (S : St) (d : DV) (K : DV → St → Prop) : Prop := ∀ b, nin S.box b → K (.v (.pointer (some ⟨b, 0, none⟩))) ⟨(b, cd d) :: S.box, S.acc⟩
@[congr] theorem c_bxK {S S' : St} {d d' : DV} {K : DV → St → Prop} (h1 : S = S') (h2 : d = d') : bxK S d K = bxK S' d' K := by cases h1; cases h2; rfl
theorem e_isQ_move (x : Operand) : isQ (.move x) = true := rfl
theorem e_isQ_assign (x : Operand) : isQ (.assign x) = true := rfl
theorem e_isQ_pick (c a b : Operand) : isQ (.pick c a b) = true := rfl
theorem e_isQ_load (t : TypeId) (x : Operand) : isQ (.load t x) = true := rfl
theorem e_isQ_fieldAddr (t : TypeId) (x : Operand) (f : Nat) : isQ (.fieldAddr t x f) = true := rfl
theorem e_isQ_indexAddr (t : TypeId) (x i : Operand) : isQ (.indexAddr t x i) = true := rfl
theorem e_isQ_extract (x : Operand) (i : Nat) : isQ (.extract x i) = true := rfl
theorem e_isQ_binOp (b : BinOp) (t : TypeId) (x y : Operand) (t' : TypeId) : isQ (.binOp b t x y t') = true := rfl
theorem e_isQ_unOp (b : UnOp) (t : TypeId) (x : Operand) : isQ (.unOp b t x) = true := rfl
theorem e_isQ_convert (s d : TypeId) (x : Operand) : isQ (.convert s d x) = true := rfl
theorem e_isQ_build (t : TypeId) (parts : Array (Nat × Operand)) : isQ (.build t parts) = true := rfl
theorem e_isQ_buildSlice (t : TypeId) (len : Nat) (parts : Array (Nat × Operand)) : isQ (.buildSlice t len parts) = true := rfl
theorem e_isQ_slice (t : TypeId) (x : Operand) (lo hi mx : Option Operand) : isQ (.slice t x lo hi mx) = true := rfl
theorem e_isQ_store (t : TypeId) (x y : Operand) : isQ (.store t x y) = false := rfl
theorem e_isQ_val (x : Operand) (a : Array Operand) (ts : Array TypeId) : isQ (.call ⟨.value x, a, ts⟩) = true := rfl
theorem e_isQ_inv (x : Operand) (m : String) (a : Array Operand) (ts : Array TypeId) : isQ (.call ⟨.invoke x m, a, ts⟩) = true := rfl
theorem e_isQ_b_len (a : Array Operand) (ts : Array TypeId) : isQ (.call ⟨.builtin .len, a, ts⟩) = true := rfl
theorem e_isQ_b_min (a : Array Operand) (ts : Array TypeId) : isQ (.call ⟨.builtin .min, a, ts⟩) = true := rfl
theorem e_isQ_b_append (a : Array Operand) (ts : Array TypeId) : isQ (.call ⟨.builtin .append, a, ts⟩) = false := rfl
theorem e_isQ_b_copy (a : Array Operand) (ts : Array TypeId) : isQ (.call ⟨.builtin .copy, a, ts⟩) = false := rfl
theorem e_ev_tmp (fr : List DV) (t : Nat) : ev fr (.tmp t) = fr.getD t ud := rfl
theorem e_ev_const (fr : List DV) (u : Value) : ev fr (.const u) = cv u := rfl
theorem e_ev_func (fr : List DV) (f : FuncId) : ev fr (.func f) = .v (.func (.func f) #[] #[]) := rfl
theorem e_pt_some (fr : List DV) (t : Nat) (d : DV) : pt fr (some t) d = fr.set t d := rfl
theorem e_pt_none (fr : List DV) (d : DV) : pt fr none d = fr := rfl
theorem e_cv_int (k : IntKind) (n : Int) : cv (.int k n) = .v (.int k n) := rfl
theorem e_cv_bool (b : Bool) : cv (.bool b) = .v (.bool b) := rfl
theorem e_cv_str (s : ByteArray) : cv (.string s) = .v (.string s) := rfl
theorem e_cv_nil  : cv (.slice none 0 0) = .sl 0 true [] := rfl
theorem e_cv_nif  : cv (.nilIface) = .v .nilIface := rfl
theorem e_cv_nfn  : cv (.nilFunc) = .v .nilFunc := rfl
theorem e_isIfc_str  : isIfc (.str ) = false := rfl
theorem e_isIfc_st (fs : List (Nat × Nat × Bool)) (n : Nat) : isIfc (.st fs n) = false := rfl
theorem e_intK_str  : intK (.str ) = false := rfl
theorem e_intK_int (k : IntKind) : intK (.int k) = true := rfl
theorem e_intK_sl (e s b : Nat) (i : Bool) : intK (.sl e s b i) = false := rfl
theorem e_notInt_str  : notInt (.str ) = true := rfl
theorem e_notInt_sl (e s b : Nat) (i : Bool) : notInt (.sl e s b i) = true := rfl
theorem e_nacc_v (u : Value) : nacc (.v u) = true := rfl
theorem e_nacc_sl (s : Nat) (f : Bool) (xs : List DV) : nacc (.sl s f xs) = true := rfl
theorem e_naccA_v (u : Value) : naccA (.v u) = true := rfl
theorem e_naccA_sl (s : Nat) (f : Bool) (xs : List DV) : naccA (.sl s f xs) = true := rfl
theorem e_naccA_agg (ds : List DV) : naccA (.agg ds) = ds.all nacc := rfl
theorem e_isC_tmp (t : Nat) : isC (.tmp t) = false := rfl
theorem e_isC_const (u : Value) : isC (.const u) = true := rfl
theorem e_vals_nil : vals [] = some [] := rfl
theorem e_vals_v (u : Value) (ds : List DV) : vals (.v u :: ds) = (vals ds).map (u :: ·) := rfl
theorem e_fillD_nil (fs : List (Nat × Nat × Bool)) (ds : List DV) : fillD fs ds [] = some ds := rfl
def fd1 (p : Option (Nat × Nat × Bool)) (fs : List (Nat × Nat × Bool)) (d : DV) (ds : List DV) (rest : List (Nat × DV)) : Option (List DV) := match p with
 | none => none
 | some (off, sz, _) => if okE d && (cd d).length == sz && decide (off + sz ≤ ds.length) then fillD fs (setAll ds off (cd d)) rest else none
theorem e_fillD_cons (fs : List (Nat × Nat × Bool)) (ds : List DV) (i : Nat) (d : DV) (rest : List (Nat × DV)) : fillD fs ds ((i, d) :: rest) = fd1 (fs[i]?) fs d ds rest := by rw [fillD]; unfold fd1; cases fs[i]? <;> rfl
theorem e_fd1 (off sz : Nat) (ag : Bool) (fs : List (Nat × Nat × Bool)) (d : DV) (ds : List DV) (rest : List (Nat × DV)) : fd1 (some (off, sz, ag)) fs d ds rest = if okE d && (cd d).length == sz && decide (off + sz ≤ ds.length) then fillD fs (setAll ds off (cd d)) rest else none := rfl
theorem e_fillE_nil (s : Nat) (ds : List DV) : fillE s ds [] = some ds := rfl
theorem e_fillE_cons (s : Nat) (ds : List DV) (i : Nat) (d : DV) (rest : List (Nat × DV)) : fillE s ds ((i, d) :: rest) = if okE d && (cd d).length == s && decide (i < ds.length) then fillE s (ds.set i d) rest else none := rfl
theorem e_setAll_nil (ds : List DV) (o : Nat) : setAll ds o [] = ds := rfl
theorem e_setAll_cons (ds : List DV) (o : Nat) (c : DV) (cs : List DV) : setAll ds o (c :: cs) = setAll (ds.set o c) (o + 1) cs := rfl
theorem e_elSet_all (d : DV) (n : Nat) (y : DV) : elSet d 0 n n y = some y := by simp [elSet]
theorem e_elSet_agg (ds : List DV) (o n s : Nat) (y : DV) : elSet (.agg ds) o n s y = if o = 0 ∧ n = s then some y else some (.agg (setAll ds o (cd y))) := rfl
theorem e_ren_same (k : Nat) (x : Ob) (t : List (Nat × Ob)) (p : Nat × Ob) : ren ((k, x) :: t) k p = p :: t := by simp [ren]
theorem e_same_add (k : IntKind) : sameKind .add k k = true := by simp [sameKind]
theorem e_same_sub (k : IntKind) : sameKind .sub k k = true := by simp [sameKind]
theorem e_same_mul (k : IntKind) : sameKind .mul k k = true := by simp [sameKind]
theorem e_same_quo (k : IntKind) : sameKind .quo k k = true := by simp [sameKind]
theorem e_same_rem (k : IntKind) : sameKind .rem k k = true := by simp [sameKind]
theorem e_same_and (k : IntKind) : sameKind .and k k = true := by simp [sameKind]
theorem e_same_xor (k : IntKind) : sameKind .xor k k = true := by simp [sameKind]
theorem e_same_eql (k : IntKind) : sameKind .eql k k = true := by simp [sameKind]
theorem e_same_neq (k : IntKind) : sameKind .neq k k = true := by simp [sameKind]
theorem e_same_lss (k : IntKind) : sameKind .lss k k = true := by simp [sameKind]
theorem e_same_leq (k : IntKind) : sameKind .leq k k = true := by simp [sameKind]
theorem e_same_gtr (k : IntKind) : sameKind .gtr k k = true := by simp [sameKind]
theorem e_same_geq (k : IntKind) : sameKind .geq k k = true := by simp [sameKind]
theorem e_same_shr (k k' : IntKind) : sameKind .shr k k' = true := rfl
theorem e_replicate_0 {α : Type} (a : α) : List.replicate 0 a = [] := rfl
theorem e_replicate_s {α : Type} (n : Nat) (a : α) : List.replicate (n + 1) a = a :: List.replicate n a := rfl
theorem e_set_0 {α : Type} (a b : α) (l : List α) : (a :: l).set 0 b = b :: l := rfl
theorem e_set_s {α : Type} (a b : α) (l : List α) (n : Nat) : (a :: l).set (n + 1) b = a :: l.set n b := rfl
theorem e_wk (live : List Nat) (fr : List DV) : wk live fr = foldF (wkA fr 0 live) := rfl
theorem e_wkA_nil (i : Nat) (js : List Nat) : wkA [] i js = [] := rfl
theorem e_wkA_n (d : DV) (ds : List DV) (i : Nat) : wkA (d :: ds) i [] = .any :: wkA ds (i + 1) [] := rfl
theorem e_wkA_c (d : DV) (ds : List DV) (i j : Nat) (js : List Nat) : wkA (d :: ds) i (j :: js) = if i = j then d :: wkA ds (i + 1) js else .any :: wkA ds (i + 1) (j :: js) := rfl
theorem e_upds_nil (fr : List DV) : upds fr [] = fr := rfl
theorem e_upds_cons (fr : List DV) (i : Nat) (d : DV) (us : List (Nat × DV)) : upds fr ((i, d) :: us) = upds (fr.set i d) us := rfl
theorem e_app_nil {α : Type} (l : List α) : List.append [] l = l := rfl
theorem e_app_cons {α : Type} (a : α) (l m : List α) : List.append (a :: l) m = a :: List.append l m := rfl
theorem e_evG_tmp (w0 : W0) (fr : List DV) (n : Nat) (F : DV → Prop) : evG w0 fr (.tmp n) F = F (ev fr (.tmp n)) := rfl
theorem e_evG_glob (w0 : W0) (fr : List DV) (b : Nat) (F : DV → Prop) : evG w0 fr (.global b) F = globK w0 b F := rfl
theorem v_move {P : Program} {w0 : W0} {fr : List DV} {S : St} {K : DV → St → Prop} (x : Operand) : vcOp P w0 (.move x) fr S K = (K (ev fr x) S) := rfl
theorem v_assign {P : Program} {w0 : W0} {fr : List DV} {S : St} {K : DV → St → Prop} (x : Operand) : vcOp P w0 (.assign x) fr S K = (K (ev fr x) S) := rfl
theorem v_pick {P : Program} {w0 : W0} {fr : List DV} {S : St} {K : DV → St → Prop} (c a b : Operand) : vcOp P w0 (.pick c a b) fr S K = (vPick (ev fr c) (ev fr a) (ev fr b) (K · S)) := rfl
theorem v_load {P : Program} {w0 : W0} {fr : List DV} {S : St} {K : DV → St → Prop} (t : TypeId) (x : Operand) : vcOp P w0 (.load t x) fr S K = (vLoad (tk P t) S (ev fr x) (K · S)) := rfl
theorem v_fieldAddr {P : Program} {w0 : W0} {fr : List DV} {S : St} {K : DV → St → Prop} (t : TypeId) (x : Operand) (f : Nat) : vcOp P w0 (.fieldAddr t x f) fr S K = (vField (tk P t) f (ev fr x) (K · S)) := rfl
theorem v_indexAddr {P : Program} {w0 : W0} {fr : List DV} {S : St} {K : DV → St → Prop} (t : TypeId) (x i : Operand) : vcOp P w0 (.indexAddr t x i) fr S K = (evG w0 fr x fun d => vIndexAddr (tk P t) d (ev fr i) (K · S)) := rfl
theorem v_index {P : Program} {w0 : W0} {fr : List DV} {S : St} {K : DV → St → Prop} (t : TypeId) (x i : Operand) : vcOp P w0 (.index t x i) fr S K = (vIndex (tk P t) (ev fr x) (ev fr i) (K · S)) := rfl
theorem v_extract {P : Program} {w0 : W0} {fr : List DV} {S : St} {K : DV → St → Prop} (x : Operand) (i : Nat) : vcOp P w0 (.extract x i) fr S K = (vExtract i (ev fr x) (K · S)) := rfl
theorem v_nilCheck {P : Program} {w0 : W0} {fr : List DV} {S : St} {K : DV → St → Prop} (x : Operand) : vcOp P w0 (.nilCheck x) fr S K = (notNil (ev fr x) = true ∧ K (ev fr x) S) := rfl
theorem v_binOp {P : Program} {w0 : W0} {fr : List DV} {S : St} {K : DV → St → Prop} (b : BinOp) (t : TypeId) (x y : Operand) (t' : TypeId) : vcOp P w0 (.binOp b t x y t') fr S K = (selK (isNilC y) (vNilEq b (tk P t) (ev fr x) (K · S)) (vBinA P b t (isC x) (isC y) (ev fr x) (ev fr y) (K · S))) := by simp only [vcOp]; unfold selK; cases isNilC y <;> rfl
theorem v_unOp {P : Program} {w0 : W0} {fr : List DV} {S : St} {K : DV → St → Prop} (b : UnOp) (t : TypeId) (x : Operand) : vcOp P w0 (.unOp b t x) fr S K = (vUn b (ev fr x) (K · S)) := rfl
theorem v_convert {P : Program} {w0 : W0} {fr : List DV} {S : St} {K : DV → St → Prop} (s d : TypeId) (x : Operand) : vcOp P w0 (.convert s d x) fr S K = (vConvS (tk P s) (tk P d) (tk P (elT P s)) (tk P (elT P d)) S (ev fr x) (K · S)) := rfl
theorem v_mkIfc {P : Program} {w0 : W0} {fr : List DV} {S : St} {K : DV → St → Prop} (t : TypeId) (x : Operand) : vcOp P w0 (.makeInterface t x) fr S K = (isIfc (tk P t) = false ∧ shr S (ev fr x) fun d S => K (.ifc t d) S) := rfl
theorem v_build {P : Program} {w0 : W0} {fr : List DV} {S : St} {K : DV → St → Prop} (t : TypeId) (parts : List (Nat × Operand)) : vcOp P w0 (.build t parts.toArray) fr S K = (shrs S (parts.map fun p => ev fr p.2) fun ds S => vBuild P t ((parts.map (·.1)).zip ds) (K · S)) := rfl
theorem v_buildSlice {P : Program} {w0 : W0} {fr : List DV} {S : St} {K : DV → St → Prop} (t : TypeId) (len : Nat) (parts : List (Nat × Operand)) : vcOp P w0 (.buildSlice t len parts.toArray) fr S K = (shrs S (parts.map fun p => ev fr p.2) fun ds S => vBuildSlice (tk P t) (zD P (elT P t)) len ((parts.map (·.1)).zip ds) (K · S)) := rfl
theorem v_makeFunc {P : Program} {w0 : W0} {fr : List DV} {S : St} {K : DV → St → Prop} (fn : Fn) (a b : List Operand) : vcOp P w0 (.makeFunc fn a.toArray b.toArray) fr S K = (vFunc fn (a.map (ev fr)) (b.map (ev fr)) (K · S)) := rfl
theorem v_slice {P : Program} {w0 : W0} {fr : List DV} {S : St} {K : DV → St → Prop} (t : TypeId) (x : Operand) (lo hi mx : Option Operand) : vcOp P w0 (.slice t x lo hi mx) fr S K = ((mx.isSome = true → hi.isSome = true) ∧ vSliceX (tk P t) S (ev fr x) (lo.map (ev fr)) (hi.map (ev fr)) (mx.map (ev fr)) K) := rfl
theorem v_box {P : Program} {w0 : W0} {fr : List DV} {S : St} {K : DV → St → Prop} (t : TypeId) (x : Operand) : vcOp P w0 (.box t x) fr S K = (okE (ev fr x) = true ∧ bxK S (ev fr x) K) := rfl
theorem v_alloc {P : Program} {w0 : W0} {fr : List DV} {S : St} {K : DV → St → Prop} (t : TypeId) : vcOp P w0 (.alloc t) fr S K = (okE (zD P t) = true ∧ bxK S (zD P t) K) := rfl
theorem v_store {P : Program} {w0 : W0} {fr : List DV} {S : St} {K : DV → St → Prop} (t : TypeId) (x y : Operand) : vcOp P w0 (.store t x y) fr S K = ((P.info? t).isSome = true ∧ vStoreX (P.cellsOf t) S (ev fr x) (ev fr y) (K ud)) := rfl
theorem v_makeSlice {P : Program} {w0 : W0} {fr : List DV} {S : St} {K : DV → St → Prop} (t : TypeId) (x y : Operand) : vcOp P w0 (.makeSlice t x y) fr S K = (vMakeSlice (tk P t) (zD P (elT P t)) (ev fr x) (ev fr y) S K) := rfl
theorem v_len {P : Program} {w0 : W0} {fr : List DV} {S : St} {K : DV → St → Prop} (x : Operand) (t : TypeId) : vcOp P w0 (.call ⟨.builtin .len, #[x], #[t]⟩) fr S K = (vLen (tk P t) (ev fr x) (K · S)) := rfl
theorem v_cap {P : Program} {w0 : W0} {fr : List DV} {S : St} {K : DV → St → Prop} (x : Operand) (t : TypeId) : vcOp P w0 (.call ⟨.builtin .cap, #[x], #[t]⟩) fr S K = (vCap (tk P t) (ev fr x) (K · S)) := rfl
theorem v_append {P : Program} {w0 : W0} {fr : List DV} {S : St} {K : DV → St → Prop} (x y : Operand) (t t' : TypeId) : vcOp P w0 (.call ⟨.builtin .append, #[x, y], #[t, t']⟩) fr S K = (selK (isRow (ev fr x)) (selK (intK (tk P t')) (vAppZ (tk P t) (zD P (elT P t)) S (ev fr x) (ev fr y) K) (vAppC (tk P t) (tk P t') S (ev fr x) (ev fr y) K)) (selK (intK (tk P t')) (vAppInt (tk P t) (zD P (elT P t)) S (ev fr x) (ev fr y) K) (vAppend (tk P t) (tk P t') S (ev fr x) (ev fr y) K))) := by simp only [vcOp]; unfold selK; cases isRow (ev fr x) <;> cases intK (tk P t') <;> rfl
theorem v_copy {P : Program} {w0 : W0} {fr : List DV} {S : St} {K : DV → St → Prop} (x y : Operand) (t t' : TypeId) : vcOp P w0 (.call ⟨.builtin .copy, #[x, y], #[t, t']⟩) fr S K = (vCopy (tk P t) S (ev fr x) (ev fr y) K) := rfl
theorem v_min {P : Program} {w0 : W0} {fr : List DV} {S : St} {K : DV → St → Prop} (x y : Operand) (ts : Array TypeId) : vcOp P w0 (.call ⟨.builtin .min, #[x, y], ts⟩) fr S K = (vMin (ev fr x) (ev fr y) (K · S)) := rfl
theorem v_max {P : Program} {w0 : W0} {fr : List DV} {S : St} {K : DV → St → Prop} (x y : Operand) (ts : Array TypeId) : vcOp P w0 (.call ⟨.builtin .max, #[x, y], ts⟩) fr S K = (vMax (ev fr x) (ev fr y) (K · S)) := rfl
theorem v_call {P : Program} {w0 : W0} {fr : List DV} {S : St} {K : DV → St → Prop} (cal : Operand) (a : List Operand) (ts : Array TypeId) : vcOp P w0 (.call ⟨.value cal, a.toArray, ts⟩) fr S K = (vCall P w0 (ev fr cal) (a.map (ev fr)) S K) := rfl
theorem v_invoke {P : Program} {w0 : W0} {fr : List DV} {S : St} {K : DV → St → Prop} (r : Operand) (name : String) (a : List Operand) (ts : Array TypeId) : vcOp P w0 (.call ⟨.invoke r name, a.toArray, ts⟩) fr S K = (vInv P (ev fr r) name fun f d => callK S (d :: a.map (ev fr)) fun ds S => @AC P w0 f ds S ⟨K⟩) := rfl
theorem v_lookup {P : Program} {w0 : W0} {fr : List DV} {S : St} {K : DV → St → Prop} (t : TypeId) (x y : Operand) (ok : Bool) : vcOp P w0 (.lookup t x y ok) fr S K = (vLookup (mpT P t) S (ev fr x) (ev fr y) ok (K · S)) := rfl
theorem v_mapUpdate {P : Program} {w0 : W0} {fr : List DV} {S : St} {K : DV → St → Prop} (t : TypeId) (x y z : Operand) : vcOp P w0 (.mapUpdate t x y z) fr S K = (vMapUpd (mpT P t) S (ev fr x) (ev fr y) (ev fr z) (K ud)) := rfl
theorem v_makeMap {P : Program} {w0 : W0} {fr : List DV} {S : St} {K : DV → St → Prop} (t : TypeId) (r : Option Operand) : vcOp P w0 (.makeMap t r) fr S K = (vMakeMap (mpT P t) r S K) := rfl
theorem w_move {P : Program} {w0 : W0} {fr : List DV} {S : St} {K : DV → Prop} (x : Operand) : vcOpQ P w0 (.move x) fr S K = (K (ev fr x)) := rfl
theorem w_assign {P : Program} {w0 : W0} {fr : List DV} {S : St} {K : DV → Prop} (x : Operand) : vcOpQ P w0 (.assign x) fr S K = (K (ev fr x)) := rfl
theorem w_pick {P : Program} {w0 : W0} {fr : List DV} {S : St} {K : DV → Prop} (c a b : Operand) : vcOpQ P w0 (.pick c a b) fr S K = (vPick (ev fr c) (ev fr a) (ev fr b) K) := rfl
theorem w_load {P : Program} {w0 : W0} {fr : List DV} {S : St} {K : DV → Prop} (t : TypeId) (x : Operand) : vcOpQ P w0 (.load t x) fr S K = (vLoad (tk P t) S (ev fr x) K) := rfl
theorem w_fieldAddr {P : Program} {w0 : W0} {fr : List DV} {S : St} {K : DV → Prop} (t : TypeId) (x : Operand) (f : Nat) : vcOpQ P w0 (.fieldAddr t x f) fr S K = (vField (tk P t) f (ev fr x) K) := rfl
theorem w_indexAddr {P : Program} {w0 : W0} {fr : List DV} {S : St} {K : DV → Prop} (t : TypeId) (x i : Operand) : vcOpQ P w0 (.indexAddr t x i) fr S K = (evG w0 fr x fun d => vIndexAddr (tk P t) d (ev fr i) K) := rfl
theorem w_extract {P : Program} {w0 : W0} {fr : List DV} {S : St} {K : DV → Prop} (x : Operand) (i : Nat) : vcOpQ P w0 (.extract x i) fr S K = (vExtract i (ev fr x) K) := rfl
theorem w_nilCheck {P : Program} {w0 : W0} {fr : List DV} {S : St} {K : DV → Prop} (x : Operand) : vcOpQ P w0 (.nilCheck x) fr S K = (notNil (ev fr x) = true ∧ K (ev fr x)) := rfl
theorem w_binOp {P : Program} {w0 : W0} {fr : List DV} {S : St} {K : DV → Prop} (b : BinOp) (t : TypeId) (x y : Operand) (t' : TypeId) : vcOpQ P w0 (.binOp b t x y t') fr S K = (isNilC y = false ∧ vBinA P b t (isC x) (isC y) (ev fr x) (ev fr y) K) := rfl
theorem w_unOp {P : Program} {w0 : W0} {fr : List DV} {S : St} {K : DV → Prop} (b : UnOp) (t : TypeId) (x : Operand) : vcOpQ P w0 (.unOp b t x) fr S K = (vUn b (ev fr x) K) := rfl
theorem w_convert {P : Program} {w0 : W0} {fr : List DV} {S : St} {K : DV → Prop} (s d : TypeId) (x : Operand) : vcOpQ P w0 (.convert s d x) fr S K = (vConv (tk P s) (tk P d) (ev fr x) K) := rfl
theorem w_makeFunc {P : Program} {w0 : W0} {fr : List DV} {S : St} {K : DV → Prop} (fn : Fn) (a b : List Operand) : vcOpQ P w0 (.makeFunc fn a.toArray b.toArray) fr S K = (vFunc fn (a.map (ev fr)) (b.map (ev fr)) K) := rfl
theorem w_slice {P : Program} {w0 : W0} {fr : List DV} {S : St} {K : DV → Prop} (t : TypeId) (x : Operand) (lo hi mx : Option Operand) : vcOpQ P w0 (.slice t x lo hi mx) fr S K = ((mx.isSome = true → hi.isSome = true) ∧ nacc (ev fr x) = true ∧ vSlice (tk P t) (ev fr x) (lo.map (ev fr)) (hi.map (ev fr)) (mx.map (ev fr)) K) := rfl
theorem w_build {P : Program} {w0 : W0} {fr : List DV} {S : St} {K : DV → Prop} (t : TypeId) (parts : List (Nat × Operand)) : vcOpQ P w0 (.build t parts.toArray) fr S K = ((parts.map fun p => ev fr p.2).all naccA = true ∧ vBuild P t ((parts.map (·.1)).zip (parts.map fun p => ev fr p.2)) K) := rfl
theorem w_buildSlice {P : Program} {w0 : W0} {fr : List DV} {S : St} {K : DV → Prop} (t : TypeId) (len : Nat) (parts : List (Nat × Operand)) : vcOpQ P w0 (.buildSlice t len parts.toArray) fr S K = ((parts.map fun p => ev fr p.2).all naccA = true ∧ vBuildSlice (tk P t) (zD P (elT P t)) len ((parts.map (·.1)).zip (parts.map fun p => ev fr p.2)) K) := rfl
theorem w_len {P : Program} {w0 : W0} {fr : List DV} {S : St} {K : DV → Prop} (x : Operand) (t : TypeId) : vcOpQ P w0 (.call ⟨.builtin .len, #[x], #[t]⟩) fr S K = (vLen (tk P t) (ev fr x) K) := rfl
theorem w_min {P : Program} {w0 : W0} {fr : List DV} {S : St} {K : DV → Prop} (x y : Operand) (ts : Array TypeId) : vcOpQ P w0 (.call ⟨.builtin .min, #[x, y], ts⟩) fr S K = (vMin (ev fr x) (ev fr y) K) := rfl
theorem w_invoke {P : Program} {w0 : W0} {fr : List DV} {S : St} {K : DV → Prop} (r : Operand) (name : String) (a : List Operand) (ts : Array TypeId) : vcOpQ P w0 (.call ⟨.invoke r name, a.toArray, ts⟩) fr S K = (vInv P (ev fr r) name fun f d => vCallQ P w0 (.v (.func (.func f) #[] #[])) (d :: a.map (ev fr)) S K) := rfl
theorem w_call {P : Program} {w0 : W0} {fr : List DV} {S : St} {K : DV → Prop} (cal : Operand) (a : List Operand) (ts : Array TypeId) : vcOpQ P w0 (.call ⟨.value cal, a.toArray, ts⟩) fr S K = (vCallQ P w0 (ev fr cal) (a.map (ev fr)) S K) := rfl
attribute [go_sem ↓] v_move v_assign v_pick v_load v_fieldAddr v_indexAddr v_index v_extract v_nilCheck v_binOp v_unOp v_convert v_mkIfc v_build v_buildSlice v_makeFunc v_slice v_box v_alloc v_store v_makeSlice v_len v_cap v_append v_copy v_min v_max v_call v_invoke v_lookup v_mapUpdate v_makeMap w_move
attribute [go_sem ↓] w_assign w_pick w_load w_fieldAddr w_indexAddr w_extract w_nilCheck w_binOp w_unOp w_convert w_makeFunc w_slice w_build w_buildSlice w_len w_min w_invoke w_call
attribute [go_sem] e_isQ_move e_isQ_assign e_isQ_pick e_isQ_load e_isQ_fieldAddr e_isQ_indexAddr e_isQ_extract e_isQ_binOp e_isQ_unOp e_isQ_convert e_isQ_build e_isQ_buildSlice e_isQ_slice e_isQ_store e_isQ_val e_isQ_inv e_isQ_b_len e_isQ_b_min e_isQ_b_append e_isQ_b_copy e_ev_tmp
attribute [go_sem] e_ev_const e_ev_func e_pt_some e_pt_none e_cv_int e_cv_bool e_cv_str e_cv_nil e_cv_nif e_cv_nfn e_isIfc_str e_isIfc_st e_intK_str e_intK_int e_intK_sl
attribute [go_sem] e_notInt_str e_notInt_sl e_nacc_v e_nacc_sl e_naccA_v e_naccA_sl e_naccA_agg e_isC_tmp e_isC_const e_vals_nil e_vals_v e_fillD_nil e_fillD_cons e_fd1 e_fillE_nil
attribute [go_sem] e_fillE_cons e_setAll_nil e_setAll_cons e_elSet_all e_elSet_agg e_ren_same e_same_add e_same_sub e_same_mul e_same_quo e_same_rem e_same_and e_same_xor e_same_eql e_same_neq e_same_lss e_same_leq e_same_gtr e_same_geq e_same_shr e_replicate_0 e_replicate_s e_set_0 e_set_s e_wk e_wkA_nil e_wkA_n e_wkA_c e_upds_nil e_upds_cons e_app_nil e_app_cons e_evG_tmp
attribute [go_sem] e_evG_glob
section
variable {P : Program} {w0 : W0} {K : DV → Prop} {A B : Prop} {F G : List DV → Prop}
/- Tests: what is known is gone by; what can't be known parts the way. -/
theorem n_cond_t : condD (.v (.bool true)) A B = A := by simp [condD]
theorem n_cond_f : condD (.v (.bool false)) A B = B := by simp [condD]
theorem n_cond_d (p : Prop) [Decidable p] : condD (.v (.bool (decide p))) A B = ((p → A) ∧ (¬ p → B)) := by simp [condD]
theorem n_cond_n (b : Bool) : condD (.v (.bool (!b))) A B = condD (.v (.bool b)) B A := by
 simp only [condD, Bool.not_eq_eq_eq_not, Bool.not_true, Bool.not_false]
 exact propext ⟨fun h => ⟨h.2, h.1⟩, fun h => ⟨h.2, h.1⟩⟩
theorem n_cond_b (b : Bool) : condD (.v (.bool b)) A B = ((b = true → A) ∧ (b = false → B)) := rfl
theorem n_pick_t (a b : DV) : vPick (.v (.bool true)) a b K = K a := by simp [vPick]
theorem n_pick_f (a b : DV) : vPick (.v (.bool false)) a b K = K b := by simp [vPick]
/- A choice between what is known is the test itself. -/
theorem n_gD_tt (t : Nat) (fr : List DV) : gD t (.v (.bool true)) fr true F G = F (fr.set t (.v (.bool true))) := by simp [gD]
theorem n_gD_tf (t : Nat) (fr : List DV) : gD t (.v (.bool true)) fr false F G = G (fr.set t (.v (.bool true))) := by simp [gD]
theorem n_gD_ft (t : Nat) (fr : List DV) : gD t (.v (.bool false)) fr true F G = G (fr.set t (.v (.bool false))) := by simp [gD]
theorem n_gD_ff (t : Nat) (fr : List DV) : gD t (.v (.bool false)) fr false F G = F (fr.set t (.v (.bool false))) := by simp [gD]
theorem n_gD_dt (p : Prop) [Decidable p] (t : Nat) (fr : List DV) : gD t (.v (.bool (decide p))) fr true F G = ((p → F (fr.set t (.v (.bool true)))) ∧ (¬ p → G (fr.set t (.v (.bool false))))) := by simp [gD]
theorem n_gD_df (p : Prop) [Decidable p] (t : Nat) (fr : List DV) : gD t (.v (.bool (decide p))) fr false F G = ((p → G (fr.set t (.v (.bool true)))) ∧ (¬ p → F (fr.set t (.v (.bool false))))) := by
 simp only [gD, decide_eq_false_iff_not, Bool.not_false, decide_eq_true_eq]
 exact propext ⟨fun h => ⟨h.2, h.1⟩, fun h => ⟨h.2, h.1⟩⟩
theorem n_gD_bt (b : Bool) (t : Nat) (fr : List DV) : gD t (.v (.bool b)) fr true F G = ((b = true → F (fr.set t (.v (.bool true)))) ∧ (b = false → G (fr.set t (.v (.bool false))))) := by simp [gD]
theorem n_gD_bf (b : Bool) (t : Nat) (fr : List DV) : gD t (.v (.bool b)) fr false F G = ((b = true → G (fr.set t (.v (.bool true)))) ∧ (b = false → F (fr.set t (.v (.bool false))))) := by
 simp only [gD, Bool.not_false]
 exact propext ⟨fun h => ⟨h.2, h.1⟩, fun h => ⟨h.2, h.1⟩⟩
end
attribute [go_sem ↓] n_cond_t n_cond_f n_cond_d n_cond_n n_pick_t n_pick_f n_gD_tt n_gD_tf n_gD_ft n_gD_ff n_gD_dt n_gD_df
attribute [go_sem ↓ low] n_cond_b n_gD_bt n_gD_bf
attribute [go_sem] List.length_cons List.length_nil List.length_map List.cons_append List.nil_append List.map_cons List.map_nil List.zip_cons_cons List.zip_nil_right
section
variable {P : Program} {w0 : W0} {ops : Array Oper} {K : List DV → St → Prop} {fr : List DV} {S : St} {rest : List Oper} {dst : Option Tmp} {op : Op} {ty : TypeId} {pos : String} {aft : Array Edge}
theorem n_vcL_nil : vcL P w0 ops K [] fr S = K fr S := rfl
theorem n_vcL_none : vcL P w0 ops K (⟨dst, op, ty, pos, aft, none⟩ :: rest) fr S = vcOp P w0 op fr S fun d S' => vcL P w0 ops K rest (pt fr dst d) S' := rfl
theorem n_vcL_some (j : Nat) (want : Bool) : vcL P w0 ops K (⟨dst, op, ty, pos, aft, some (j, want)⟩ :: rest) fr S = gK ((ops[j]?).bind (·.dst)) fr want (fun fr => vcOp P w0 op fr S fun d S' => vcL P w0 ops K rest (pt fr dst d) S') (fun fr => vcL P w0 ops K rest (pt fr dst ud) S) := q_guard _ _ _ _ _ _
end
def QC (P : Program) (w0 : W0) (f : FuncId) (ds : List DV) (S : St) [K : Cn (DV → Prop)] : Prop := ∃ d, ACall P w0 f ds S (fun d' S' => d' = d ∧ S' = S) ∧ K.k d
theorem n_callQ {P : Program} {w0 : W0} (f : FuncId) (a cap : Array Value) (ds : List DV) (S : St) (K : DV → Prop) : vCallQ P w0 (.v (.func (.func f) a cap)) ds S K = (a.size = 0 ∧ okF P f = true ∧ cap.toList.all (fun u => u.oneCell') = true ∧ ds.all naccA = true ∧ @QC P w0 f (ds ++ cap.toList.map .v) S ⟨K⟩) := rfl
attribute [go_sem ↓] n_vcL_nil n_vcL_none n_vcL_some n_callQ thenQ blockQ vBinI vSliceS resKs vCut0
attribute [go_sem] List.getD_cons_succ List.getD_cons_zero List.getElem?_cons_succ List.getElem?_cons_zero List.getElem?_toArray Option.bind_some List.all_cons List.all_nil Bool.and_self Bool.and_true
attribute [go_sem] Nat.zero_add true_and and_true List.drop_zero List.drop_succ_cons List.take_succ_cons List.take_zero Option.map_some Option.map_none Option.isSome_some Option.isSome_none Option.isNone_none Option.isNone_some
attribute [go_sem] Bool.false_eq_true if_true if_false or_true true_or false_or or_false forall_const false_implies imp_self Bool.not_true Bool.not_false beq_self_eq_true decide_eq_true_eq decide_eq_false_iff_not decide_true decide_false
attribute [go_sem] Int.toNat_natCast Int.natCast_nonneg Int.ofNat_lt Int.ofNat_le Int.natCast_inj List.getElem?_map Option.map_eq_some_iff forall_exists_index and_imp forall_apply_eq_imp_iff₂ forall_eq_apply_imp_iff ne_eq not_false_eq_true not_true_eq_false
attribute [go_sem] List.size_toArray List.append_nil Int.le_refl Nat.le_refl List.drop_nil List.take_nil Int.toNat_zero Int.natCast_zero Int.natCast_one Int.cast_ofNat_Int Bool.or_true Bool.or_false Bool.true_or Bool.false_or Bool.false_and Bool.and_false Bool.true_and List.isEmpty_nil List.isEmpty_cons
attribute [go_sem] dI dU dY dB dS Nat.lt_add_one forall_eq forall_eq' true_implies implies_true Option.some.injEq
structure FN {α : Type} (l : List (Nat × α)) where
 m : Nat
 h : nin l m
def FN.n {α : Type} {l : List (Nat × α)} (b : FN l) : Nat := b.m
theorem n_fresh {α : Type} (l : List (Nat × α)) (F : Nat → Prop) : (∀ b, nin l b → F b) = ∀ b : FN l, F b.n := propext ⟨fun h b => h b.n b.h, fun h b hb => h ⟨b, hb⟩⟩
theorem nin_lk {α : Type} : ∀ {l : List (Nat × α)} {b : Nat}, nin l b → lk l b = none
 | [], _, _ => rfl
 | (k, x) :: t, b, h => by
  simp only [nin] at h
  unfold lk
  rw [if_neg (by first | exact fun e => h.1 e | exact fun e => h.1 e.symm)]
  exact nin_lk (by first | exact h.2 | exact h.2.2)
theorem fn_lk {α : Type} {l : List (Nat × α)} (b : FN l) : lk l b.n = none := nin_lk b.h
theorem n_fn_ne {α : Type} {l : List (Nat × α)} (b : FN l) (c : Nat) (h : (lk l c).isSome = true) : (b.n = c) = False := by
 refine eq_false fun e => ?_
 subst e; rw [show lk l b.n = none from nin_lk b.h] at h; cases h
theorem n_fn_ne' {α : Type} {l : List (Nat × α)} (b : FN l) (c : Nat) (h : (lk l c).isSome = true) : (c = b.n) = False := by
 refine eq_false fun e => ?_
 subst e; rw [show lk l b.n = none from nin_lk b.h] at h; cases h
section
variable {S : St} {K : DV → St → Prop}
theorem n_bx (d : DV) : bxK S d K = ∀ b : FN S.box, K (.v (.pointer (some ⟨b.n, 0, none⟩))) ⟨(b.n, cd d) :: S.box, S.acc⟩ := n_fresh S.box fun b => K (.v (.pointer (some ⟨b, 0, none⟩))) ⟨(b, cd d) :: S.box, S.acc⟩
theorem n_bx_agg (ds : List DV) : bxK S (.agg ds) K = ∀ b : FN S.box, K (.v (.pointer (some ⟨b.n, 0, none⟩))) ⟨(b.n, ds) :: S.box, S.acc⟩ := n_bx _
theorem n_bx_v (u : Value) : bxK S (.v u) K = ∀ b : FN S.box, K (.v (.pointer (some ⟨b.n, 0, none⟩))) ⟨(b.n, [.v u]) :: S.box, S.acc⟩ := n_bx _
theorem n_bx_sl (s : Nat) (f : Bool) (xs : List DV) : bxK S (.sl s f xs) K = ∀ b : FN S.box, K (.v (.pointer (some ⟨b.n, 0, none⟩))) ⟨(b.n, [.sl s f xs]) :: S.box, S.acc⟩ := n_bx _
end
theorem n_makeMap (kk : KK) (z : DV) (S : St) (K : DV → St → Prop) : vMakeMap (some (kk, z)) none S K = ∀ l : FN S.acc, K (.mp l.n) ⟨S.box, (l.n, .xo (.mp kk [] 0)) :: S.acc⟩ := by
 unfold vMakeMap
 simp only [oK, true_and]
 exact n_fresh S.acc fun l => K (.mp l) ⟨S.box, (l, .xo (.mp kk [] 0)) :: S.acc⟩
attribute [go_sem ↓] n_makeMap
attribute [go_sem ↓] n_fresh n_bx_agg n_bx_v n_bx_sl
attribute [go_sem] n_fn_ne n_fn_ne' Option.isSome_some
theorem n_td (P : Prop) [Decidable P] : (true = decide P) = P := (propext eq_comm).trans decide_eq_true_eq
theorem n_fd (P : Prop) [Decidable P] : (false = decide P) = ¬ P := (propext eq_comm).trans (propext decide_eq_false_iff_not)
attribute [go_sem] n_td n_fd
theorem n_map_take {α β : Type} (f : α → β) (n : Nat) (l : List α) : List.take n (List.map f l) = List.map f (List.take n l) := List.map_take.symm
theorem n_map_drop {α β : Type} (f : α → β) (n : Nat) (l : List α) : List.drop n (List.map f l) = List.map f (List.drop n l) := List.map_drop.symm
theorem n_map_app {α β : Type} (f : α → β) (a b : List α) : List.map f a ++ List.map f b = List.map f (a ++ b) := List.map_append.symm
attribute [go_sem] n_map_take n_map_drop n_map_app List.length_append List.length_take List.length_drop List.take_length List.drop_length Nat.min_self
theorem n_dd (P Q : Prop) [Decidable P] [Decidable Q] : (decide P = decide Q) = (P ↔ Q) := propext decide_eq_decide
attribute [go_sem] n_dd
attribute [go_sem] Bool.not_eq_true' Bool.not_eq_false'
attribute [go_sem] Value.oneCell' false_and and_false and_self List.length_set
attribute [go_sem] gX_t
attribute [go_sem ↓] q_binA_v q_binA_agg q_aggE q_aggN q_aggK_nil q_aggK_i q_aggK_s q_aggK_b
attribute [go_sem ↓] n_mpT n_mpK n_kkK_int n_kVal_v n_lkD_f n_xK n_goK_none n_lookup n_mapUpd
attribute [go_sem] n_isKey_int
attribute [go_sem ↓] q_el_map q_el_nil q_el_zero q_el_succ q_ex_map q_ex_nil q_ld_int q_ld_one q_ld_fn q_ld_str q_ld_sl q_ld_map q_ld_ptr q_ld_ifc q_ld_st q_load_ip q_ia_sl q_ia_row q_ia_arp q_ia_arip q_ia_acc q_index q_bin_ii q_bin_ss q_bin_bn q_un_not q_un_xor q_conv_i q_shr1_v q_shr1_sl q_shr1s_nil q_shr1s_cons q_shr_v q_shr_sl q_shr_ifc q_shr_acc q_shr_agg q_shrs_nil q_shrs_cons q_shrT_v q_shrT_sl q_shrT_acc q_shrT_agg q_shrT_tup q_bnd_none q_bnd_some q_slice_sl q_slice_str q_len_sl q_len_acc q_len_str q_min q_max q_sliceX_sl q_sliceX_v q_sliceX_acc q_atZ q_nilEq_sl q_nilEq_re q_appInt q_storeX_v q_makeSlice q_cap q_cont_sl q_cont_row q_cont_str q_append q_app_nil q_app_cons q_call q_fst_nil q_fst_one q_inv q_res_tmp q_res_cell q_resK_one q_resK_nil q_resK_two q_oK_some q_bK_arr q_bK_tl q_load_box q_load_ap q_slice_ar q_len_row q_copy q_copyK_sl q_field q_fi_ptr q_fi_ip q_fi_ap q_extract q_shr1_acc q_store q_storeX_ap q_cont_acc q_app_acc q_guard q_gK_some q_gD_ud q_func q_build q_bu q_bsl
attribute [go_sem] q_okE_v q_okE_sl q_okE_agg q_okE_ifc q_okE_acc q_cd_v q_cd_sl q_cd_agg q_cd_ifc q_cd_acc q_lk_same q_lk_ne q_up_same q_up_ne q_nn_ptr q_isZ q_isNilC_t q_isNilC_i q_isNilC_s q_isNilC_n q_hasAcc_nil q_hasAcc_acc q_hasAcc_v q_hasAcc_sl q_hasAcc_agg q_isRow_sl q_isRow_acc
theorem rc_get_s (r : R16) (l : List DV) (n : Nat) (d : DV) : (rc r l).getD (n + 16) d = l.getD n d := rfl
theorem rc_set_s (r : R16) (l : List DV) (n : Nat) (d : DV) : (rc r l).set (n + 16) d = rc r (l.set n d) := rfl
theorem rc_get_0 (a0 a1 a2 a3 a4 a5 a6 a7 a8 a9 a10 a11 a12 a13 a14 a15 : DV) (l : List DV) (d : DV) : (rc ⟨a0, a1, a2, a3, a4, a5, a6, a7, a8, a9, a10, a11, a12, a13, a14, a15⟩ l).getD 0 d = a0 := rfl
theorem rc_set_0 (a0 a1 a2 a3 a4 a5 a6 a7 a8 a9 a10 a11 a12 a13 a14 a15 : DV) (l : List DV) (d : DV) : (rc ⟨a0, a1, a2, a3, a4, a5, a6, a7, a8, a9, a10, a11, a12, a13, a14, a15⟩ l).set 0 d = rc ⟨d, a1, a2, a3, a4, a5, a6, a7, a8, a9, a10, a11, a12, a13, a14, a15⟩ l := rfl
theorem rc_get_1 (a0 a1 a2 a3 a4 a5 a6 a7 a8 a9 a10 a11 a12 a13 a14 a15 : DV) (l : List DV) (d : DV) : (rc ⟨a0, a1, a2, a3, a4, a5, a6, a7, a8, a9, a10, a11, a12, a13, a14, a15⟩ l).getD 1 d = a1 := rfl
theorem rc_set_1 (a0 a1 a2 a3 a4 a5 a6 a7 a8 a9 a10 a11 a12 a13 a14 a15 : DV) (l : List DV) (d : DV) : (rc ⟨a0, a1, a2, a3, a4, a5, a6, a7, a8, a9, a10, a11, a12, a13, a14, a15⟩ l).set 1 d = rc ⟨a0, d, a2, a3, a4, a5, a6, a7, a8, a9, a10, a11, a12, a13, a14, a15⟩ l := rfl
theorem rc_get_2 (a0 a1 a2 a3 a4 a5 a6 a7 a8 a9 a10 a11 a12 a13 a14 a15 : DV) (l : List DV) (d : DV) : (rc ⟨a0, a1, a2, a3, a4, a5, a6, a7, a8, a9, a10, a11, a12, a13, a14, a15⟩ l).getD 2 d = a2 := rfl
theorem rc_set_2 (a0 a1 a2 a3 a4 a5 a6 a7 a8 a9 a10 a11 a12 a13 a14 a15 : DV) (l : List DV) (d : DV) : (rc ⟨a0, a1, a2, a3, a4, a5, a6, a7, a8, a9, a10, a11, a12, a13, a14, a15⟩ l).set 2 d = rc ⟨a0, a1, d, a3, a4, a5, a6, a7, a8, a9, a10, a11, a12, a13, a14, a15⟩ l := rfl
theorem rc_get_3 (a0 a1 a2 a3 a4 a5 a6 a7 a8 a9 a10 a11 a12 a13 a14 a15 : DV) (l : List DV) (d : DV) : (rc ⟨a0, a1, a2, a3, a4, a5, a6, a7, a8, a9, a10, a11, a12, a13, a14, a15⟩ l).getD 3 d = a3 := rfl
theorem rc_set_3 (a0 a1 a2 a3 a4 a5 a6 a7 a8 a9 a10 a11 a12 a13 a14 a15 : DV) (l : List DV) (d : DV) : (rc ⟨a0, a1, a2, a3, a4, a5, a6, a7, a8, a9, a10, a11, a12, a13, a14, a15⟩ l).set 3 d = rc ⟨a0, a1, a2, d, a4, a5, a6, a7, a8, a9, a10, a11, a12, a13, a14, a15⟩ l := rfl
theorem rc_at_3 (a0 a1 a2 a3 a4 a5 a6 a7 a8 a9 a10 a11 a12 a13 a14 a15 : DV) (l : List DV) : (rc ⟨a0, a1, a2, a3, a4, a5, a6, a7, a8, a9, a10, a11, a12, a13, a14, a15⟩ l)[3]? = some a3 := rfl
theorem rc_get_4 (a0 a1 a2 a3 a4 a5 a6 a7 a8 a9 a10 a11 a12 a13 a14 a15 : DV) (l : List DV) (d : DV) : (rc ⟨a0, a1, a2, a3, a4, a5, a6, a7, a8, a9, a10, a11, a12, a13, a14, a15⟩ l).getD 4 d = a4 := rfl
theorem rc_set_4 (a0 a1 a2 a3 a4 a5 a6 a7 a8 a9 a10 a11 a12 a13 a14 a15 : DV) (l : List DV) (d : DV) : (rc ⟨a0, a1, a2, a3, a4, a5, a6, a7, a8, a9, a10, a11, a12, a13, a14, a15⟩ l).set 4 d = rc ⟨a0, a1, a2, a3, d, a5, a6, a7, a8, a9, a10, a11, a12, a13, a14, a15⟩ l := rfl
theorem rc_get_5 (a0 a1 a2 a3 a4 a5 a6 a7 a8 a9 a10 a11 a12 a13 a14 a15 : DV) (l : List DV) (d : DV) : (rc ⟨a0, a1, a2, a3, a4, a5, a6, a7, a8, a9, a10, a11, a12, a13, a14, a15⟩ l).getD 5 d = a5 := rfl
theorem rc_set_5 (a0 a1 a2 a3 a4 a5 a6 a7 a8 a9 a10 a11 a12 a13 a14 a15 : DV) (l : List DV) (d : DV) : (rc ⟨a0, a1, a2, a3, a4, a5, a6, a7, a8, a9, a10, a11, a12, a13, a14, a15⟩ l).set 5 d = rc ⟨a0, a1, a2, a3, a4, d, a6, a7, a8, a9, a10, a11, a12, a13, a14, a15⟩ l := rfl
theorem rc_get_6 (a0 a1 a2 a3 a4 a5 a6 a7 a8 a9 a10 a11 a12 a13 a14 a15 : DV) (l : List DV) (d : DV) : (rc ⟨a0, a1, a2, a3, a4, a5, a6, a7, a8, a9, a10, a11, a12, a13, a14, a15⟩ l).getD 6 d = a6 := rfl
theorem rc_set_6 (a0 a1 a2 a3 a4 a5 a6 a7 a8 a9 a10 a11 a12 a13 a14 a15 : DV) (l : List DV) (d : DV) : (rc ⟨a0, a1, a2, a3, a4, a5, a6, a7, a8, a9, a10, a11, a12, a13, a14, a15⟩ l).set 6 d = rc ⟨a0, a1, a2, a3, a4, a5, d, a7, a8, a9, a10, a11, a12, a13, a14, a15⟩ l := rfl
theorem rc_get_7 (a0 a1 a2 a3 a4 a5 a6 a7 a8 a9 a10 a11 a12 a13 a14 a15 : DV) (l : List DV) (d : DV) : (rc ⟨a0, a1, a2, a3, a4, a5, a6, a7, a8, a9, a10, a11, a12, a13, a14, a15⟩ l).getD 7 d = a7 := rfl
theorem rc_set_7 (a0 a1 a2 a3 a4 a5 a6 a7 a8 a9 a10 a11 a12 a13 a14 a15 : DV) (l : List DV) (d : DV) : (rc ⟨a0, a1, a2, a3, a4, a5, a6, a7, a8, a9, a10, a11, a12, a13, a14, a15⟩ l).set 7 d = rc ⟨a0, a1, a2, a3, a4, a5, a6, d, a8, a9, a10, a11, a12, a13, a14, a15⟩ l := rfl
theorem rc_at_7 (a0 a1 a2 a3 a4 a5 a6 a7 a8 a9 a10 a11 a12 a13 a14 a15 : DV) (l : List DV) : (rc ⟨a0, a1, a2, a3, a4, a5, a6, a7, a8, a9, a10, a11, a12, a13, a14, a15⟩ l)[7]? = some a7 := rfl
theorem rc_get_8 (a0 a1 a2 a3 a4 a5 a6 a7 a8 a9 a10 a11 a12 a13 a14 a15 : DV) (l : List DV) (d : DV) : (rc ⟨a0, a1, a2, a3, a4, a5, a6, a7, a8, a9, a10, a11, a12, a13, a14, a15⟩ l).getD 8 d = a8 := rfl
theorem rc_set_8 (a0 a1 a2 a3 a4 a5 a6 a7 a8 a9 a10 a11 a12 a13 a14 a15 : DV) (l : List DV) (d : DV) : (rc ⟨a0, a1, a2, a3, a4, a5, a6, a7, a8, a9, a10, a11, a12, a13, a14, a15⟩ l).set 8 d = rc ⟨a0, a1, a2, a3, a4, a5, a6, a7, d, a9, a10, a11, a12, a13, a14, a15⟩ l := rfl
theorem rc_get_9 (a0 a1 a2 a3 a4 a5 a6 a7 a8 a9 a10 a11 a12 a13 a14 a15 : DV) (l : List DV) (d : DV) : (rc ⟨a0, a1, a2, a3, a4, a5, a6, a7, a8, a9, a10, a11, a12, a13, a14, a15⟩ l).getD 9 d = a9 := rfl
theorem rc_set_9 (a0 a1 a2 a3 a4 a5 a6 a7 a8 a9 a10 a11 a12 a13 a14 a15 : DV) (l : List DV) (d : DV) : (rc ⟨a0, a1, a2, a3, a4, a5, a6, a7, a8, a9, a10, a11, a12, a13, a14, a15⟩ l).set 9 d = rc ⟨a0, a1, a2, a3, a4, a5, a6, a7, a8, d, a10, a11, a12, a13, a14, a15⟩ l := rfl
theorem rc_get_10 (a0 a1 a2 a3 a4 a5 a6 a7 a8 a9 a10 a11 a12 a13 a14 a15 : DV) (l : List DV) (d : DV) : (rc ⟨a0, a1, a2, a3, a4, a5, a6, a7, a8, a9, a10, a11, a12, a13, a14, a15⟩ l).getD 10 d = a10 := rfl
theorem rc_set_10 (a0 a1 a2 a3 a4 a5 a6 a7 a8 a9 a10 a11 a12 a13 a14 a15 : DV) (l : List DV) (d : DV) : (rc ⟨a0, a1, a2, a3, a4, a5, a6, a7, a8, a9, a10, a11, a12, a13, a14, a15⟩ l).set 10 d = rc ⟨a0, a1, a2, a3, a4, a5, a6, a7, a8, a9, d, a11, a12, a13, a14, a15⟩ l := rfl
theorem rc_get_11 (a0 a1 a2 a3 a4 a5 a6 a7 a8 a9 a10 a11 a12 a13 a14 a15 : DV) (l : List DV) (d : DV) : (rc ⟨a0, a1, a2, a3, a4, a5, a6, a7, a8, a9, a10, a11, a12, a13, a14, a15⟩ l).getD 11 d = a11 := rfl
theorem rc_set_11 (a0 a1 a2 a3 a4 a5 a6 a7 a8 a9 a10 a11 a12 a13 a14 a15 : DV) (l : List DV) (d : DV) : (rc ⟨a0, a1, a2, a3, a4, a5, a6, a7, a8, a9, a10, a11, a12, a13, a14, a15⟩ l).set 11 d = rc ⟨a0, a1, a2, a3, a4, a5, a6, a7, a8, a9, a10, d, a12, a13, a14, a15⟩ l := rfl
theorem rc_get_12 (a0 a1 a2 a3 a4 a5 a6 a7 a8 a9 a10 a11 a12 a13 a14 a15 : DV) (l : List DV) (d : DV) : (rc ⟨a0, a1, a2, a3, a4, a5, a6, a7, a8, a9, a10, a11, a12, a13, a14, a15⟩ l).getD 12 d = a12 := rfl
theorem rc_set_12 (a0 a1 a2 a3 a4 a5 a6 a7 a8 a9 a10 a11 a12 a13 a14 a15 : DV) (l : List DV) (d : DV) : (rc ⟨a0, a1, a2, a3, a4, a5, a6, a7, a8, a9, a10, a11, a12, a13, a14, a15⟩ l).set 12 d = rc ⟨a0, a1, a2, a3, a4, a5, a6, a7, a8, a9, a10, a11, d, a13, a14, a15⟩ l := rfl
theorem rc_get_13 (a0 a1 a2 a3 a4 a5 a6 a7 a8 a9 a10 a11 a12 a13 a14 a15 : DV) (l : List DV) (d : DV) : (rc ⟨a0, a1, a2, a3, a4, a5, a6, a7, a8, a9, a10, a11, a12, a13, a14, a15⟩ l).getD 13 d = a13 := rfl
theorem rc_set_13 (a0 a1 a2 a3 a4 a5 a6 a7 a8 a9 a10 a11 a12 a13 a14 a15 : DV) (l : List DV) (d : DV) : (rc ⟨a0, a1, a2, a3, a4, a5, a6, a7, a8, a9, a10, a11, a12, a13, a14, a15⟩ l).set 13 d = rc ⟨a0, a1, a2, a3, a4, a5, a6, a7, a8, a9, a10, a11, a12, d, a14, a15⟩ l := rfl
theorem rc_get_14 (a0 a1 a2 a3 a4 a5 a6 a7 a8 a9 a10 a11 a12 a13 a14 a15 : DV) (l : List DV) (d : DV) : (rc ⟨a0, a1, a2, a3, a4, a5, a6, a7, a8, a9, a10, a11, a12, a13, a14, a15⟩ l).getD 14 d = a14 := rfl
theorem rc_set_14 (a0 a1 a2 a3 a4 a5 a6 a7 a8 a9 a10 a11 a12 a13 a14 a15 : DV) (l : List DV) (d : DV) : (rc ⟨a0, a1, a2, a3, a4, a5, a6, a7, a8, a9, a10, a11, a12, a13, a14, a15⟩ l).set 14 d = rc ⟨a0, a1, a2, a3, a4, a5, a6, a7, a8, a9, a10, a11, a12, a13, d, a15⟩ l := rfl
theorem rc_get_15 (a0 a1 a2 a3 a4 a5 a6 a7 a8 a9 a10 a11 a12 a13 a14 a15 : DV) (l : List DV) (d : DV) : (rc ⟨a0, a1, a2, a3, a4, a5, a6, a7, a8, a9, a10, a11, a12, a13, a14, a15⟩ l).getD 15 d = a15 := rfl
theorem rc_set_15 (a0 a1 a2 a3 a4 a5 a6 a7 a8 a9 a10 a11 a12 a13 a14 a15 : DV) (l : List DV) (d : DV) : (rc ⟨a0, a1, a2, a3, a4, a5, a6, a7, a8, a9, a10, a11, a12, a13, a14, a15⟩ l).set 15 d = rc ⟨a0, a1, a2, a3, a4, a5, a6, a7, a8, a9, a10, a11, a12, a13, a14, d⟩ l := rfl
theorem rc_wkA (a0 a1 a2 a3 a4 a5 a6 a7 a8 a9 a10 a11 a12 a13 a14 a15 : DV) (l : List DV) (i : Nat) (js : List Nat) : wkA (rc ⟨a0, a1, a2, a3, a4, a5, a6, a7, a8, a9, a10, a11, a12, a13, a14, a15⟩ l) i js = wkA (a0 :: a1 :: a2 :: a3 :: a4 :: a5 :: a6 :: a7 :: a8 :: a9 :: a10 :: a11 :: a12 :: a13 :: a14 :: a15 :: l) i js := rfl
theorem fold_s (a0 a1 a2 a3 a4 a5 a6 a7 a8 a9 a10 a11 a12 a13 a14 a15 : DV) (l : List DV) : foldF (a0 :: a1 :: a2 :: a3 :: a4 :: a5 :: a6 :: a7 :: a8 :: a9 :: a10 :: a11 :: a12 :: a13 :: a14 :: a15 :: l) = rc ⟨a0, a1, a2, a3, a4, a5, a6, a7, a8, a9, a10, a11, a12, a13, a14, a15⟩ (foldF l) := rfl
theorem fold_0  : foldF [] = [] := rfl
theorem fold_1 (a0 : DV) : foldF [a0] = [a0] := rfl
theorem fold_2 (a0 a1 : DV) : foldF [a0, a1] = [a0, a1] := rfl
theorem fold_3 (a0 a1 a2 : DV) : foldF [a0, a1, a2] = [a0, a1, a2] := rfl
theorem fold_4 (a0 a1 a2 a3 : DV) : foldF [a0, a1, a2, a3] = [a0, a1, a2, a3] := rfl
theorem fold_5 (a0 a1 a2 a3 a4 : DV) : foldF [a0, a1, a2, a3, a4] = [a0, a1, a2, a3, a4] := rfl
theorem fold_6 (a0 a1 a2 a3 a4 a5 : DV) : foldF [a0, a1, a2, a3, a4, a5] = [a0, a1, a2, a3, a4, a5] := rfl
theorem fold_7 (a0 a1 a2 a3 a4 a5 a6 : DV) : foldF [a0, a1, a2, a3, a4, a5, a6] = [a0, a1, a2, a3, a4, a5, a6] := rfl
theorem fold_8 (a0 a1 a2 a3 a4 a5 a6 a7 : DV) : foldF [a0, a1, a2, a3, a4, a5, a6, a7] = [a0, a1, a2, a3, a4, a5, a6, a7] := rfl
theorem fold_9 (a0 a1 a2 a3 a4 a5 a6 a7 a8 : DV) : foldF [a0, a1, a2, a3, a4, a5, a6, a7, a8] = [a0, a1, a2, a3, a4, a5, a6, a7, a8] := rfl
theorem fold_10 (a0 a1 a2 a3 a4 a5 a6 a7 a8 a9 : DV) : foldF [a0, a1, a2, a3, a4, a5, a6, a7, a8, a9] = [a0, a1, a2, a3, a4, a5, a6, a7, a8, a9] := rfl
theorem fold_11 (a0 a1 a2 a3 a4 a5 a6 a7 a8 a9 a10 : DV) : foldF [a0, a1, a2, a3, a4, a5, a6, a7, a8, a9, a10] = [a0, a1, a2, a3, a4, a5, a6, a7, a8, a9, a10] := rfl
theorem fold_12 (a0 a1 a2 a3 a4 a5 a6 a7 a8 a9 a10 a11 : DV) : foldF [a0, a1, a2, a3, a4, a5, a6, a7, a8, a9, a10, a11] = [a0, a1, a2, a3, a4, a5, a6, a7, a8, a9, a10, a11] := rfl
theorem fold_13 (a0 a1 a2 a3 a4 a5 a6 a7 a8 a9 a10 a11 a12 : DV) : foldF [a0, a1, a2, a3, a4, a5, a6, a7, a8, a9, a10, a11, a12] = [a0, a1, a2, a3, a4, a5, a6, a7, a8, a9, a10, a11, a12] := rfl
theorem fold_14 (a0 a1 a2 a3 a4 a5 a6 a7 a8 a9 a10 a11 a12 a13 : DV) : foldF [a0, a1, a2, a3, a4, a5, a6, a7, a8, a9, a10, a11, a12, a13] = [a0, a1, a2, a3, a4, a5, a6, a7, a8, a9, a10, a11, a12, a13] := rfl
theorem fold_15 (a0 a1 a2 a3 a4 a5 a6 a7 a8 a9 a10 a11 a12 a13 a14 : DV) : foldF [a0, a1, a2, a3, a4, a5, a6, a7, a8, a9, a10, a11, a12, a13, a14] = [a0, a1, a2, a3, a4, a5, a6, a7, a8, a9, a10, a11, a12, a13, a14] := rfl
attribute [go_sem] rc_get_s rc_set_s rc_get_0 rc_set_0 rc_get_1 rc_set_1 rc_get_2 rc_set_2 rc_get_3 rc_set_3 rc_at_3 rc_get_4 rc_set_4 rc_get_5 rc_set_5 rc_get_6 rc_set_6 rc_get_7 rc_set_7 rc_at_7 rc_get_8 rc_set_8 rc_get_9 rc_set_9 rc_get_10 rc_set_10 rc_get_11 rc_set_11 rc_get_12 rc_set_12 rc_get_13 rc_set_13 rc_get_14 rc_set_14 rc_get_15 rc_set_15 rc_wkA fold_s fold_0 fold_1 fold_2 fold_3 fold_4 fold_5 fold_6 fold_7 fold_8 fold_9 fold_10 fold_11 fold_12 fold_13 fold_14 fold_15
end Aml
namespace Aml
open Go Go.RowKit
def vcLT (P : Program) (w0 : W0) (S : St) (ops : Array Oper) (K : List DV → St → Prop) : List Oper → List DV → Prop
 | [], fr => K fr S
 | o :: rest, fr => selK (isQ o.op)
  (guardK ops fr o.guard (fun fr => vcOpQ P w0 o.op fr S fun d => vcLT P w0 S ops K rest (pt fr o.dst d)) (fun fr => vcLT P w0 S ops K rest (pt fr o.dst ud)))
  (vcL P w0 ops K (o :: rest) fr S)
section
variable {P : Program} {w0 : W0}
theorem vcLT_split {S : St} {ops : Array Oper} {K : List DV → St → Prop} : ∀ {l : List Oper} {fr : List DV}, l.all (fun o => okSl o.op) = true → vcLT P w0 S ops K l fr → LQ P w0 S ops (fun fr => vcL P w0 ops K (l.drop (npre l)) fr S) (l.take (npre l)) fr
 | [], fr, _, h => h
 | o :: rest, fr, hs, h => by
  simp only [List.all_cons, Bool.and_eq_true] at hs
  unfold vcLT selK at h
  cases hq : isQ o.op with
  | true =>
   rw [hq] at h
   simp only at h
   have e : npre (o :: rest) = npre rest + 1 := by simp [npre, List.takeWhile_cons, hq]
   rw [e, List.take_succ_cons, List.drop_succ_cons]
   refine guardK_mono (fun fr h => ?_) (fun fr h => vcLT_split hs.2 h) h
   obtain ⟨d, q1, q2⟩ := vcOpQ_sound hs.1 h
   exact ⟨d, q1, vcLT_split hs.2 q2⟩
  | false =>
   rw [hq] at h
   have e : npre (o :: rest) = 0 := by simp [npre, List.takeWhile_cons, hq]
   rw [e]
   exact h
theorem LQ_arr {S : St} {a b : Array Oper} {K : List DV → Prop} : ∀ {l : List Oper} {fr : List DV}, (∀ o, o ∈ l → ∀ j want, o.guard = some (j, want) → a[j]? = b[j]?) → LQ P w0 S a K l fr → LQ P w0 S b K l fr
 | [], fr, _, h => h
 | o :: rest, fr, hg, h => by
  have h' : guardK a fr o.guard (fun fr => ∃ d, QY P w0 S o fr d ∧ LQ P w0 S b K rest (pt fr o.dst d)) (fun fr => LQ P w0 S b K rest (pt fr o.dst ud)) :=
   guardK_mono (fun fr ⟨d, q1, q2⟩ => ⟨d, q1, LQ_arr (fun o ho => hg o (List.mem_cons_of_mem _ ho)) q2⟩) (fun fr h => LQ_arr (fun o ho => hg o (List.mem_cons_of_mem _ ho)) h) h
  unfold guardK at h'
  show guardK b fr o.guard _ _
  unfold guardK
  cases hgo : o.guard with
  | none => rw [hgo] at h'; exact h'
  | some p =>
   obtain ⟨j, want⟩ := p
   rw [hgo] at h'
   simp only at h' ⊢
   rw [← hg o List.mem_cons_self j want hgo]
   exact h'
theorem awp_drawX {id : Nat} {l : List Oper} {fr : List DV} {S : St} {Q : Exit → List DV → St → Prop} (hm : P.follows .mixedOrders = true) (hB : Region.lexB .any (l.take (npre l)).toArray = true) (hT : tailB .any l.toArray (npre l) = true) (hs : l.all (fun o => okSl o.op) = true)
  (h : vcLT P w0 S l.toArray (fun fr S => Q .normal fr S) l fr) : AWp P w0 (.region id l.toArray true) fr S Q := by
 have hn : npre l ≤ l.length := by
  unfold npre
  exact List.Sublist.length_le (List.takeWhile_sublist _)
 refine awp_drawT (npre l) hn hm hB hT hs (LQ_arr ?_ (vcLT_split hs h))
 intro o ho j want hg
 simp only [tailB, Bool.and_eq_true] at hT
 have := List.all_eq_true.1 hT.2 o (by simpa using ho)
 simp only [hg, decide_eq_true_eq] at this
 simp [List.getElem?_take, this]
def AL (P : Program) (w0 : W0) (fr : List DV) (S : St) [c : Cn (Code × (Exit → List DV → St → Prop))] : Prop := AWp P w0 c.k.1 fr S c.k.2
def vw (P : Program) (w0 : W0) (ss : List Nat) : Code → List DV → St → (Exit → List DV → St → Prop) → Prop
 | .skip, fr, S, Q => Q .normal fr S
 | .seq x y, fr, S, Q => vw P w0 ss x fr S (thenQ (fun fr S => vw P w0 ss y fr S Q) Q)
 | .cond c x y, fr, S, Q => condD (ev fr c) (vw P w0 ss x fr S Q) (vw P w0 ss y fr S Q)
 | .block n c, fr, S, Q => selK (ss.contains (n + 1000)) (@AL P w0 fr S ⟨((.block n c), Q)⟩) (vw P w0 ss c fr S (blockQ n Q))
 | .exit n, fr, S, Q => Q (.exit n) fr S
 | .ret, fr, S, Q => Q .ret fr S
 | .region n ops dr, fr, S, Q => selK (ss.contains n) (@AL P w0 fr S ⟨((.region n ops dr), Q)⟩)
  (selK dr (vcLT P w0 S ops (fun fr S => Q .normal fr S) ops.toList fr) (vcL P w0 ops (fun fr S => Q .normal fr S) ops.toList fr S))
 | c, fr, S, Q => @AL P w0 fr S ⟨(c, Q)⟩
/- How it goes. -/
section
variable {P : Program} {w0 : W0} {ss : List Nat} {fr : List DV} {S : St} {Q : Exit → List DV → St → Prop}
theorem n_vw_skip : vw P w0 ss .skip fr S Q = Q .normal fr S := rfl
theorem n_vw_seq (x y : Code) : vw P w0 ss (.seq x y) fr S Q = vw P w0 ss x fr S (thenQ (fun fr S => vw P w0 ss y fr S Q) Q) := rfl
theorem n_vw_cond (c : Operand) (x y : Code) : vw P w0 ss (.cond c x y) fr S Q = condD (ev fr c) (vw P w0 ss x fr S Q) (vw P w0 ss y fr S Q) := rfl
theorem n_vw_block (n : Nat) (c : Code) : vw P w0 ss (.block n c) fr S Q = selK (ss.contains (n + 1000)) (@AL P w0 fr S ⟨((.block n c), Q)⟩) (vw P w0 ss c fr S (blockQ n Q)) := rfl
theorem n_vw_exit (n : Nat) : vw P w0 ss (.exit n) fr S Q = Q (.exit n) fr S := rfl
theorem n_vw_ret : vw P w0 ss .ret fr S Q = Q .ret fr S := rfl
def normF (fr : List DV) (F : List DV → Prop) : Prop := F fr
@[congr] theorem c_normF {fr fr' : List DV} {F : List DV → Prop} (h : fr = fr') : normF fr F = normF fr' F := by cases h; rfl
theorem n_normF (d : DV) (fr : List DV) (F : List DV → Prop) : normF (d :: fr) F = F (d :: fr) := rfl
theorem n_normF_rc (r : R16) (fr : List DV) (F : List DV → Prop) : normF (rc r fr) F = F (rc r fr) := rfl
attribute [go_sem ↓] n_normF n_normF_rc
theorem n_vw_regF (n : Nat) (l : List Oper) : vw P w0 ss (.region n l.toArray false) fr S Q = selK (ss.contains n) (@AL P w0 fr S ⟨((.region n l.toArray false), Q)⟩) (vcL P w0 l.toArray (fun fr S => normF fr fun fr => Q .normal fr S) l fr S) := by simp [vw, selK, normF]
theorem n_vw_regT (n : Nat) (l : List Oper) : vw P w0 ss (.region n l.toArray true) fr S Q = selK (ss.contains n) (@AL P w0 fr S ⟨((.region n l.toArray true), Q)⟩) (vcLT P w0 S l.toArray (fun fr S => normF fr fun fr => Q .normal fr S) l fr) := by simp [vw, selK, normF]
section
variable {ops : Array Oper} {K : List DV → St → Prop} {rest : List Oper} {dst : Option Tmp} {op : Op} {ty : TypeId} {pos : String} {aft : Array Edge}
theorem n_LT_nil : vcLT P w0 S ops K [] fr = K fr S := rfl
theorem n_LT_none : vcLT P w0 S ops K (⟨dst, op, ty, pos, aft, none⟩ :: rest) fr = selK (isQ op) (vcOpQ P w0 op fr S fun d => vcLT P w0 S ops K rest (pt fr dst d)) (vcL P w0 ops K (⟨dst, op, ty, pos, aft, none⟩ :: rest) fr S) := rfl
theorem n_LT_some (j : Nat) (want : Bool) : vcLT P w0 S ops K (⟨dst, op, ty, pos, aft, some (j, want)⟩ :: rest) fr = selK (isQ op) (gK ((ops[j]?).bind (·.dst)) fr want (fun fr => vcOpQ P w0 op fr S fun d => vcLT P w0 S ops K rest (pt fr dst d)) (fun fr => vcLT P w0 S ops K rest (pt fr dst ud))) (vcL P w0 ops K (⟨dst, op, ty, pos, aft, some (j, want)⟩ :: rest) fr S) := by
 rw [← q_guard]; rfl
end
def normL (l : List Oper) (F : List Oper → Prop) : Prop := F l
@[congr] theorem c_normL {l l' : List Oper} {F : List Oper → Prop} (h : l = l') : normL l F = normL l' F := by cases h; rfl
theorem n_normL (l : List Oper) (F : List Oper → Prop) : normL l F = F l := rfl
theorem n_vw_regA (n : Nat) (l1 l2 : List Oper) (dr : Bool) : vw P w0 ss (.region n (l1.append l2).toArray dr) fr S Q = normL (l1.append l2) (fun l => vw P w0 ss (.region n l.toArray dr) fr S Q) := rfl
theorem n_vw_loop (c : Code) : vw P w0 ss (.loop c) fr S Q = @AL P w0 fr S ⟨((.loop c), Q)⟩ := rfl
@[congr] theorem c_vw {c : Code} {fr' : List DV} {S' : St} (h1 : fr = fr') (h2 : S = S') : vw P w0 ss c fr S Q = vw P w0 ss c fr' S' Q := by cases h1; cases h2; rfl
@[congr] theorem c_vcLT {ops : Array Oper} {K : List DV → St → Prop} {l : List Oper} {fr' : List DV} {S' : St} (h1 : fr = fr') (h2 : S = S') : vcLT P w0 S ops K l fr = vcLT P w0 S' ops K l fr' := by cases h1; cases h2; rfl
@[congr] theorem c_AWp {c : Code} {fr' : List DV} {S' : St} (h1 : fr = fr') (h2 : S = S') : AWp P w0 c fr S Q = AWp P w0 c fr' S' Q := by cases h1; cases h2; rfl
end
attribute [go_sem] n_normL List.contains_nil List.contains_cons
attribute [go_sem ↓] n_LT_nil n_LT_none n_LT_some n_vw_skip n_vw_seq n_vw_cond n_vw_block n_vw_exit n_vw_ret n_vw_regF n_vw_regT n_vw_loop
attribute [go_sem ↓ high] n_vw_regA
section
variable {md : Region.Mode} {ops : Array Oper}
def lexG (md : Region.Mode) (ops : Array Oper) : Nat → List Oper → Bool
 | _, [] => true
 | k, o :: l => o.after.toList.all (fun e => !Region.binds md e || decide (e.on < k)) && l.all (fun oj => oj.after.toList.any (fun e => Region.binds md e && e.on == k) || o.apart ops oj) && lexG md ops (k + 1) l
theorem lexFrom_of : ∀ (l : List Oper) (k : Nat) (listed : Array Bool), (∀ j, l[j]? = ops[k + j]?) → listed.size = ops.size → (∀ i, i < k → listed[i]? = some true) → (∀ i, k ≤ i → i < ops.size → listed[i]? = some false) → lexG md ops k l = true → Region.lexFrom md ops l.length k listed = true
 | [], k, listed, hl, hs, h1, h2, _ => by
  simp only [List.length_nil, Region.lexFrom]
  have : Region.ready md ops listed = [] := List.eq_nil_iff_forall_not_mem.2 fun i hi => by
   obtain ⟨hun, o, ho, _⟩ := mem_ready.1 hi
   rw [getD_true] at hun
   rcases Nat.lt_or_ge i k with h | h
   ·rw [h1 i h] at hun; cases hun
   ·have := hl (i - k)
    rw [show k + (i - k) = i by omega, ho] at this
    simp at this
  rw [this]; rfl
 | o :: l, k, listed, hl, hs, h1, h2, hG => by
  have h0 : ops[k]? = some o := by simpa using (hl 0).symm
  have hk : k < ops.size := (Array.getElem?_eq_some_iff.1 h0).1
  simp only [lexG, Bool.and_eq_true] at hG
  obtain ⟨⟨ha, hb⟩, hc⟩ := hG
  simp only [List.length_cons, Region.lexFrom, Bool.and_eq_true]
  have hr : k ∈ Region.ready md ops listed := mem_ready.2 ⟨getD_true.2 (h2 k (Nat.le_refl _) hk), o, h0, fun e he hbind => by
   have := List.all_eq_true.1 ha e (Array.mem_toList_iff.2 he)
   rw [hbind] at this
   simp at this
   exact getD_false.2 (h1 _ this)⟩
  refine ⟨⟨by simpa using hr, ?_⟩, ?_⟩
  ·unfold Region.free
   rw [h0]
   simp only [List.all_eq_true, List.mem_range]
   intro j hj
   rcases Nat.lt_trichotomy j k with h | h | h
   ·have : listed.getD j true = true := by rw [Array.getD_eq_getD_getElem?, h1 j h]; rfl
    simp [this]
   ·simp [h]
   ·have hj2 := hl (j - k)
    rw [show k + (j - k) = j by omega, show j - k = (j - k - 1) + 1 by omega, List.getElem?_cons_succ] at hj2
    rw [← hj2]
    cases hq : l[j - k - 1]? with
    | none => simp
    | some oj =>
     have := List.all_eq_true.1 hb oj (List.mem_of_getElem? hq)
     simp only [Bool.or_eq_true] at this ⊢
     refine .inr ?_
     rcases this with h | h
     ·refine .inl ?_
      obtain ⟨e, he, h⟩ := List.any_eq_true.1 h
      exact Array.any_eq_true'.2 ⟨e, Array.mem_toList_iff.1 he, h⟩
     ·exact .inr h
  ·refine lexFrom_of l (k + 1) _ (fun j => ?_) (by simpa using hs) (fun i hi => ?_) (fun i hi hi2 => ?_) hc
   ·have := hl (j + 1)
    simpa [Nat.add_assoc, Nat.add_comm 1 j] using this
   ·rw [Array.getElem?_setIfInBounds]
    by_cases h : k = i
    ·subst h; rw [if_pos rfl, if_pos (by omega)]
    ·rw [if_neg h]; exact h1 i (by omega)
   ·rw [Array.getElem?_setIfInBounds, if_neg (by omega)]
    exact h2 i (by omega) hi2
theorem lexG_sound {l : List Oper} (hs : Region.noSelect l.toArray = true) (h : lexG md l.toArray 0 l = true) : Region.lexB md l.toArray = true := by
 unfold Region.lexB
 rw [hs, Bool.true_and]
 have := lexFrom_of (md := md) (ops := l.toArray) l 0 (Array.replicate l.toArray.size false) (fun j => by simp) (by simp) (fun i hi => absurd hi (by omega)) (fun i _ hi => by rw [Array.getElem?_replicate, if_pos hi]) h
 simpa using this
end
def okC (ss : List Nat) : Code → Bool
 | .seq x y => okC ss x && okC ss y
 | .cond _ x y => okC ss x && okC ss y
 | .block n c => ss.contains (n + 1000) || okC ss c
 | .region n ops false => ss.contains n || ops.toList.all (fun o => okSl o.op)
 | .region n ops true => ss.contains n || (ops.toList.all (fun o => okSl o.op) && Region.noSelect (ops.toList.take (npre ops.toList)).toArray && lexG .any (ops.toList.take (npre ops.toList)).toArray 0 (ops.toList.take (npre ops.toList)) && tailB .any ops (npre ops.toList))
 | _ => true
theorem vw_sound {ss : List Nat} (hm : P.follows .mixedOrders = true) : ∀ (c : Code) {fr : List DV} {S : St} {Q : Exit → List DV → St → Prop}, okC ss c = true → vw P w0 ss c fr S Q → AWp P w0 c fr S Q
 | .skip, fr, S, Q, _, h => awp_skip h
 | .seq x y, fr, S, Q, ho, h => by
  simp only [okC, Bool.and_eq_true] at ho
  exact awp_seq ((vw_sound hm x ho.1 h).mono fun e fr S hq => by cases e <;> first | exact vw_sound hm y ho.2 hq | exact hq)
 | .cond c x y, fr, S, Q, ho, h => by
  simp only [okC, Bool.and_eq_true] at ho
  exact awp_cond (condD_mono (fun h => vw_sound hm x ho.1 h) (fun h => vw_sound hm y ho.2 h) h)
 | .block n c, fr, S, Q, ho, h => by
  unfold vw selK at h
  unfold okC at ho
  split at h
  ·exact h
  ·rename_i hn
   rw [hn, Bool.false_or] at ho
   exact awp_block (vw_sound hm c ho h)
 | .exit n, fr, S, Q, _, h => awp_exit h
 | .ret, fr, S, Q, _, h => awp_ret h
 | .region n ops false, fr, S, Q, ho, h => by
  unfold vw at h
  unfold selK at h
  unfold okC at ho
  split at h
  ·exact h
  rename_i hn
  rw [hn, Bool.false_or] at ho
  simp only at h
  have := vcL_sound _ ho h
  have := awp_region (id := n) (l := ops.toList) this
  simpa using this
 | .region n ops true, fr, S, Q, ho, h => by
  unfold vw at h
  unfold selK at h
  unfold okC at ho
  split at h
  ·exact h
  rename_i hn
  rw [hn, Bool.false_or] at ho
  simp only [Bool.and_eq_true] at ho
  simp only at h
  have := awp_drawX (id := n) (l := ops.toList) (fr := fr) (S := S) (Q := Q) hm (lexG_sound ho.1.1.2 ho.1.2) ho.2 ho.1.1.1 h
  simpa using this
 | .loop c, fr, S, Q, _, h => h
 | .rangeFunc f ps a b, fr, S, Q, _, h => h
 | .scope c, fr, S, Q, _, h => h
 | .label l, fr, S, Q, _, h => h
 | .goto l, fr, S, Q, _, h => h
 | .refuse w, fr, S, Q, _, h => h
theorem fnO (ss : List Nat) {f : FuncId} {fn : Func} {c : Code} {rs : List ResultVar} {args : List DV} {S : St} {K : DV → St → Prop} (hm : P.follows .mixedOrders = true) (hf : P.funcs[f]? = some fn) (hb : fn.body = some c) (hrs : fn.results = rs.toArray) (hc : okC ss c = true)
  (h : vw P w0 ss c (foldF (args ++ List.replicate (fn.ntmps - args.length) ud)) S fun e fr S' => (e = .normal ∨ e = .ret) ∧ resK P fr S' rs fun d => K d S') : ACall P w0 f args S K :=
 acall_of hf hb hrs (vw_sound hm c hc h)
end
end Aml
namespace Aml
open Go Go.RowKit
def Wk (d e : DV) : Prop := ∀ g u, Rep g d u → Rep g e u
def WkL : List DV → List DV → Prop
 | [], [] => True
 | d :: ds, e :: es => Wk d e ∧ WkL ds es
 | _, _ => False
theorem Wk.refl (d : DV) : Wk d d := fun _ _ h => h
theorem Wk.trans {a b c : DV} (h : Wk a b) (k : Wk b c) : Wk a c := fun g u r => k g u (h g u r)
theorem Wk.any (d : DV) : Wk d .any := fun g u _ => .any u
theorem Wk.nil (s s' : Nat) (f : Bool) : Wk (.sl s true []) (.sl s' f []) := fun g u r => by
 obtain ⟨o, h⟩ := rep_full_nil r
 rw [h]; exact .nil _ _ _ _ fun _ => rfl
theorem Wk.full (s : Nat) (f : Bool) (xs : List DV) : Wk (.sl s f xs) (.sl s false xs) := fun g u r => by
 cases r with
 | nil _ _ o c hc => exact .nil _ _ _ _ (by simp)
 | sl _ _ _ b o c us hl hf hc hm hr hz h1 hi => exact .sl _ _ _ _ _ _ us hl (by simp) hc hm hr hz h1 hi
theorem WkL.refl : ∀ ds, WkL ds ds
 | [] => trivial
 | d :: ds => ⟨.refl d, WkL.refl ds⟩
theorem WkL.spec : ∀ {ds es : List DV}, WkL ds es → ∀ {g : Gh} {us : List Value}, RepL g ds us → RepL g es us
 | [], [], _, _, _, r => r
 | d :: ds, e :: es, h, g, us, r => by
  obtain ⟨u, us', rfl, r1, r2⟩ := r.uncons
  exact RepL.cons (h.1 _ _ r1) (WkL.spec h.2 r2)
theorem WkL.length : ∀ {ds es : List DV}, WkL ds es → ds.length = es.length
 | [], [], _ => rfl
 | d :: ds, e :: es, h => by simp [WkL.length h.2]
theorem WkL.trans : ∀ {a b c : List DV}, WkL a b → WkL b c → WkL a c
 | [], [], [], _, _ => trivial
 | _ :: _, _ :: _, _ :: _, h, k => ⟨h.1.trans k.1, h.2.trans k.2⟩
theorem Wk.agg {ds es : List DV} (h : WkL ds es) : Wk (.agg ds) (.agg es) := fun g u r => by
 cases r with
 | agg _ us hl hr h1 =>
  have := h.spec (g := g) (us := us) ⟨hl, hr⟩
  exact .agg _ _ this.len this.at_ h1
theorem Wk.tup {ds es : List DV} (h : WkL ds es) : Wk (.tup ds) (.tup es) := fun g u r => by
 cases r with
 | tup _ us hl hr =>
  have := h.spec (g := g) (us := us) ⟨hl, hr⟩
  exact .tup _ _ this.len this.at_
theorem Wk.ifc {t : TypeId} {d e : DV} (h : Wk d e) : Wk (.ifc t d) (.ifc t e) := fun g u r => by
 cases r with
 | ifc _ _ u r => exact .ifc _ _ _ (h _ _ r)
theorem Wk.sl {s : Nat} {f : Bool} {xs ys : List DV} (h : WkL xs ys) : Wk (.sl s f xs) (.sl s f ys) := fun g u r => by
 cases r with
 | nil _ _ o c hc =>
  cases ys with
  | nil => exact .nil _ _ _ _ hc
  | cons y ys => exact h.elim
 | sl _ _ _ b o c us hl hf hc hm hr hz h1 hi =>
  have := h.spec (g := g) (us := us) ⟨hl, hr⟩
  exact .sl _ _ _ _ _ _ us this.len hf hc hm this.at_ hz h1 hi
theorem Wk_agg {ds es : List DV} (h : WkL ds es) : Wk (.agg ds) (.agg es) = True := eq_true (Wk.agg h)
theorem WkL.map {α : Type} {f g : α → DV} (h : ∀ a, Wk (f a) (g a)) : ∀ (l : List α), WkL (l.map f) (l.map g)
 | [] => trivial
 | a :: l => ⟨h a, WkL.map h l⟩
theorem WkL.nil : WkL [] [] := trivial
theorem WkL.cons {d e : DV} {ds es : List DV} (h : Wk d e) (k : WkL ds es) : WkL (d :: ds) (e :: es) := ⟨h, k⟩
theorem WkL_cons (d e : DV) (ds es : List DV) : WkL (d :: ds) (e :: es) = (Wk d e ∧ WkL ds es) := rfl
theorem WkL_nil : WkL [] [] = True := rfl
theorem WkL_rc (a0 a1 a2 a3 a4 a5 a6 a7 a8 a9 a10 a11 a12 a13 a14 a15 : DV) (b0 b1 b2 b3 b4 b5 b6 b7 b8 b9 b10 b11 b12 b13 b14 b15 : DV) (l m : List DV) : WkL (rc ⟨a0, a1, a2, a3, a4, a5, a6, a7, a8, a9, a10, a11, a12, a13, a14, a15⟩ l) (rc ⟨b0, b1, b2, b3, b4, b5, b6, b7, b8, b9, b10, b11, b12, b13, b14, b15⟩ m) = (Wk a0 b0 ∧ Wk a1 b1 ∧ Wk a2 b2 ∧ Wk a3 b3 ∧ Wk a4 b4 ∧ Wk a5 b5 ∧ Wk a6 b6 ∧ Wk a7 b7 ∧ Wk a8 b8 ∧ Wk a9 b9 ∧ Wk a10 b10 ∧ Wk a11 b11 ∧ Wk a12 b12 ∧ Wk a13 b13 ∧ Wk a14 b14 ∧ Wk a15 b15 ∧ WkL l m) := rfl
theorem Wk.eq {d e : DV} (h : d = e) : Wk d e := h ▸ .refl d
theorem Wk_self (d : DV) : Wk d d = True := eq_true (.refl d)
theorem Wk_v {u u' : Value} (h : u.oneCell' = true) : Wk (.v u) (.v u') ↔ u = u' :=
 ⟨fun k => by have := k ⟨fun _ _ => none, fun _ _ => none, fun _ => none⟩ u (.v u h); cases this; rfl, fun e => e ▸ .refl _⟩
theorem Wk_int (k : IntKind) (a b : Int) : Wk (.v (.int k a)) (.v (.int k b)) = (a = b) := propext ((Wk_v rfl).trans ⟨fun h => (Value.int.inj h).2, fun h => by rw [h]⟩)
theorem Wk_bool (a b : Bool) : Wk (.v (.bool a)) (.v (.bool b)) = (a = b) := propext ((Wk_v rfl).trans ⟨fun h => Value.bool.inj h, fun h => by rw [h]⟩)
theorem Wk_str (a b : ByteArray) : Wk (.v (.string a)) (.v (.string b)) = (a = b) := propext ((Wk_v rfl).trans ⟨fun h => Value.string.inj h, fun h => by rw [h]⟩)
theorem Wk_full (s : Nat) (f : Bool) (xs : List DV) : Wk (.sl s f xs) (.sl s false xs) = True := eq_true (.full s f xs)
theorem Wk_nil (s s' : Nat) (f : Bool) : Wk (.sl s true []) (.sl s' f []) = True := eq_true (.nil s s' f)
section
variable {P : Program} {w0 : W0}
theorem acall_use {f : FuncId} {args args' : List DV} {S : St} {K K' : DV → St → Prop} (h : ACall P w0 f args' S K') (ha : WkL args args') (hk : ∀ d S', K' d S' → ∃ e, Wk d e ∧ K e S') : ACall P w0 f args S K :=
 fun g vs w h1 h2 => (h g vs w h1 (ha.spec h2)).mono fun e w' ⟨r, g', d, S', q1, q2, q3, q4, q5⟩ =>
  let ⟨e', k1, k2⟩ := hk _ _ q5
  ⟨r, g', e', S', q1, q2, q3, k1 _ _ q4, k2⟩
theorem acall_one {f : FuncId} {args args' : List DV} {S : St} {K : DV → St → Prop} {r : DV} (h : ACall P w0 f args' S (fun d S' => d = r ∧ S' = S)) (ha : WkL args args') (hk : K r S) : ACall P w0 f args S K :=
 acall_use h ha fun d S' ⟨h1, h2⟩ => ⟨d, .refl d, by rw [h1, h2]; exact hk⟩
theorem use1 {f : FuncId} {args args' : List DV} {S : St} {K : DV → St → Prop} {r : DV} (h : ACall P w0 f args' S (fun d S' => d = r ∧ S' = S)) (hk : K r S) (ha : WkL args args' := by exact WkL.refl _) : @AC P w0 f args S ⟨K⟩ := acall_one h ha hk
theorem useK {f : FuncId} {args args' : List DV} {S : St} {K K' : DV → St → Prop} (h : ACall P w0 f args' S K') (hk : ∀ d S', K' d S' → K d S') (ha : WkL args args' := by exact WkL.refl _) : @AC P w0 f args S ⟨K⟩ := acall_use h ha fun d S' q => ⟨d, .refl d, hk d S' q⟩
theorem useQ {f : FuncId} {args args' : List DV} {S : St} {K : DV → Prop} {r : DV} (h : ACall P w0 f args' S (fun d S' => d = r ∧ S' = S)) (hk : K r) (ha : WkL args args' := by exact WkL.refl _) : @QC P w0 f args S ⟨K⟩ :=
 ⟨r, acall_one h ha ⟨rfl, rfl⟩, hk⟩
structure Sub (S S' : St) : Prop where
 box : S.box.Sublist S'.box
 acc : S.acc.Sublist S'.acc
theorem Sub.refl (S : St) : Sub S S := ⟨List.Sublist.refl _, List.Sublist.refl _⟩
theorem Sub.consB {S : St} {B : List (Nat × List DV)} {A : List (Nat × Ob)} {x : Nat × List DV} (h : Sub S ⟨B, A⟩) : Sub S ⟨x :: B, A⟩ := ⟨h.box.cons _, h.acc⟩
theorem Sub.consA {S : St} {B : List (Nat × List DV)} {A : List (Nat × Ob)} {x : Nat × Ob} (h : Sub S ⟨B, A⟩) : Sub S ⟨B, x :: A⟩ := ⟨h.box, h.acc.cons _⟩
theorem Sub.bothB {B B' : List (Nat × List DV)} {A A' : List (Nat × Ob)} {x : Nat × List DV} (h : Sub ⟨B, A⟩ ⟨B', A'⟩) : Sub ⟨x :: B, A⟩ ⟨x :: B', A'⟩ := ⟨h.box.cons_cons _, h.acc⟩
theorem Sub.bothA {B B' : List (Nat × List DV)} {A A' : List (Nat × Ob)} {x : Nat × Ob} (h : Sub ⟨B, A⟩ ⟨B', A'⟩) : Sub ⟨B, x :: A⟩ ⟨B', x :: A'⟩ := ⟨h.box, h.acc.cons_cons _⟩
theorem Sub_refl (S : St) : Sub S S = True := eq_true (.refl S)
theorem Sub_bA {B B' : List (Nat × List DV)} {A A' : List (Nat × Ob)} (x : Nat × Ob) (h : Sub ⟨B, A⟩ ⟨B', A'⟩) : Sub ⟨B, x :: A⟩ ⟨B', x :: A'⟩ = True := eq_true h.bothA
theorem Sub_cB (S : St) {B : List (Nat × List DV)} {A : List (Nat × Ob)} (x : Nat × List DV) (h : Sub S ⟨B, A⟩) : Sub S ⟨x :: B, A⟩ = True := eq_true h.consB
theorem Sub_cA (S : St) {B : List (Nat × List DV)} {A : List (Nat × Ob)} (x : Nat × Ob) (h : Sub S ⟨B, A⟩) : Sub S ⟨B, x :: A⟩ = True := eq_true h.consA
def shrAt : List Nat → List DV → St → (List DV → St → Prop) → Prop
 | [], fr, S, K => K fr S
 | i :: is, fr, S, K => oK (fr[i]?) fun d => shr S d fun d S => shrAt is (fr.set i d) S K
theorem shrAt_nil (fr : List DV) (S : St) (K : List DV → St → Prop) : shrAt [] fr S K = K fr S := rfl
theorem shrAt_cons (i : Nat) (is : List Nat) (fr : List DV) (S : St) (K : List DV → St → Prop) : shrAt (i :: is) fr S K = oK (fr[i]?) fun d => shr S d fun d S => shrAt is (fr.set i d) S K := rfl
theorem shrAt_ok {K : List DV → St → Prop} : ∀ (is : List Nat) {fr : List DV} {S : St} {g : Gh} {w : World} {us : List Value}, Rel w0 g S w → RepL g fr us → shrAt is fr S K → ∃ g' fr' S', g.le g' ∧ Rel w0 g' S' w ∧ RepL g' fr' us ∧ K fr' S'
 | [], fr, S, g, w, us, h1, h2, h => ⟨g, fr, S, .refl g, h1, h2, h⟩
 | i :: is, fr, S, g, w, us, h1, h2, h => by
  unfold shrAt at h
  cases hi : fr[i]? with
  | none => rw [hi] at h; exact h.elim
  | some d =>
   rw [hi, q_oK_some] at h
   have hlt : i < us.length := by rw [← h2.len]; exact (List.getElem?_eq_some_iff.1 hi).1
   have hr := h2.at_ i _ _ hi (List.getElem?_eq_getElem hlt)
   obtain ⟨g1, d', S1, k1, k2, k3, k4⟩ := shr_ok h1 hr h
   obtain ⟨g2, fr2, S2, q1, q2, q3, q4⟩ := shrAt_ok is k2 (repL_same (h2.mono k1) (List.getElem?_eq_getElem hlt) k3) k4
   exact ⟨g2, fr2, S2, k1.trans q1, q2, q3, q4⟩
theorem loopA {σ : Type} (live : List Nat) (vals : σ → List (Nat × DV)) (st : σ → St) (inv : σ → Prop) (meas : σ → Nat) (s0 : σ) {c : Code} {fr : List DV} {S : St} {Q : Exit → List DV → St → Prop}
  (h0 : inv s0 ∧ WkL (wk live fr) (upds (wk live fr) (vals s0)) ∧ Sub (st s0) S)
  (round : ∀ s, inv s → AWp P w0 c (upds (wk live fr) (vals s)) (st s) (thenQ (fun fr' S' => ∃ s', inv s' ∧ meas s' < meas s ∧ WkL (wk live fr') (upds (wk live fr) (vals s')) ∧ Sub (st s') S') Q)) :
  AWp P w0 (.loop c) fr S Q := by
 intro g a w h1 h2 h3
 refine wpA_loop_ind (fun m a w => Dk w0 g.obj a w ∧ ∃ g' s, g.le g' ∧ Rel w0 g' (st s) w ∧ RepL g' (upds (wk live fr) (vals s)) a.tmps.toList ∧ inv s ∧ meas s = m) (m := meas s0) ⟨h3, g, s0, .refl g, h1.forget h0.2.2.box h0.2.2.acc, h0.2.1.spec (repL_wk live h2), h0.1, rfl⟩ ?_
 rintro m a w ⟨hd, g', s, k1, k2, k3, k4, rfl⟩
 refine wpA_mono (round s k4 g' a w k2 k3 (k1.dk hd)) ?_
 rintro e a' w' ⟨hd', g'', fr'', S'', q1, q2, q3, q4⟩
 cases e with
 | normal =>
  obtain ⟨s', hi, hm, hf, hS⟩ := q4
  exact ⟨meas s', hm, k1.kd hd', g'', s', k1.trans q1, q2.forget hS.box hS.acc, hf.spec (repL_wk live q3), hi, rfl⟩
 | exit n => exact ⟨k1.kd hd', g'', fr'', S'', k1.trans q1, q2, q3, q4⟩
 | goto n => exact ⟨k1.kd hd', g'', fr'', S'', k1.trans q1, q2, q3, q4⟩
 | ret => exact ⟨k1.kd hd', g'', fr'', S'', k1.trans q1, q2, q3, q4⟩
 | panic ch => exact ⟨k1.kd hd', g'', fr'', S'', k1.trans q1, q2, q3, q4⟩
 | outgrown => exact ⟨k1.kd hd', g'', fr'', S'', k1.trans q1, q2, q3, q4⟩
theorem loopK {σ : Type} (ss : List Nat := []) (live : List Nat) (vals : σ → List (Nat × DV)) (st : σ → St) (inv : σ → Prop) (meas : σ → Nat) (s0 : σ) {c : Code} {fr : List DV} {S : St} {Q : Exit → List DV → St → Prop} (hm : P.follows .mixedOrders = true) (hc : okC ss c = true)
  (h0 : inv s0 ∧ WkL (wk live fr) (upds (wk live fr) (vals s0)) ∧ Sub (st s0) S)
  (round : ∀ s, inv s → vw P w0 ss c (upds (wk live fr) (vals s)) (st s) (thenQ (fun fr' S' => ∃ s', inv s' ∧ meas s' < meas s ∧ WkL (wk live fr') (upds (wk live fr) (vals s')) ∧ Sub (st s') S') Q)) :
  AWp P w0 (.loop c) fr S Q := loopA live vals st inv meas s0 h0 fun s hs => vw_sound hm c hc (round s hs)
theorem cutK {σ : Type} (ss : List Nat := []) (live : List Nat) (vals : σ → List (Nat × DV)) (st : σ → St) (inv : σ → Prop) {c : Code} {fr : List DV} {S : St} {Q : Exit → List DV → St → Prop} (hm : P.follows .mixedOrders = true) (hc : okC ss c = true)
  (h1 : vw P w0 ss c fr S (thenQ (fun fr' S' => ∃ s, inv s ∧ WkL (wk live fr') (upds (wk live fr) (vals s)) ∧ Sub (st s) S') Q))
  (h2 : ∀ s, inv s → Q .normal (upds (wk live fr) (vals s)) (st s)) : AWp P w0 c fr S Q := by
 intro g a w q1 q2 q3
 refine wpA_mono (vw_sound hm c hc h1 g a w q1 q2 q3) ?_
 rintro e a' w' ⟨hd, g', fr', S', k1, k2, k3, k4⟩
 cases e with
 | normal =>
  obtain ⟨s, hi, hw, hS⟩ := k4
  exact ⟨hd, g', _, _, k1, k2.forget hS.box hS.acc, hw.spec (repL_wk live k3), h2 s hi⟩
 | exit n => exact ⟨hd, g', fr', S', k1, k2, k3, k4⟩
 | goto n => exact ⟨hd, g', fr', S', k1, k2, k3, k4⟩
 | ret => exact ⟨hd, g', fr', S', k1, k2, k3, k4⟩
 | panic ch => exact ⟨hd, g', fr', S', k1, k2, k3, k4⟩
 | outgrown => exact ⟨hd, g', fr', S', k1, k2, k3, k4⟩
theorem rawK (ss : List Nat := []) {c : Code} {fr : List DV} {S : St} {Q : Exit → List DV → St → Prop} (hm : P.follows .mixedOrders = true) (hc : okC ss c = true) (h : vw P w0 ss c fr S Q) : AWp P w0 c fr S Q := vw_sound hm c hc h
theorem loopN (ss : List Nat := []) (n : Nat) (live : List Nat) (vals : Nat → List (Nat × DV)) (st : Nat → St) (inv : Nat → Prop) {c : Code} {fr : List DV} {S : St} {Q : Exit → List DV → St → Prop} (hm : P.follows .mixedOrders = true) (hc : okC ss c = true)
  (h0 : inv 0 ∧ WkL (wk live fr) (upds (wk live fr) (vals 0)) ∧ Sub (st 0) S)
  (round : ∀ k, k ≤ n → inv k → vw P w0 ss c (upds (wk live fr) (vals k)) (st k) (thenQ (fun fr' S' => k < n ∧ inv (k + 1) ∧ WkL (wk live fr') (upds (wk live fr) (vals (k + 1))) ∧ Sub (st (k + 1)) S') Q)) :
  AWp P w0 (.loop c) fr S Q := by
 refine loopA live vals st (fun k => k ≤ n ∧ inv k) (fun k => n - k) 0 ⟨⟨Nat.zero_le _, h0.1⟩, h0.2⟩ ?_
 rintro k ⟨h1, h2⟩
 refine (vw_sound hm c hc (round k h1 h2)).mono ?_
 intro e fr' S' q
 cases e with
 | normal =>
  obtain ⟨q1, q2, q3, q4⟩ := q
  exact ⟨k + 1, ⟨q1, q2⟩, by omega, q3, q4⟩
 | exit n => exact q
 | goto n => exact q
 | ret => exact q
 | panic ch => exact q
 | outgrown => exact q
theorem loopNZ (ss : List Nat := []) (fz : List Nat) (n : Nat) (live : List Nat) (vals : Nat → List (Nat × DV)) (st : Nat → St) (inv : Nat → Prop) {c : Code} {fr : List DV} {S : St} {Q : Exit → List DV → St → Prop} (hm : P.follows .mixedOrders = true) (hc : okC ss c = true)
  (h0 : inv 0 ∧ shrAt fz (wk live fr) S fun fr' S' => WkL fr' (upds (wk live fr) (vals 0)) ∧ Sub (st 0) S')
  (round : ∀ k, k ≤ n → inv k → vw P w0 ss c (upds (wk live fr) (vals k)) (st k) (thenQ (fun fr' S' => k < n ∧ inv (k + 1) ∧ shrAt fz (wk live fr') S' fun fr' S' => WkL fr' (upds (wk live fr) (vals (k + 1))) ∧ Sub (st (k + 1)) S') Q)) :
  AWp P w0 (.loop c) fr S Q := by
 intro g a w h1 h2 h3
 obtain ⟨g0, f0, S0, r1, r2, r3, r4, r5⟩ := shrAt_ok fz h1 (repL_wk live h2) h0.2
 refine wpA_loop_ind (fun m a w => Dk w0 g.obj a w ∧ ∃ g' k, g.le g' ∧ Rel w0 g' (st k) w ∧ RepL g' (upds (wk live fr) (vals k)) a.tmps.toList ∧ (k ≤ n ∧ inv k) ∧ n - k = m) (m := n - 0) ⟨h3, g0, 0, r1, r2.forget r5.box r5.acc, r4.spec r3, ⟨Nat.zero_le _, h0.1⟩, rfl⟩ ?_
 rintro m a w ⟨hd, g', k, k1, k2, k3, k4, rfl⟩
 refine wpA_mono (vw_sound hm c hc (round k k4.1 k4.2) g' a w k2 k3 (k1.dk hd)) ?_
 rintro e a' w' ⟨hd', g'', fr'', S'', q1, q2, q3, q4⟩
 cases e with
 | normal =>
  obtain ⟨hlt, hi, hf⟩ := q4
  obtain ⟨g3, f3, S3, p1, p2, p3, p4, p5⟩ := shrAt_ok fz q2 (repL_wk live q3) hf
  exact ⟨n - (k + 1), by omega, k1.kd hd', g3, k + 1, (k1.trans q1).trans p1, p2.forget p5.box p5.acc, p4.spec p3, ⟨hlt, hi⟩, rfl⟩
 | exit n => exact ⟨k1.kd hd', g'', fr'', S'', k1.trans q1, q2, q3, q4⟩
 | goto n => exact ⟨k1.kd hd', g'', fr'', S'', k1.trans q1, q2, q3, q4⟩
 | ret => exact ⟨k1.kd hd', g'', fr'', S'', k1.trans q1, q2, q3, q4⟩
 | panic ch => exact ⟨k1.kd hd', g'', fr'', S'', k1.trans q1, q2, q3, q4⟩
 | outgrown => exact ⟨k1.kd hd', g'', fr'', S'', k1.trans q1, q2, q3, q4⟩
theorem fnS (ss : List Nat := []) {f : FuncId} {fn : Func} {c : Code} {rs : List ResultVar} {args : List DV} {S : St} {r : DV} (hm : P.follows .mixedOrders = true) (hf : P.funcs[f]? = some fn) (hb : fn.body = some c) (hrs : fn.results = rs.toArray) (hc : okC ss c = true)
  (h : vw P w0 ss c (foldF (args ++ List.replicate (fn.ntmps - args.length) ud)) S fun e fr S' => (e = .normal ∨ e = .ret) ∧ resK P fr S' rs fun d => shrT S' d fun d S'' => Wk d r ∧ Sub S S'') : ACall P w0 f args S (fun d S' => d = r ∧ S' = S) := by
 have h1 : ACall P w0 f args S (fun d S' => shrT S' d fun d S'' => Wk d r ∧ Sub S S'') := acall_of hf hb hrs (vw_sound hm c hc h)
 intro g vs w k1 k2
 refine (h1 g vs w k1 k2).mono ?_
 rintro e w' ⟨v, g', d, S', q1, q2, q3, q4, q5⟩
 obtain ⟨g2, d', S2, p1, p2, p3, p4, p5⟩ := shrT_ok q3 q4 q5
 exact ⟨v, g2, r, S, q1, q2.trans p1, p2.forget p5.box p5.acc, p4 _ _ p3, rfl, rfl⟩
theorem _root_.Aml.Rel.wkBox {g : Gh} {S : St} {w : World} (h : Rel w0 g S w) {b : Nat} {ds ds' : List DV} (hl : lk S.box b = some ds) (hw : ∀ us e, w.heap[b]? = some (.cells us e (0, 0)) → RepL g ds us.toList → RepL g ds' us.toList) : Rel w0 g ⟨up S.box b ds', S.acc⟩ w := by
 refine ⟨h.below, h.imm, by rw [map_up]; exact h.nb, h.na, h.accw, h.fresh, h.top, ?_⟩
 obtain ⟨ow, o1, o2⟩ := h.own
 refine ⟨ow, fun b' e hm => ?_, o2⟩
 rcases mem_up h.nb hm with he | ⟨hm, _⟩
 ·cases he
  obtain ⟨q1, q2, q3, us, e, q4, q5, q6⟩ := o1 _ _ (lk_mem hl)
  exact ⟨q1, q2, q3, us, e, q4, hw _ _ q4 q5, q6⟩
 ·exact o1 _ _ hm
theorem awp_growB (b j s : Nat) (hs : 0 < s) {c : Code} {fr : List DV} {S : St} {Q : Exit → List DV → St → Prop} {ds : List DV} {s0 : Nat} (hb : lk S.box b = some ds) (hi : ds[j]? = some (.sl s0 true []))
  (h : ∀ l : FN S.acc, AWp P w0 c fr ⟨up S.box b (ds.set j (.acc l.n 0)), (l.n, .arr s []) :: S.acc⟩ Q) : AWp P w0 c fr S Q := by
 intro g a w h1 h2 h3
 obtain ⟨ow, o1, o2⟩ := h1.own
 obtain ⟨q1, q2, q3, us, e, q4, q5, q6⟩ := o1 _ _ (lk_mem hb)
 have hlt : j < us.toList.length := by rw [← q5.len]; exact (List.getElem?_eq_some_iff.1 hi).1
 have hr := q5.at_ j _ _ hi (List.getElem?_eq_getElem hlt)
 have hr' : Rep g (.sl s true []) us.toList[j] := by obtain ⟨o', ho'⟩ := rep_full_nil hr; rw [ho']; exact .nil _ _ _ _ fun _ => rfl
 obtain ⟨l, g', hle, hne, hR, hA⟩ := h1.newAcc hs hr' (.arr s []) (.inr ⟨rfl, rfl⟩)
 have hR' := hR.wkBox (ds' := ds.set j (.acc l 0)) (b := b) hb ?_
 ·exact wpA_mono (h ⟨l, nin_of hne⟩ g' a w hR' (h2.mono hle) (hle.dk h3)) fun _ _ _ k => k.of_le hle
 ·intro us' e' hh hr2
  rw [hh] at q4
  cases q4
  exact repL_same hr2 (List.getElem?_eq_getElem hlt) hA
theorem growK (i s : Nat) {c : Code} {fr : List DV} {S : St} {Q : Exit → List DV → St → Prop} {s0 : Nat} (hi : fr[i]? = some (.sl s0 true [])) (hs : 0 < s)
  (h : ∀ l : FN S.acc, AWp P w0 c (fr.set i (.acc l.n 0)) ⟨S.box, (l.n, .arr s []) :: S.acc⟩ Q) : AWp P w0 c fr S Q := awp_grow i s hs hi fun l hl => h ⟨l, hl⟩
theorem shrK (ss : List Nat := []) (is : List Nat) {c : Code} {fr : List DV} {S : St} {Q : Exit → List DV → St → Prop} (hm : P.follows .mixedOrders = true) (hc : okC ss c = true) (h : shrAt is fr S fun fr S => vw P w0 ss c fr S Q) : AWp P w0 c fr S Q := by
 intro g a w h1 h2 h3
 obtain ⟨g', f', S', k1, k2, k3, k4⟩ := shrAt_ok is h1 h2 h
 exact wpA_mono (vw_sound hm c hc k4 g' a w k2 k3 (k1.dk h3)) fun _ _ _ k => k.of_le k1
theorem acall_nil {f : FuncId} {args : List DV} {S : St} {K K' : DV → St → Prop} (h : ACall P w0 f args S K') (s : Nat) (hs : 0 < s)
  (hk : ∀ d S', K' d S' → K d S' ∨ ((∃ s0, d = .sl s0 true []) ∧ ∀ l, nin S'.acc l → K (.acc l 0) ⟨S'.box, (l, .arr s []) :: S'.acc⟩)) : ACall P w0 f args S K := by
 intro g vs w h1 h2
 refine (h g vs w h1 h2).mono ?_
 rintro e w' ⟨r, g', d, S', q1, q2, q3, q4, q5⟩
 rcases hk d S' q5 with h | ⟨⟨s0, rfl⟩, h⟩
 ·exact ⟨r, g', d, S', q1, q2, q3, q4, h⟩
 ·have hr' : Rep g' (.sl s true []) r := by obtain ⟨o', ho'⟩ := rep_full_nil q4; rw [ho']; exact .nil _ _ _ _ fun _ => rfl
  obtain ⟨l, g2, hle, hne, hR, hA⟩ := q3.newAcc hs hr' (.arr s []) (.inr ⟨rfl, rfl⟩)
  exact ⟨r, g2, _, _, q1, q2.trans hle, hR, hA, h l (nin_of hne)⟩
theorem nilK {f : FuncId} {args : List DV} {S : St} {xs : List DV} (s : Nat) (hs : 0 < s) (h : ACall P w0 f args S fun d S' => (xs = [] ∧ (∃ s0, d = .sl s0 true []) ∧ S' = S) ∨ ∃ l : FN S.acc, d = .acc l.n xs.length ∧ S' = ⟨S.box, (l.n, .arr s xs) :: S.acc⟩) :
  ACall P w0 f args S fun d S' => ∃ l : FN S.acc, d = .acc l.n xs.length ∧ S' = ⟨S.box, (l.n, .arr s xs) :: S.acc⟩ := by
 refine acall_nil h s hs ?_
 rintro d S' (⟨rfl, ⟨s0, rfl⟩, rfl⟩ | h)
 ·exact .inr ⟨⟨s0, rfl⟩, fun l hl => ⟨⟨l, hl⟩, rfl, rfl⟩⟩
 ·exact .inl h
end
attribute [go_sem high] Sub_refl Sub_bA
attribute [go_sem low] Wk_agg
attribute [go_sem] WkL_rc Sub_cB Sub_cA WkL_cons WkL_nil Wk_self Wk_int Wk_bool Wk_str Wk_full Wk_nil
attribute [go_sem ↓] shrAt_nil shrAt_cons
structure Wr (P : Prop) : Prop where
 h : P
theorem goW (P : Prop) (w : Wr P) : P := w.h
theorem goS {P Q : Prop}  (q : Q) (e : (P ↔ Q) := by simp (maxDischargeDepth := 12) (maxSteps := 1000000) -implicitDefEqProofs only [go_sem, Nat.reduceAdd, Nat.reduceSub, Nat.reduceMul, Nat.reduceLeDiff, Nat.reduceEqDiff, Nat.reduceGT, Nat.reduceBEq, reduceCtorEq, ↓reduceIte, Int.reduceToNat, Int.reduceLE, Int.reduceLT, Int.reduceNe, Int.reduceEq] <;> exact Iff.rfl) : Wr P := ⟨Iff.mpr e q⟩
theorem goT {P : Prop}  (e : (P ↔ True) := by simp (maxDischargeDepth := 12) (maxSteps := 1000000) -implicitDefEqProofs only [go_sem, Nat.reduceAdd, Nat.reduceSub, Nat.reduceMul, Nat.reduceLeDiff, Nat.reduceEqDiff, Nat.reduceGT, Nat.reduceBEq, reduceCtorEq, ↓reduceIte, Int.reduceToNat, Int.reduceLE, Int.reduceLT, Int.reduceNe, Int.reduceEq]) : Wr P := ⟨of_iff_true e⟩
theorem goS1 {X1 P Q : Prop} (x1 : X1) (q : Q) (e : X1 → (P ↔ Q) := by intro z1; simp (maxDischargeDepth := 12) (maxSteps := 1000000) -implicitDefEqProofs only [go_sem, Nat.reduceAdd, Nat.reduceSub, Nat.reduceMul, Nat.reduceLeDiff, Nat.reduceEqDiff, Nat.reduceGT, Nat.reduceBEq, reduceCtorEq, ↓reduceIte, Int.reduceToNat, Int.reduceLE, Int.reduceLT, Int.reduceNe, Int.reduceEq, z1] <;> exact Iff.rfl) : Wr P := ⟨Iff.mpr (e x1) q⟩
theorem goT1 {X1 P : Prop} (x1 : X1) (e : X1 → (P ↔ True) := by intro z1; simp (maxDischargeDepth := 12) (maxSteps := 1000000) -implicitDefEqProofs only [go_sem, Nat.reduceAdd, Nat.reduceSub, Nat.reduceMul, Nat.reduceLeDiff, Nat.reduceEqDiff, Nat.reduceGT, Nat.reduceBEq, reduceCtorEq, ↓reduceIte, Int.reduceToNat, Int.reduceLE, Int.reduceLT, Int.reduceNe, Int.reduceEq, z1]) : Wr P := ⟨of_iff_true (e x1)⟩
theorem goS2 {X1 X2 P Q : Prop} (x1 : X1) (x2 : X2) (q : Q) (e : X1 → X2 → (P ↔ Q) := by intro z1 z2; simp (maxDischargeDepth := 12) (maxSteps := 1000000) -implicitDefEqProofs only [go_sem, Nat.reduceAdd, Nat.reduceSub, Nat.reduceMul, Nat.reduceLeDiff, Nat.reduceEqDiff, Nat.reduceGT, Nat.reduceBEq, reduceCtorEq, ↓reduceIte, Int.reduceToNat, Int.reduceLE, Int.reduceLT, Int.reduceNe, Int.reduceEq, z1, z2] <;> exact Iff.rfl) : Wr P := ⟨Iff.mpr (e x1 x2) q⟩
theorem goT2 {X1 X2 P : Prop} (x1 : X1) (x2 : X2) (e : X1 → X2 → (P ↔ True) := by intro z1 z2; simp (maxDischargeDepth := 12) (maxSteps := 1000000) -implicitDefEqProofs only [go_sem, Nat.reduceAdd, Nat.reduceSub, Nat.reduceMul, Nat.reduceLeDiff, Nat.reduceEqDiff, Nat.reduceGT, Nat.reduceBEq, reduceCtorEq, ↓reduceIte, Int.reduceToNat, Int.reduceLE, Int.reduceLT, Int.reduceNe, Int.reduceEq, z1, z2]) : Wr P := ⟨of_iff_true (e x1 x2)⟩
theorem goS3 {X1 X2 X3 P Q : Prop} (x1 : X1) (x2 : X2) (x3 : X3) (q : Q) (e : X1 → X2 → X3 → (P ↔ Q) := by intro z1 z2 z3; simp (maxDischargeDepth := 12) (maxSteps := 1000000) -implicitDefEqProofs only [go_sem, Nat.reduceAdd, Nat.reduceSub, Nat.reduceMul, Nat.reduceLeDiff, Nat.reduceEqDiff, Nat.reduceGT, Nat.reduceBEq, reduceCtorEq, ↓reduceIte, Int.reduceToNat, Int.reduceLE, Int.reduceLT, Int.reduceNe, Int.reduceEq, z1, z2, z3] <;> exact Iff.rfl) : Wr P := ⟨Iff.mpr (e x1 x2 x3) q⟩
theorem goT3 {X1 X2 X3 P : Prop} (x1 : X1) (x2 : X2) (x3 : X3) (e : X1 → X2 → X3 → (P ↔ True) := by intro z1 z2 z3; simp (maxDischargeDepth := 12) (maxSteps := 1000000) -implicitDefEqProofs only [go_sem, Nat.reduceAdd, Nat.reduceSub, Nat.reduceMul, Nat.reduceLeDiff, Nat.reduceEqDiff, Nat.reduceGT, Nat.reduceBEq, reduceCtorEq, ↓reduceIte, Int.reduceToNat, Int.reduceLE, Int.reduceLT, Int.reduceNe, Int.reduceEq, z1, z2, z3]) : Wr P := ⟨of_iff_true (e x1 x2 x3)⟩
theorem goS4 {X1 X2 X3 X4 P Q : Prop} (x1 : X1) (x2 : X2) (x3 : X3) (x4 : X4) (q : Q) (e : X1 → X2 → X3 → X4 → (P ↔ Q) := by intro z1 z2 z3 z4; simp (maxDischargeDepth := 12) (maxSteps := 1000000) -implicitDefEqProofs only [go_sem, Nat.reduceAdd, Nat.reduceSub, Nat.reduceMul, Nat.reduceLeDiff, Nat.reduceEqDiff, Nat.reduceGT, Nat.reduceBEq, reduceCtorEq, ↓reduceIte, Int.reduceToNat, Int.reduceLE, Int.reduceLT, Int.reduceNe, Int.reduceEq, z1, z2, z3, z4] <;> exact Iff.rfl) : Wr P := ⟨Iff.mpr (e x1 x2 x3 x4) q⟩
theorem goS5 {X1 X2 X3 X4 X5 P Q : Prop} (x1 : X1) (x2 : X2) (x3 : X3) (x4 : X4) (x5 : X5) (q : Q) (e : X1 → X2 → X3 → X4 → X5 → (P ↔ Q) := by intro z1 z2 z3 z4 z5; simp (maxDischargeDepth := 12) (maxSteps := 1000000) -implicitDefEqProofs only [go_sem, Nat.reduceAdd, Nat.reduceSub, Nat.reduceMul, Nat.reduceLeDiff, Nat.reduceEqDiff, Nat.reduceGT, Nat.reduceBEq, reduceCtorEq, ↓reduceIte, Int.reduceToNat, Int.reduceLE, Int.reduceLT, Int.reduceNe, Int.reduceEq, z1, z2, z3, z4, z5] <;> exact Iff.rfl) : Wr P := ⟨Iff.mpr (e x1 x2 x3 x4 x5) q⟩
theorem goS6 {X1 X2 X3 X4 X5 X6 P Q : Prop} (x1 : X1) (x2 : X2) (x3 : X3) (x4 : X4) (x5 : X5) (x6 : X6) (q : Q) (e : X1 → X2 → X3 → X4 → X5 → X6 → (P ↔ Q) := by intro z1 z2 z3 z4 z5 z6; simp (maxDischargeDepth := 12) (maxSteps := 1000000) -implicitDefEqProofs only [go_sem, Nat.reduceAdd, Nat.reduceSub, Nat.reduceMul, Nat.reduceLeDiff, Nat.reduceEqDiff, Nat.reduceGT, Nat.reduceBEq, reduceCtorEq, ↓reduceIte, Int.reduceToNat, Int.reduceLE, Int.reduceLT, Int.reduceNe, Int.reduceEq, z1, z2, z3, z4, z5, z6] <;> exact Iff.rfl) : Wr P := ⟨Iff.mpr (e x1 x2 x3 x4 x5 x6) q⟩
theorem goS7 {X1 X2 X3 X4 X5 X6 X7 P Q : Prop} (x1 : X1) (x2 : X2) (x3 : X3) (x4 : X4) (x5 : X5) (x6 : X6) (x7 : X7) (q : Q) (e : X1 → X2 → X3 → X4 → X5 → X6 → X7 → (P ↔ Q) := by intro z1 z2 z3 z4 z5 z6 z7; simp (maxDischargeDepth := 12) (maxSteps := 1000000) -implicitDefEqProofs only [go_sem, Nat.reduceAdd, Nat.reduceSub, Nat.reduceMul, Nat.reduceLeDiff, Nat.reduceEqDiff, Nat.reduceGT, Nat.reduceBEq, reduceCtorEq, ↓reduceIte, Int.reduceToNat, Int.reduceLE, Int.reduceLT, Int.reduceNe, Int.reduceEq, z1, z2, z3, z4, z5, z6, z7] <;> exact Iff.rfl) : Wr P := ⟨Iff.mpr (e x1 x2 x3 x4 x5 x6 x7) q⟩
theorem goS8 {X1 X2 X3 X4 X5 X6 X7 X8 P Q : Prop} (x1 : X1) (x2 : X2) (x3 : X3) (x4 : X4) (x5 : X5) (x6 : X6) (x7 : X7) (x8 : X8) (q : Q) (e : X1 → X2 → X3 → X4 → X5 → X6 → X7 → X8 → (P ↔ Q) := by intro z1 z2 z3 z4 z5 z6 z7 z8; simp (maxDischargeDepth := 12) (maxSteps := 1000000) -implicitDefEqProofs only [go_sem, Nat.reduceAdd, Nat.reduceSub, Nat.reduceMul, Nat.reduceLeDiff, Nat.reduceEqDiff, Nat.reduceGT, Nat.reduceBEq, reduceCtorEq, ↓reduceIte, Int.reduceToNat, Int.reduceLE, Int.reduceLT, Int.reduceNe, Int.reduceEq, z1, z2, z3, z4, z5, z6, z7, z8] <;> exact Iff.rfl) : Wr P := ⟨Iff.mpr (e x1 x2 x3 x4 x5 x6 x7 x8) q⟩
end Aml
namespace Aml
open Go Go.RowKit
section
variable {P : Program} {w0 : W0}
theorem fnP (ss : List Nat := []) {f : FuncId} {fn : Func} {c : Code} {rs : List ResultVar} {args : List DV} {S : St} {K : DV → St → Prop} (hm : P.follows .mixedOrders = true) (hf : P.funcs[f]? = some fn) (hb : fn.body = some c) (hrs : fn.results = rs.toArray) (hc : okC ss c = true)
  (h : vw P w0 ss c (foldF (args ++ List.replicate (fn.ntmps - args.length) ud)) S fun e fr S' => (e = .normal ∨ e = .ret) ∧ resK P fr S' rs fun d => ∃ d' S'', Wk d d' ∧ Sub S'' S' ∧ K d' S'') : ACall P w0 f args S K := by
 have h1 : ACall P w0 f args S (fun d S' => ∃ d' S'', Wk d d' ∧ Sub S'' S' ∧ K d' S'') := acall_of hf hb hrs (vw_sound hm c hc h)
 intro g vs w k1 k2
 refine (h1 g vs w k1 k2).mono ?_
 rintro e w' ⟨v, g', d, S', q1, q2, q3, q4, d', S'', p1, p2, p3⟩
 exact ⟨v, g', d', S'', q1, q2, q3.forget p2.box p2.acc, p1 _ _ q4, p3⟩
theorem wkBoxK (b : Nat) (ds' : List DV) {ds : List DV} {c : Code} {fr : List DV} {S : St} {Q : Exit → List DV → St → Prop} (hb : lk S.box b = some ds) (hw : WkL ds ds') (h : AWp P w0 c fr ⟨up S.box b ds', S.acc⟩ Q) : AWp P w0 c fr S Q :=
 fun g a w h1 h2 h3 => h g a w (h1.wkBox hb fun _ _ _ r => hw.spec r) h2 h3
end
end Aml
namespace Aml
open Go Go.RowKit
def kX : Op → Nat
 | .load .. => 1
 | .alloc _ => 2
 | .call c => match c.callee with
  | .value _ => 1
  | .builtin .len => 0
  | .builtin .cap => 0
  | .builtin .min => 0
  | .builtin .max => 0
  | _ => 3
 | .move _ => 0
 | .assign _ => 0
 | .pick .. => 0
 | .fieldAddr .. => 0
 | .indexAddr .. => 0
 | .index .. => 0
 | .field .. => 0
 | .extract .. => 0
 | .nilCheck _ => 0
 | .binOp .. => 0
 | .unOp .. => 0
 | .convert .. => 0
 | .makeInterface .. => 0
 | .makeFunc .. => 0
 | .slice .. => 0
 | .build .. => 0
 | .buildSlice .. => 0
 | _ => 3
def Fr (S : St) (B : List (Nat × List DV)) : Prop := ∀ x, x ∈ B → nin S.box x.1
def bodyX (P : Program) (w0 : W0) (o : Oper) (fr : List DV) (S : St) (K : List DV → St → Prop) : Prop :=
 (kX o.op = 0 ∧ ∃ d, (∀ S', QY P w0 S' o fr d) ∧ K (pt fr o.dst d) S) ∨
 (kX o.op = 1 ∧ ∃ d, (∀ B, Fr S B → QY P w0 ⟨B ++ S.box, S.acc⟩ o fr d) ∧ K (pt fr o.dst d) S) ∨
 (kX o.op = 2 ∧ ∃ t, o.op = .alloc t ∧ okE (zD P t) = true ∧ ∀ b, nin S.box b → K (pt fr o.dst (.v (.pointer (some ⟨b, 0, none⟩)))) ⟨(b, cd (zD P t)) :: S.box, S.acc⟩) ∨
 (kX o.op = 3 ∧ YieldsE P w0 o (ev fr) S fun d S' => K (pt fr o.dst d) S')
def tauX (P : Program) (w0 : W0) (ops : Array Oper) (o : Oper) (fr : List DV) (S : St) (K : List DV → St → Prop) : Prop :=
 (wantB ops fr o.guard = some true ∧ bodyX P w0 o fr S K) ∨ (wantB ops fr o.guard = some false ∧ K (pt fr o.dst ud) S)
def okP (a b : Nat) : Bool := a == 0 || (a == 1 && decide (b < 3))
section
variable {P : Program} {w0 : W0} {ops : Array Oper} {md : Region.Mode}
theorem bodyX_mono {o : Oper} {fr : List DV} {S : St} {K K' : List DV → St → Prop} (h : ∀ fr S, K fr S → K' fr S) (b : bodyX P w0 o fr S K) : bodyX P w0 o fr S K' := by
 rcases b with ⟨c, d, q, k⟩ | ⟨c, d, q, k⟩ | ⟨c, t, ht, hz, k⟩ | ⟨c, q⟩
 ·exact .inl ⟨c, d, q, h _ _ k⟩
 ·exact .inr (.inl ⟨c, d, q, h _ _ k⟩)
 ·exact .inr (.inr (.inl ⟨c, t, ht, hz, fun b hb => h _ _ (k b hb)⟩))
 ·exact .inr (.inr (.inr ⟨c, yields_mono (fun d S hk => h _ _ hk) q⟩))
theorem tauX_mono {o : Oper} {fr : List DV} {S : St} {K K' : List DV → St → Prop} (h : ∀ fr S, K fr S → K' fr S) (b : tauX P w0 ops o fr S K) : tauX P w0 ops o fr S K' :=
 b.imp (fun ⟨a, b⟩ => ⟨a, bodyX_mono h b⟩) fun ⟨a, b⟩ => ⟨a, h _ _ b⟩
theorem bodyX_put {o : Oper} {fr : List DV} {S : St} {K : List DV → St → Prop} {dst : Option Tmp} {e : DV} (h1 : ∀ t, dst = some t → t ∉ o.looksAt ops) (h2 : ∀ t, dst = some t → o.dst ≠ some t) :
  bodyX P w0 o (pt fr dst e) S K ↔ bodyX P w0 o fr S fun fr' S' => K (pt fr' dst e) S' := by
 have hq : ∀ S d, QY P w0 S o (pt fr dst e) d ↔ QY P w0 S o fr d := fun S d =>
  ⟨yields_congr (fun x hx => ev_put (ops := ops) h1 x hx), yields_congr (fun x hx => (ev_put (ops := ops) h1 x hx).symm)⟩
 have hc : ∀ d, pt (pt fr dst e) o.dst d = pt (pt fr o.dst d) dst e := fun d => pt_comm fr e d h2
 have hy : ∀ K, YieldsE P w0 o (ev (pt fr dst e)) S K ↔ YieldsE P w0 o (ev fr) S K := fun K =>
  ⟨yields_congr (fun x hx => ev_put (ops := ops) h1 x hx), yields_congr (fun x hx => (ev_put (ops := ops) h1 x hx).symm)⟩
 unfold bodyX
 simp only [hq, hc, hy]
theorem tauX_put {o : Oper} {fr : List DV} {S : St} {K : List DV → St → Prop} {dst : Option Tmp} {e : DV} (h1 : ∀ t, dst = some t → t ∉ o.looksAt ops) (h2 : ∀ t, dst = some t → o.dst ≠ some t) :
  tauX P w0 ops o (pt fr dst e) S K ↔ tauX P w0 ops o fr S fun fr' S' => K (pt fr' dst e) S' := by
 unfold tauX
 rw [want_put h1, bodyX_put h1 h2, pt_comm fr e ud h2]
theorem bodyX_monoP {o : Oper} {fr : List DV} {S : St} {K K' : List DV → St → Prop} (h : ∀ e S, K (pt fr o.dst e) S → K' (pt fr o.dst e) S) (b : bodyX P w0 o fr S K) : bodyX P w0 o fr S K' := by
 rcases b with ⟨c, d, q, k⟩ | ⟨c, d, q, k⟩ | ⟨c, t, ht, hz, k⟩ | ⟨c, q⟩
 ·exact .inl ⟨c, d, q, h _ _ k⟩
 ·exact .inr (.inl ⟨c, d, q, h _ _ k⟩)
 ·exact .inr (.inr (.inl ⟨c, t, ht, hz, fun b hb => h _ _ (k b hb)⟩))
 ·exact .inr (.inr (.inr ⟨c, yields_mono (fun d S hk => h _ _ hk) q⟩))
theorem tauX_monoP {o : Oper} {fr : List DV} {S : St} {K K' : List DV → St → Prop} (h : ∀ e S, K (pt fr o.dst e) S → K' (pt fr o.dst e) S) (b : tauX P w0 ops o fr S K) : tauX P w0 ops o fr S K' :=
 b.imp (fun ⟨a, b⟩ => ⟨a, bodyX_monoP h b⟩) fun ⟨a, b⟩ => ⟨a, h _ _ b⟩
theorem tauX_comm {x y : Oper} (hap : x.apart ops y = true) (hk : okP (kX x.op) (kX y.op) = true) {fr : List DV} {S : St} {K : List DV → St → Prop} (h : tauX P w0 ops x fr S fun fr S => tauX P w0 ops y fr S K) :
  tauX P w0 ops y fr S fun fr S => tauX P w0 ops x fr S K := by
 obtain ⟨b1, b2, b3⟩ := Oper.apart_spec hap
 have hw : ∀ e, wantB ops (pt fr y.dst e) x.guard = wantB ops fr x.guard := fun e => want_put b3
 have hq : ∀ {S d e}, QY P w0 S x fr d → QY P w0 S x (pt fr y.dst e) d := fun {S d e} q => yields_congr (fun z hz => (ev_put (ops := ops) b3 z hz).symm) q
 rcases h with ⟨hg, hb⟩ | ⟨hg, hb⟩
 ·rcases hb with ⟨c, d, q, k⟩ | ⟨c, d, q, k⟩ | ⟨c, -⟩ | ⟨c, -⟩
  ·rw [tauX_put b1 b2] at k
   exact tauX_monoP (fun e S' hk => .inl ⟨by rw [hw]; exact hg, .inl ⟨c, d, fun S'' => hq (q S''), hk⟩⟩) k
  ·rw [tauX_put b1 b2] at k
   rcases k with ⟨g2, k⟩ | ⟨g2, k⟩
   ·rcases k with ⟨c2, d2, q2, k⟩ | ⟨c2, d2, q2, k⟩ | ⟨c2, t, ht, hz, k⟩ | ⟨c2, -⟩
    ·exact .inl ⟨g2, .inl ⟨c2, d2, q2, .inl ⟨by rw [hw]; exact hg, .inr (.inl ⟨c, d, fun B hB => hq (q B hB), k⟩)⟩⟩⟩
    ·exact .inl ⟨g2, .inr (.inl ⟨c2, d2, q2, .inl ⟨by rw [hw]; exact hg, .inr (.inl ⟨c, d, fun B hB => hq (q B hB), k⟩)⟩⟩)⟩
    ·refine .inl ⟨g2, .inr (.inr (.inl ⟨c2, t, ht, hz, fun b hb => .inl ⟨by rw [hw]; exact hg, .inr (.inl ⟨c, d, fun B hB => hq ?_, k b hb⟩)⟩⟩))⟩
     have := q (B ++ [(b, cd (zD P t))]) fun z hz' => by
      rcases List.mem_append.1 hz' with h | h
      ·exact (hB z h).2.2
      ·simp only [List.mem_singleton] at h; subst h; exact hb
     rw [List.append_assoc] at this
     exact this
    ·rw [c, c2] at hk; exact absurd hk (by decide)
   ·exact .inr ⟨g2, .inl ⟨by rw [hw]; exact hg, .inr (.inl ⟨c, d, fun B hB => hq (q B hB), k⟩)⟩⟩
  ·rw [c] at hk; simp [okP] at hk
  ·rw [c] at hk; simp [okP] at hk
 ·rw [tauX_put b1 b2] at hb
  exact tauX_monoP (fun e S' hk => .inr ⟨by rw [hw]; exact hg, hk⟩) hb
def tauI (P : Program) (w0 : W0) (ops : Array Oper) (i : Nat) (fr : List DV) (S : St) (K : List DV → St → Prop) : Prop := match ops[i]? with
 | none => K fr S
 | some o => tauX P w0 ops o fr S K
def wpX (P : Program) (w0 : W0) (md : Region.Mode) (ops : Array Oper) (K : List DV → St → Prop) : Nat → Array Bool → List DV → St → Prop
 | 0, listed, fr, S => Region.ready md ops listed = [] ∧ K fr S
 | fuel + 1, listed, fr, S => (Region.ready md ops listed = [] → K fr S) ∧ ∀ i ∈ Region.ready md ops listed, tauI P w0 ops i fr S (wpX P w0 md ops K fuel (listed.setIfInBounds i true))
theorem wpX_first {K : List DV → St → Prop} {i : Nat} {oi : Oper} (hi : ops[i]? = some oi) :
  ∀ (fuel : Nat) (listed : Array Bool) (fr : List DV) (S : St),
   (∀ j oj, ops[j]? = some oj → j ≠ i → listed.getD j true = false → (∀ e ∈ oj.after, Region.binds md e = true → e.on ≠ i) → oi.apart ops oj = true ∧ okP (kX oi.op) (kX oj.op) = true) →
   (∀ l : List Nat, l.Nodup → (∀ k, k ∈ l → listed.getD k true = false) → l.length ≤ fuel + 1) →
   i ∈ Region.ready md ops listed → tauX P w0 ops oi fr S (wpX P w0 md ops K fuel (listed.setIfInBounds i true)) → wpX P w0 md ops K (fuel + 1) listed fr S := by
 intro fuel
 induction fuel with
 | zero =>
  intro listed fr S _ hcnt hr H
  refine ⟨fun h => (by rw [h] at hr; cases hr), fun j hj => ?_⟩
  by_cases hji : j = i
  ·subst hji; unfold tauI; simp only [hi]; exact H
  ·exfalso
   have := hcnt [i, j] (by simp [Ne.symm hji]) fun k hk => by
    simp only [List.mem_cons, List.not_mem_nil, or_false] at hk
    rcases hk with rfl | rfl
    ·exact (mem_ready.1 hr).1
    ·exact (mem_ready.1 hj).1
   simp at this
 | succ fuel ih =>
  intro listed fr S hfree hcnt hr H
  refine ⟨fun h => (by rw [h] at hr; cases hr), fun j hj => ?_⟩
  by_cases hji : j = i
  ·subst hji; unfold tauI; simp only [hi]; exact H
  ·obtain ⟨hjun, oj, hoj, hall⟩ := mem_ready.1 hj
   have hnot : ∀ e ∈ oj.after, Region.binds md e = true → e.on ≠ i := fun e he hb heq => by
    have h1 := hall e he hb
    have h0 := (mem_ready.1 hr).1
    rw [heq] at h1
    rcases Nat.lt_or_ge i listed.size with h' | h'
    ·simp [h'] at h0 h1; rw [h0] at h1; cases h1
    ·simp [Array.getElem?_eq_none h'] at h1
   have h1 : tauX P w0 ops oi fr S fun fr S => tauX P w0 ops oj fr S (wpX P w0 md ops K fuel ((listed.setIfInBounds i true).setIfInBounds j true)) :=
    tauX_mono (fun fr S h => by
     have := h.2 j (ready_mono hj hji)
     unfold tauI at this; simp only [hoj] at this; exact this) H
   have hc := hfree j oj hoj hji hjun hnot
   have h2 := tauX_comm hc.1 hc.2 h1
   have hfree' : ∀ k ok, ops[k]? = some ok → k ≠ i → (listed.setIfInBounds j true).getD k true = false →
     (∀ e ∈ ok.after, Region.binds md e = true → e.on ≠ i) → oi.apart ops ok = true ∧ okP (kX oi.op) (kX ok.op) = true := fun k ok hk hki hun hno => by
    refine hfree k ok hk hki ?_ hno
    by_cases hjk : j = k
    ·subst hjk; exact hjun
    ·rw [getD_set_ne true hjk] at hun; exact hun
   unfold tauI
   simp only [hoj]
   have hcnt' : ∀ l : List Nat, l.Nodup → (∀ k, k ∈ l → (listed.setIfInBounds j true).getD k true = false) → l.length ≤ fuel + 1 := by
    intro l hn hl
    have hjs : j < listed.size := by
     rcases Nat.lt_or_ge j listed.size with h | h
     ·exact h
     ·rw [Array.getD_eq_getD_getElem?, Array.getElem?_eq_none h] at hjun; cases hjun
    have hjl : j ∉ l := fun hj => by
     have := hl j hj
     rw [Array.getD_eq_getD_getElem?, Array.getElem?_setIfInBounds] at this
     simp [hjs] at this
    have := hcnt (j :: l) (List.nodup_cons.2 ⟨hjl, hn⟩) fun k hk => by
     rcases List.mem_cons.1 hk with rfl | hk
     ·exact hjun
     ·have := hl k hk
      rw [getD_set_ne true (show j ≠ k from fun e => hjl (e ▸ hk))] at this
      exact this
    simp at this; omega
   refine tauX_mono (fun fr S h => ih (listed.setIfInBounds j true) fr S hfree' hcnt' (ready_mono hr (Ne.symm hji)) ?_) h2
   rw [Array.setIfInBounds_comm _ _ hji]
   exact h
def freeX (md : Region.Mode) (ops : Array Oper) (listed : Array Bool) (i : Nat) : Bool := (List.range ops.size).all fun j => match ops[i]?, ops[j]? with
 | some oi, some oj => j == i || listed.getD j true || oj.after.any (fun e => Region.binds md e && e.on == i) || (oi.apart ops oj && okP (kX oi.op) (kX oj.op))
 | _, _ => false
def lexX (md : Region.Mode) (ops : Array Oper) : Nat → Nat → Array Bool → Bool
 | 0, _, listed => (Region.ready md ops listed).isEmpty
 | n + 1, k, listed => (Region.ready md ops listed).contains k && freeX md ops listed k && lexX md ops n (k + 1) (listed.setIfInBounds k true)
theorem freeX_spec {listed : Array Bool} {i : Nat} {oi : Oper} (hi : ops[i]? = some oi) (h : freeX md ops listed i = true) : ∀ j oj, ops[j]? = some oj → j ≠ i → listed.getD j true = false → (∀ e ∈ oj.after, Region.binds md e = true → e.on ≠ i) → oi.apart ops oj = true ∧ okP (kX oi.op) (kX oj.op) = true := by
 intro j oj hj hji hun hno
 have hlt : j < ops.size := (Array.getElem?_eq_some_iff.1 hj).1
 have := List.all_eq_true.1 h j (List.mem_range.2 hlt)
 simp only [hi, hj, hun, Bool.or_false, Bool.or_eq_true, beq_iff_eq, Bool.and_eq_true] at this
 rcases this with (h | h) | h
 ·exact absurd h hji
 ·exfalso
  obtain ⟨e, he, h⟩ := Array.any_eq_true'.1 h
  simp only [Bool.and_eq_true, beq_iff_eq] at h
  exact hno e he h.1 h.2
 ·exact h
def LX (P : Program) (w0 : W0) (ops : Array Oper) (K : List DV → St → Prop) : List Oper → List DV → St → Prop
 | [], fr, S => K fr S
 | o :: rest, fr, S => tauX P w0 ops o fr S (LX P w0 ops K rest)
theorem wpX_lex {K : List DV → St → Prop} : ∀ (l : List Oper) (k : Nat) (listed : Array Bool) (fr : List DV) (S : St), (∀ j, l[j]? = ops[k + j]?) →
  (∀ l' : List Nat, l'.Nodup → (∀ k, k ∈ l' → listed.getD k true = false) → l'.length ≤ l.length) →
  lexX md ops l.length k listed = true → LX P w0 ops K l fr S → wpX P w0 md ops K l.length listed fr S
 | [], _, _, _, _, _, _, hB, h => ⟨by simpa [lexX] using hB, h⟩
 | o :: l, k, listed, fr, S, hl, hcnt, hB, h => by
  have h0 : ops[k]? = some o := by simpa using (hl 0).symm
  simp only [List.length_cons, lexX, Bool.and_eq_true] at hB
  obtain ⟨⟨hr, hf⟩, hB'⟩ := hB
  have hr' : k ∈ Region.ready md ops listed := by simpa using hr
  have hun := (mem_ready.1 hr').1
  refine wpX_first h0 l.length listed fr S (freeX_spec h0 hf) (by simpa using hcnt) hr' ?_
  refine tauX_mono (fun fr S h => wpX_lex l (k + 1) _ fr S (fun j => by have := hl (j + 1); simpa [Nat.add_assoc, Nat.add_comm 1 j] using this) ?_ hB' h) h
  intro l' hn hl'
  have hks : k < listed.size := by
   rcases Nat.lt_or_ge k listed.size with h | h
   ·exact h
   ·rw [Array.getD_eq_getD_getElem?, Array.getElem?_eq_none h] at hun; cases hun
  have hkl : k ∉ l' := fun hk => by
   have := hl' k hk
   rw [Array.getD_eq_getD_getElem?, Array.getElem?_setIfInBounds] at this
   simp [hks] at this
  have := hcnt (k :: l') (List.nodup_cons.2 ⟨hkl, hn⟩) fun m hm => by
   rcases List.mem_cons.1 hm with rfl | hm
   ·exact hun
   ·have := hl' m hm
    rw [getD_set_ne true (show k ≠ m from fun e => hkl (e ▸ hm))] at this
    exact this
  simp at this; omega
theorem bodyX_yields {o : Oper} {fr : List DV} {S : St} {K : List DV → St → Prop} (h : bodyX P w0 o fr S K) : YieldsE P w0 o (ev fr) S fun d S' => K (pt fr o.dst d) S' := by
 rcases h with ⟨c, d, q, k⟩ | ⟨c, d, q, k⟩ | ⟨c, t, ht, hz, k⟩ | ⟨c, q⟩
 ·exact yields_mono (fun d' S' h => by rw [h.1, h.2]; exact k) (q S)
 ·have := q [] (fun x hx => by cases hx)
  exact yields_mono (fun d' S' h => by rw [h.1, h.2]; exact k) this
 ·exact y_alloc ht ⟨hz, k⟩
 ·exact q
theorem wpAny_of_X {ro : Option Nat} {g0 : Gh} {Q : Exit → List DV → St → Prop} : ∀ (fuel : Nat) (listed : Array Bool) (fr : List DV) (S : St) (g : Gh) (a : Act) (w : World), g0.le g → Rel w0 g S w → RepL g fr a.tmps.toList → Dk w0 g.obj a w →
  wpX P w0 md ops (fun fr S => Q .normal fr S) fuel listed fr S → wpAnyIn (fz ro) 0 P md ops (Good w0 g0 Q) fuel listed a w
 | 0, listed, fr, S, g, a, w, k, h1, h2, h3, h => ⟨h.1, k.kd h3, g, fr, S, k, h1, h2, h.2⟩
 | fuel + 1, listed, fr, S, g, a, w, k, h1, h2, h3, h => by
  refine ⟨fun h0 => ⟨k.kd h3, g, fr, S, k, h1, h2, h.1 h0⟩, fun i hi => ?_⟩
  have hq := h.2 i hi
  unfold tauI at hq
  unfold wpOpIn
  split
  ·rename_i ho; simp only [ho] at hq; exact wpAny_of_X fuel _ fr S g a w k h1 h2 h3 hq
  ·rename_i o ho
   simp only [ho] at hq
   rcases hq with ⟨hw, hb⟩ | ⟨hw, hk⟩
   ·have hw' := wantB_sound (o := o) h2 hw
    rw [if_pos hw']
    refine wpIn_of_yields (bodyX_yields hb) h1 (fun x _ => rep_ev h2 x) h3 fun g' d' u S' w' k1 k2 k3 k4 k5 => ?_
    exact wpAny_of_X fuel _ _ _ g' _ _ (k.trans k1) k2 (repL_put (h2.mono k1) _ k3) (k1.dk k5) k4
   ·have hw' := wantB_sound (o := o) h2 hw
    rw [if_neg (by simp [hw'])]
    exact ⟨fun _ _ => trivial, wpAny_of_X fuel _ _ _ g _ _ k h1 (repL_put h2 _ (rep_ud g)) (h3.keep (put_defers _ _ _) fun _ _ h _ => h) hk⟩
theorem awp_drawL {id : Nat} {l : List Oper} {fr : List DV} {S : St} {Q : Exit → List DV → St → Prop} (hm : P.follows .mixedOrders = true) (hB : lexX .any l.toArray l.length 0 (Array.replicate l.length false) = true) (h : LX P w0 l.toArray (fun fr S => Q .normal fr S) l fr S) : AWp P w0 (.region id l.toArray true) fr S Q := by
 intro g a w h1 h2 h3
 refine wpA_region_any hm fun ro => ?_
 have hR : Rel w0 g S { w with drawn := w.drawn + 1 } := h1.grow (below_drew w)
 have hcnt : ∀ l' : List Nat, l'.Nodup → (∀ k, k ∈ l' → (Array.replicate l.length false).getD k true = false) → l'.length ≤ l.length := by
  intro l' hn hl
  have hsub : ∀ k, k ∈ l' → k ∈ List.range l.length := fun k hk => by
   have := hl k hk
   rw [List.mem_range]
   rcases Nat.lt_or_ge k l.length with h | h
   ·exact h
   ·rw [Array.getD_eq_getD_getElem?, Array.getElem?_eq_none (by simpa using h)] at this; cases this
  have := hn.length_le_of_subset (l₂ := List.range l.length) hsub
  simpa using this
 have := wpX_lex (P := P) (w0 := w0) (md := .any) (ops := l.toArray) l 0 (Array.replicate l.length false) fr S (by simp) hcnt hB h
 have := wpAny_of_X (ro := ro) (g0 := g) (Q := Q) _ _ fr S g a _ (.refl g) hR h2 (h3.keep rfl fun _ _ h _ => h) this
 simpa using this
theorem pure_det {op : Op} (hk : kX op = 0) {fr : List DV} {S : St} {K : DV → Prop} (h : vcOpQ P w0 op fr S K) : ∃ d, (∀ S', vcOpQ P w0 op fr S' (· = d)) ∧ K d := by
 cases op with
 | move x => exact ⟨_, fun _ => rfl, h⟩
 | assign x => exact ⟨_, fun _ => rfl, h⟩
 | pick c a b => obtain ⟨d, q1, q2⟩ := det_pick h; exact ⟨d, fun _ => q1, q2⟩
 | fieldAddr t x f => obtain ⟨d, q1, q2⟩ := det_field h; exact ⟨d, fun _ => q1, q2⟩
 | indexAddr t x i => obtain ⟨d, q1, q2⟩ := det_evG h; exact ⟨d, fun _ => q1, q2⟩
 | index t x i => obtain ⟨d, q1, q2⟩ := det_index h; exact ⟨d, fun _ => q1, q2⟩
 | field t x f => obtain ⟨d, q1, q2⟩ := det_fieldV h; exact ⟨d, fun _ => q1, q2⟩
 | extract x i => obtain ⟨d, q1, q2⟩ := det_extract h; exact ⟨d, fun _ => q1, q2⟩
 | nilCheck x => exact ⟨_, fun _ => ⟨h.1, rfl⟩, h.2⟩
 | binOp b t x y t' => obtain ⟨d, q1, q2⟩ := det_binA h.2; exact ⟨d, fun _ => ⟨h.1, q1⟩, q2⟩
 | unOp b t x => obtain ⟨d, q1, q2⟩ := det_un h; exact ⟨d, fun _ => q1, q2⟩
 | convert s d x => obtain ⟨d, q1, q2⟩ := det_conv h; exact ⟨d, fun _ => q1, q2⟩
 | makeInterface t x => exact ⟨_, fun _ => ⟨h.1, h.2.1, rfl⟩, h.2.2⟩
 | makeFunc fn a b => obtain ⟨d, q1, q2⟩ := det_func h; exact ⟨d, fun _ => q1, q2⟩
 | slice t x lo hi mx => obtain ⟨d, q1, q2⟩ := det_slice h.2.2; exact ⟨d, fun _ => ⟨h.1, h.2.1, q1⟩, q2⟩
 | build t parts => obtain ⟨d, q1, q2⟩ := det_build h.2; exact ⟨d, fun _ => ⟨h.1, q1⟩, q2⟩
 | buildSlice t len parts => obtain ⟨d, q1, q2⟩ := det_buildSlice h.2; exact ⟨d, fun _ => ⟨h.1, q1⟩, q2⟩
 | call c =>
  obtain ⟨callee, args, ts⟩ := c
  simp only [vcOpQ] at h ⊢
  split at h
  ·split at h
   ·obtain ⟨d, q1, q2⟩ := det_len h
    exact ⟨d, fun _ => by simpa using q1, q2⟩
   ·exact h.elim
  ·split at h
   ·obtain ⟨d, q1, q2⟩ := det_cap h
    exact ⟨d, fun _ => by simpa using q1, q2⟩
   ·exact h.elim
  ·split at h
   ·obtain ⟨d, q1, q2⟩ := det_min h
    exact ⟨d, fun _ => by simpa using q1, q2⟩
   ·exact h.elim
  ·split at h
   ·obtain ⟨d, q1, q2⟩ := det_max h
    exact ⟨d, fun _ => by simpa using q1, q2⟩
   ·exact h.elim
  ·cases hk
  ·cases hk
  ·exact h.elim
 | _ => first | exact h.elim | cases hk
theorem lk_ext {S : St} {B : List (Nat × List DV)} (hB : Fr S B) {b : Nat} {ds : List DV} (h : lk S.box b = some ds) : lk (B ++ S.box) b = some ds := by
 induction B with
 | nil => exact h
 | cons x B ih =>
  have h1 := hB x List.mem_cons_self
  have hne : ¬ x.1 = b := fun e => by rw [e] at h1; rw [nin_lk h1] at h; cases h
  obtain ⟨k, y⟩ := x
  show lk ((k, y) :: (B ++ S.box)) b = _
  rw [q_lk_ne hne]
  exact ih fun z hz => hB z (List.mem_cons_of_mem _ hz)
theorem load_ext {k : TK} {S : St} {x : DV} {K : DV → Prop} {B : List (Nat × List DV)} (hB : Fr S B) (h : vLoad k S x K) : vLoad k ⟨B ++ S.box, S.acc⟩ x K := by
 unfold vLoad at *
 split at h
 ·split at h
  ·rename_i ds hb
   simp only [lk_ext hB hb]
   exact h
  ·exact h.elim
 ·exact h
 ·exact h
 ·exact h.elim
end
def QX (P : Program) (w0 : W0) (f : FuncId) (ds : List DV) (S : St) [K : Cn (DV → Prop)] : Prop := ∃ d, (∀ B, Fr S B → ACall P w0 f ds ⟨B ++ S.box, S.acc⟩ fun d' S' => d' = d ∧ S' = ⟨B ++ S.box, S.acc⟩) ∧ K.k d
def vCallX (P : Program) (w0 : W0) (cal : DV) (ds : List DV) (S : St) (K : DV → Prop) : Prop := match cal with
 | .v (.func (.func f) a cap) => a.size = 0 ∧ okF P f = true ∧ cap.toList.all (fun u => u.oneCell') = true ∧ ds.all naccA = true ∧ @QX P w0 f (ds ++ cap.toList.map .v) S ⟨K⟩
 | _ => False
def opX (P : Program) (w0 : W0) (op : Op) (fr : List DV) (S : St) (K : DV → St → Prop) : Prop := match op with
 | .load t x => vLoad (tk P t) S (ev fr x) (K · S)
 | .alloc t => okE (zD P t) = true ∧ bxK S (zD P t) K
 | .call ⟨.value cal, args, _⟩ => vCallX P w0 (ev fr cal) (args.toList.map (ev fr)) S (K · S)
 | op => selK (kX op == 0) (vcOpQ P w0 op fr S (K · S)) (vcOp P w0 op fr S K)
def vcLX (P : Program) (w0 : W0) (ops : Array Oper) (K : List DV → St → Prop) : List Oper → List DV → St → Prop
 | [], fr, S => K fr S
 | o :: rest, fr, S => guardK ops fr o.guard (fun fr => opX P w0 o.op fr S fun d S' => vcLX P w0 ops K rest (pt fr o.dst d) S') (fun fr => vcLX P w0 ops K rest (pt fr o.dst ud) S)
section
variable {P : Program} {w0 : W0} {ops : Array Oper} {md : Region.Mode}
theorem opX_sound {o : Oper} {fr : List DV} {S : St} {K : List DV → St → Prop} (hs : okSl o.op = true) (h : opX P w0 o.op fr S fun d S' => K (pt fr o.dst d) S') : bodyX P w0 o fr S K := by
 have gen : ∀ (h : selK (kX o.op == 0) (vcOpQ P w0 o.op fr S fun d => K (pt fr o.dst d) S) (vcOp P w0 o.op fr S fun d S' => K (pt fr o.dst d) S')), kX o.op = 0 ∨ kX o.op = 3 → bodyX P w0 o fr S K := by
  intro h hk
  rcases hk with hk | hk
  ·rw [hk] at h
   obtain ⟨d, q1, q2⟩ := pure_det hk (show vcOpQ P w0 o.op fr S fun d => K (pt fr o.dst d) S from h)
   exact .inl ⟨hk, d, fun S' => by
    obtain ⟨d', k1, k2⟩ := vcOpQ_sound hs (q1 S')
    subst k2; exact k1, q2⟩
  ·rw [hk] at h
   exact .inr (.inr (.inr ⟨hk, vcOp_sound hs h⟩))
 cases hop : o.op with
 | load t x =>
  rw [hop] at h hs
  obtain ⟨d, q1, q2⟩ := det_load (show vLoad (tk P t) S (ev fr x) (fun d => K (pt fr o.dst d) S) from h)
  refine .inr (.inl ⟨by rw [hop]; rfl, d, fun B hB => ?_, q2⟩)
  exact vcOp_sound (by rw [hop]; exact hs) (by rw [hop]; simpa [vcOp] using load_ext hB q1)
 | alloc t =>
  rw [hop] at h
  exact .inr (.inr (.inl ⟨by rw [hop]; rfl, t, hop, h.1, h.2⟩))
 | call c =>
  obtain ⟨callee, args, ts⟩ := c
  cases callee with
  | value cal =>
   rw [hop] at h hs
   simp only [opX, vCallX] at h
   split at h
   ·rename_i f a cap hcal
    obtain ⟨h1, h2, h3, h4, d, h5, h6⟩ := h
    refine .inr (.inl ⟨by rw [hop]; rfl, d, fun B hB => ?_, h6⟩)
    exact vcOp_sound (by rw [hop]; exact hs) (by rw [hop]; simp only [vcOp, hcal]; exact vCall_of h1 h3 (by rw [h2, gX_t]; exact callK_id h4 (h5 B hB)))
   ·exact h.elim
  | builtin b =>
   refine gen (by rw [hop] at h ⊢; exact h) ?_
   rw [hop]
   cases b <;> first | exact .inl rfl | exact .inr rfl
  | invoke r m =>
   refine gen (by rw [hop] at h ⊢; exact h) ?_
   rw [hop]; exact .inr rfl
 | _ => refine gen (by rw [hop] at h ⊢; exact h) ?_; rw [hop]; first | exact .inl rfl | exact .inr rfl
theorem vcLX_sound {K : List DV → St → Prop} : ∀ (l : List Oper) {fr : List DV} {S : St}, l.all (fun o => okSl o.op) = true → vcLX P w0 ops K l fr S → LX P w0 ops K l fr S
 | [], fr, S, _, h => h
 | o :: rest, fr, S, hs, h => by
  simp only [List.all_cons, Bool.and_eq_true] at hs
  rcases guardK_want h with ⟨hw, ha⟩ | ⟨hw, hb⟩
  ·exact .inl ⟨hw, bodyX_mono (fun fr S h => vcLX_sound rest hs.2 h) (opX_sound hs.1 ha)⟩
  ·exact .inr ⟨hw, vcLX_sound rest hs.2 hb⟩
def okL (l : List Oper) : Bool := l.all (fun o => okSl o.op) && lexX .any l.toArray l.length 0 (Array.replicate l.length false)
theorem lexK {id : Nat} {l : List Oper} {fr : List DV} {S : St} {Q : Exit → List DV → St → Prop} (hm : P.follows .mixedOrders = true) (hB : okL l = true) (h : vcLX P w0 l.toArray (fun fr S => normF fr fun fr => Q .normal fr S) l fr S) : AWp P w0 (.region id l.toArray true) fr S Q := by
 simp only [okL, Bool.and_eq_true] at hB
 exact awp_drawL hm hB.2 (vcLX_sound l hB.1 h)
theorem useX {f : FuncId} {args args' : List DV} {S : St} {K : DV → Prop} {r : DV} (h : ∀ B, Fr S B → ACall P w0 f args' ⟨B ++ S.box, S.acc⟩ (fun d S' => d = r ∧ S' = ⟨B ++ S.box, S.acc⟩)) (hk : K r) (ha : WkL args args' := by exact WkL.refl _) : @QX P w0 f args S ⟨K⟩ :=
 ⟨r, fun B hB => acall_one (h B hB) ha ⟨rfl, rfl⟩, hk⟩
end
end Aml
namespace Aml
open Go Go.RowKit
section
variable {P : Program} {w0 : W0} {ops : Array Oper} {fr : List DV} {S : St} {rest : List Oper} {dst : Option Tmp} {op : Op} {ty : TypeId} {pos : String} {aft : Array Edge}
section
variable {K : List DV → St → Prop}
theorem x_nil : vcLX P w0 ops K [] fr S = K fr S := rfl
theorem x_none : vcLX P w0 ops K (⟨dst, op, ty, pos, aft, none⟩ :: rest) fr S = opX P w0 op fr S fun d S' => vcLX P w0 ops K rest (pt fr dst d) S' := rfl
end
variable {K : DV → St → Prop}
theorem x_load (t : TypeId) (x : Operand) : opX P w0 (.load t x) fr S K = vLoad (tk P t) S (ev fr x) (K · S) := rfl
theorem x_call (cal : Operand) (a : List Operand) (ts : Array TypeId) : opX P w0 (.call ⟨.value cal, a.toArray, ts⟩) fr S K = vCallX P w0 (ev fr cal) (a.map (ev fr)) S (K · S) := rfl
theorem x_callF (f : FuncId) (a cap : Array Value) (ds : List DV) (K : DV → Prop) : vCallX P w0 (.v (.func (.func f) a cap)) ds S K = (a.size = 0 ∧ okF P f = true ∧ cap.toList.all (fun u => u.oneCell') = true ∧ ds.all naccA = true ∧ @QX P w0 f (ds ++ cap.toList.map .v) S ⟨K⟩) := rfl
@[congr] theorem c_vCallX {cal cal' : DV} {ds ds' : List DV} {S' : St} {K : DV → Prop} (h1 : cal = cal') (h2 : ds = ds') (h3 : S = S') : vCallX P w0 cal ds S K = vCallX P w0 cal' ds' S' K := by cases h1; cases h2; cases h3; rfl
theorem x_move (x : Operand) : opX P w0 (.move x) fr S K = vcOpQ P w0 (.move x) fr S (K · S) := rfl
theorem x_assign (x : Operand) : opX P w0 (.assign x) fr S K = vcOpQ P w0 (.assign x) fr S (K · S) := rfl
theorem x_fieldAddr (t : TypeId) (x : Operand) (f : Nat) : opX P w0 (.fieldAddr t x f) fr S K = vcOpQ P w0 (.fieldAddr t x f) fr S (K · S) := rfl
theorem x_indexAddr (t : TypeId) (x i : Operand) : opX P w0 (.indexAddr t x i) fr S K = vcOpQ P w0 (.indexAddr t x i) fr S (K · S) := rfl
theorem x_extract (x : Operand) (i : Nat) : opX P w0 (.extract x i) fr S K = vcOpQ P w0 (.extract x i) fr S (K · S) := rfl
theorem x_binOp (b : BinOp) (t : TypeId) (x y : Operand) (t' : TypeId) : opX P w0 (.binOp b t x y t') fr S K = vcOpQ P w0 (.binOp b t x y t') fr S (K · S) := rfl
theorem x_build (t : TypeId) (parts : Array (Nat × Operand)) : opX P w0 (.build t parts) fr S K = vcOpQ P w0 (.build t parts) fr S (K · S) := rfl
theorem x_buildSlice (t : TypeId) (len : Nat) (parts : Array (Nat × Operand)) : opX P w0 (.buildSlice t len parts) fr S K = vcOpQ P w0 (.buildSlice t len parts) fr S (K · S) := rfl
theorem x_store (t : TypeId) (x y : Operand) : opX P w0 (.store t x y) fr S K = vcOp P w0 (.store t x y) fr S K := rfl
theorem x_b_len (a : Array Operand) (ts : Array TypeId) : opX P w0 (.call ⟨.builtin .len, a, ts⟩) fr S K = vcOpQ P w0 (.call ⟨.builtin .len, a, ts⟩) fr S (K · S) := rfl
end
attribute [go_sem ↓] x_nil x_none x_load x_call x_callF x_move x_assign x_fieldAddr x_indexAddr x_extract x_binOp x_build x_buildSlice x_store x_b_len
theorem n_f_beq (b : Bool) : (b == false) = !b := by cases b <;> rfl
attribute [go_sem] n_f_beq
end Aml
