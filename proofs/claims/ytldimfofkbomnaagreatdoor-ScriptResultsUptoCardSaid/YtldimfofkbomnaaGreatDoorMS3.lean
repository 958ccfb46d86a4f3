/-
  The equations by which the reckoning goes: each for one form of value; Statements whose order Go leaves open: where each operation hands back one abstract value and leaves the store, every order serves. By an AI agent.
-/
import Derived.Test.YtldimfofkbomnaaGreatDoorMS2
import Derived.Still
set_option linter.unusedVariables false
set_option linter.unusedSimpArgs false
set_option maxRecDepth 100000
set_option maxHeartbeats 16000000
namespace Aml
open Go Go.RowKit
def elK (xs : List DV) (i : Nat) (F : DV → Prop) : Prop := ∀ d, xs[i]? = some d → okE d = true ∧ F d
def exK (xs : List DV) (i : Nat) (F : DV → Prop) : Prop := ∃ d, xs[i]? = some d ∧ okE d = true ∧ F d
theorem q_el_map {α : Type} (f : α → DV) (l : List α) (i : Nat) (F : DV → Prop) : elK (List.map f l) i F = ∀ a, l[i]? = some a → okE (f a) = true ∧ F (f a) := by
 unfold elK
 refine propext ⟨fun h a ha => h _ (by rw [List.getElem?_map, ha]; rfl), fun h d hd => ?_⟩
 rw [List.getElem?_map, Option.map_eq_some_iff] at hd
 obtain ⟨a, ha, rfl⟩ := hd
 exact h a ha
theorem q_el_zero (x : DV) (xs : List DV) (F : DV → Prop) : elK (x :: xs) 0 F = (okE x = true ∧ F x) := by simp [elK]
theorem q_okE_v (u : Value) : okE (.v u) = true := rfl
theorem q_okE_agg (ds : List DV) : okE (.agg ds) = true := rfl
theorem q_okE_acc (l n : Nat) : okE (.acc l n) = true := rfl
theorem q_cd_v (u : Value) : cd (.v u) = [.v u] := rfl
theorem q_cd_agg (ds : List DV) : cd (.agg ds) = ds := rfl
theorem q_cd_acc (l n : Nat) : cd (.acc l n) = [.acc l n] := rfl
theorem q_lk_same {α : Type} (k : Nat) (x : α) (t : List (Nat × α)) : lk ((k, x) :: t) k = some x := by simp [lk]
theorem q_lk_ne {α : Type} {k n : Nat} (h : ¬ k = n) (x : α) (t : List (Nat × α)) : lk ((k, x) :: t) n = lk t n := by simp [lk, h]
theorem q_up_same {α : Type} (k : Nat) (x y : α) (t : List (Nat × α)) : up ((k, x) :: t) k y = (k, y) :: t := by simp [up]
theorem q_up_ne {α : Type} {k n : Nat} (h : ¬ k = n) (x y : α) (t : List (Nat × α)) : up ((k, x) :: t) n y = (k, x) :: up t n y := by simp [up, h]
section
variable {P : Program} {w0 : W0} (K : DV → Prop) (K2 : DV → St → Prop) (S : St)
theorem q_ld_int (k : IntKind) (d : DV) (ds : List DV) : ldK (.int k) (d :: ds) K = K d := rfl
theorem q_ld_fn (d : DV) (ds : List DV) : ldK .fn (d :: ds) K = K d := rfl
theorem q_ld_str (d : DV) (ds : List DV) : ldK .str (d :: ds) K = K d := rfl
theorem q_ld_sl (e s b : Nat) (i : Bool) (d : DV) (ds : List DV) : ldK (.sl e s b i) (d :: ds) K = K d := rfl
theorem q_ld_st (fs : List (Nat × Nat × Bool)) (n : Nat) (ds : List DV) : ldK (.st fs n) ds K = (n ≤ ds.length ∧ K (.agg (ds.take n))) := rfl
theorem q_load_ip (k : TK) (ds : List DV) : vLoad k S (.ip ds) K = ldK k ds K := rfl
theorem q_ia_sl (e s b s' : Nat) (f : Bool) (xs : List DV) (k : IntKind) (z : Int) : vIndexAddr (.sl e s b true) (.sl s' f xs) (.v (.int k z)) K = (s' = s ∧ 0 ≤ z ∧ z < xs.length ∧ elK xs z.toNat fun d => K (.ip (cd d))) := rfl
theorem q_ia_arip (len e s nn : Nat) (a : Bool) (ds : List DV) (k : IntKind) (z : Int) : vIndexAddr (.ar len e s a nn) (.ip ds) (.v (.int k z)) K = (0 < s ∧ 0 ≤ z ∧ z < len ∧ z.toNat * s ≤ ds.length ∧ K (.ip (ds.drop (z.toNat * s)))) := rfl
theorem q_index (s : ByteArray) (k : IntKind) (z : Int) : vIndex .str (.v (.string s)) (.v (.int k z)) K = (0 ≤ z ∧ z < s.size ∧ ∀ c, s.data.toList[z.toNat]? = some c → K (.v (.int .u8 c.toNat))) := rfl
theorem q_bin_ii (op : BinOp) (t : TK) (cx cy : Bool) (k k' : IntKind) (m n : Int) : vBin op t cx cy (.v (.int k m)) (.v (.int k' n)) K = (sameKind op k k' = true ∧ vBinI op k m n K) := rfl
theorem q_bin_ss (op : BinOp) (t : TK) (cx cy : Bool) (a b : ByteArray) : vBin op t cx cy (.v (.string a)) (.v (.string b)) K = vBinS op a b K := rfl
theorem q_bin_bn (cx cy a b : Bool) : vBin .neq .one cx cy (.v (.bool a)) (.v (.bool b)) K = K (.v (.bool (!(a == b)))) := rfl
theorem q_bin_nne (m : List String) (cx cy : Bool) : vBin .eql (.ifc m) cx cy (.v .nilIface) (.v .nilIface) K = ((cx || cy) = true ∧ K (.v (.bool true))) := rfl
theorem q_bin_nnn (m : List String) (cx cy : Bool) : vBin .neq (.ifc m) cx cy (.v .nilIface) (.v .nilIface) K = ((cx || cy) = true ∧ K (.v (.bool false))) := rfl
theorem q_bin_ine (m : List String) (cx cy : Bool) (t : TypeId) (d : DV) : vBin .eql (.ifc m) cx cy (.ifc t d) (.v .nilIface) K = K (.v (.bool false)) := rfl
theorem q_bin_inn (m : List String) (cx cy : Bool) (t : TypeId) (d : DV) : vBin .neq (.ifc m) cx cy (.ifc t d) (.v .nilIface) K = K (.v (.bool true)) := rfl
theorem q_un_not (b : Bool) : vUn .not (.v (.bool b)) K = K (.v (.bool (!b))) := rfl
theorem q_un_neg (k : IntKind) (n : Int) : vUn .neg (.v (.int k n)) K = K (.v (.int k (k.wrap (0 - n)))) := rfl
theorem q_conv_i (k0 k k1 : IntKind) (n : Int) : vConv (.int k0) (.int k) (.v (.int k1 n)) K = K (.v (.int k (k.wrap n))) := rfl
theorem q_conv_is (k0 k1 : IntKind) (n : Int) : vConv (.int k0) .str (.v (.int k1 n)) K = K (.v (.string (Utf8.encode n))) := rfl
theorem q_nn_ptr (a : Addr) : notNil (.v (.pointer (some a))) = true := rfl
theorem q_shr1_v (u : Value) : shr1 S (.v u) K2 = K2 (.v u) S := rfl
theorem q_shr1_sl (s : Nat) (f : Bool) (xs : List DV) : shr1 S (.sl s f xs) K2 = K2 (.sl s f xs) S := rfl
theorem q_shr1s_nil (K3 : List DV → St → Prop) : shr1s S [] K3 = K3 [] S := rfl
theorem q_shr1s_cons (d : DV) (ds : List DV) (K3 : List DV → St → Prop) : shr1s S (d :: ds) K3 = shr1 S d fun e S => shr1s S ds fun es S => K3 (e :: es) S := rfl
theorem q_shr_v (u : Value) : shr S (.v u) K2 = K2 (.v u) S := rfl
theorem q_shr_sl (s : Nat) (f : Bool) (xs : List DV) : shr S (.sl s f xs) K2 = K2 (.sl s f xs) S := rfl
theorem q_shr_ifc (t : TypeId) (d : DV) : shr S (.ifc t d) K2 = K2 (.ifc t d) S := rfl
theorem q_shr_acc (l n : Nat) : shr S (.acc l n) K2 = shr1 S (.acc l n) K2 := rfl
theorem q_shr_agg (ds : List DV) : shr S (.agg ds) K2 = shr1s S ds fun ds S => K2 (.agg ds) S := rfl
theorem q_shrs_nil (K3 : List DV → St → Prop) : shrs S [] K3 = K3 [] S := rfl
theorem q_shrs_cons (d : DV) (ds : List DV) (K3 : List DV → St → Prop) : shrs S (d :: ds) K3 = shr S d fun e S => shrs S ds fun es S => K3 (e :: es) S := rfl
theorem q_shrT_v (u : Value) : shrT S (.v u) K2 = K2 (.v u) S := rfl
theorem q_shrT_sl (s : Nat) (f : Bool) (xs : List DV) : shrT S (.sl s f xs) K2 = K2 (.sl s f xs) S := rfl
theorem q_shrT_acc (l n : Nat) : shrT S (.acc l n) K2 = shr1 S (.acc l n) K2 := rfl
theorem q_shrT_tup (ds : List DV) : shrT S (.tup ds) K2 = shrs S ds fun ds S => K2 (.tup ds) S := rfl
theorem q_bnd_none (z : Int) (K4 : Int → Prop) : bnd none z K4 = K4 z := rfl
theorem q_bnd_some (k : IntKind) (n z : Int) (K4 : Int → Prop) : bnd (some (.v (.int k n))) z K4 = K4 n := rfl
theorem q_slice_sl (e s b s' : Nat) (f : Bool) (xs : List DV) (lo hi mx : Option DV) : vSlice (.sl e s b true) (.sl s' f xs) lo hi mx K = ((s' = s ∨ xs = []) ∧ bnd lo 0 fun l => bnd hi xs.length fun h => bnd mx h fun m => 0 ≤ l ∧ l ≤ h ∧ h ≤ m ∧ m ≤ xs.length ∧
   K (.sl s (if mx.isSome then decide (m = h) else (f && (hi.isNone || xs.isEmpty))) ((xs.take h.toNat).drop l.toNat))) := rfl
theorem q_slice_str (s : ByteArray) (lo hi mx : Option DV) : vSlice .str (.v (.string s)) lo hi mx K = (mx.isNone = true ∧ bnd lo 0 fun l => bnd hi s.size fun h => 0 ≤ l ∧ l ≤ h ∧ h ≤ s.size ∧ K (.v (.string (s.extract l.toNat h.toNat)))) := rfl
theorem q_len_sl (e s b : Nat) (i : Bool) (s' : Nat) (f : Bool) (xs : List DV) : vLen (.sl e s b i) (.sl s' f xs) K = K (.v (.int .i64 xs.length)) := rfl
theorem q_len_str (s : ByteArray) : vLen .str (.v (.string s)) K = K (.v (.int .i64 s.size)) := rfl
theorem q_min (k k' : IntKind) (m n : Int) : vMin (.v (.int k m)) (.v (.int k' n)) K = K (.v (.int k (if n < m then n else m))) := rfl
theorem q_sliceX_sl (k : TK) (s : Nat) (f : Bool) (xs : List DV) (lo hi mx : Option DV) : vSliceX k S (.sl s f xs) lo hi mx K2 = vSlice k (.sl s f xs) lo hi mx (K2 · S) := rfl
theorem q_sliceX_v (k : TK) (u : Value) (lo hi mx : Option DV) : vSliceX k S (.v u) lo hi mx K2 = vSlice k (.v u) lo hi mx (K2 · S) := rfl
theorem q_isNilC_t (t : Nat) : isNilC (.tmp t) = false := rfl
theorem q_isNilC_i (k : IntKind) (n : Int) : isNilC (.const (.int k n)) = false := rfl
theorem q_isNilC_s (s : ByteArray) : isNilC (.const (.string s)) = false := rfl
theorem q_isNilC_f : isNilC (.const .nilIface) = false := rfl
theorem q_storeX_v (n : Nat) (u : Value) (y : DV) (K5 : St → Prop) : vStoreX n S (.v u) y K5 = vStore n S (.v u) y K5 := rfl
theorem q_cont_sl (s : Nat) (f : Bool) (xs : List DV) (K6 : Nat → List DV → Prop) : contK S (.sl s f xs) K6 = K6 s xs := rfl
theorem q_append (e s b : Nat) (k2 : TK) (x y : DV) : vAppend (.sl e s b true) k2 S x y K2 = (notInt k2 = true ∧ contK S y fun s2 ys => (s2 = s ∨ ys = []) ∧ vApp s b S x ys K2) := rfl
theorem q_app_cons (s0 s by' : Nat) (x : DV) (xs ys : List DV) : vApp s by' S (.sl s0 true (x :: xs)) ys K2 = (s0 = s ∧ ((x :: xs).length + ys.length) * by' ≤ 140737488355328 ∧ (x :: xs).length + ys.length ≤ maxLen ∧ ∀ l, nin S.acc l → K2 (.acc l ((x :: xs) ++ ys).length) ⟨S.box, (l, .tl s ((x :: xs) ++ ys)) :: S.acc⟩) := rfl
theorem q_call (f : FuncId) (a cap : Array Value) (ds : List DV) : vCall P w0 (.v (.func (.func f) a cap)) ds S K2 = (cap.toList.all (fun u => u.oneCell') = true ∧ fstK a (gX (okF P f) (callK S ds fun ds S => @AC P w0 f (ds ++ cap.toList.map .v) S ⟨K2⟩) (@XC P w0 f (ds ++ cap.toList.map .v) S ⟨K2⟩)) fun us => okF P f = true ∧ callK S ds fun ds S => @AC P w0 f (us.map .v ++ (ds ++ cap.toList.map .v)) S ⟨K2⟩) := rfl
theorem q_fst_nil (A : Prop) (B : List Value → Prop) : fstK #[] A B = A := rfl
theorem q_hasAcc_nil : hasAcc [] = false := rfl
theorem q_hasAcc_acc (l n : Nat) (ds : List DV) : hasAcc (.acc l n :: ds) = true := rfl
theorem q_hasAcc_v (u : Value) (ds : List DV) : hasAcc (.v u :: ds) = hasAcc ds := rfl
theorem q_hasAcc_sl (s : Nat) (f : Bool) (xs ds : List DV) : hasAcc (.sl s f xs :: ds) = hasAcc ds := rfl
theorem q_hasAcc_agg (xs ds : List DV) : hasAcc (.agg xs :: ds) = hasAcc ds := rfl
theorem q_hasAcc_ifc (t : TypeId) (d : DV) (ds : List DV) : hasAcc (.ifc t d :: ds) = hasAcc ds := rfl
theorem q_res_tmp (fr : List DV) (t : Nat) : resK1 P fr S K (.tmp t) = K (fr.getD t ud) := rfl
theorem q_res_cell (fr : List DV) (a t : Nat) : resK1 P fr S K (.cell a t) = vLoad (tk P t) S (fr.getD a ud) K := rfl
theorem q_resK_one (fr : List DV) (r : ResultVar) : resK P fr S [r] K = resK1 P fr S K r := rfl
theorem q_resK_nil (fr : List DV) : resK P fr S [] K = K (.tup []) := rfl
theorem q_resK_two (fr : List DV) (r r' : ResultVar) (rs : List ResultVar) : resK P fr S (r :: r' :: rs) K = resKs P fr S (r :: r' :: rs) fun ds => K (.tup ds) := rfl
end
theorem q_oK_some {α : Type} (a : α) (F : α → Prop) : oK (some a) F = F a := rfl
def bK : Option Ob → (Nat → List DV → Prop) → (Nat → List DV → Prop) → Prop
 | some (.arr s xs), F, _ => F s xs
 | some (.tl s xs), _, G => G s xs
 | _, _, _ => False
theorem q_bK_arr (s : Nat) (xs : List DV) (F G : Nat → List DV → Prop) : bK (some (.arr s xs)) F G = F s xs := rfl
theorem q_bK_tl (s : Nat) (xs : List DV) (F G : Nat → List DV → Prop) : bK (some (.tl s xs)) F G = G s xs := rfl
def fiK (p : Option (Nat × Nat × Bool)) (x : DV) (K : DV → Prop) : Prop := match p with
 | some (off, sz, _) => sz ≠ 0 ∧ (match x with
   | .v (.pointer (some ⟨b, o, none⟩)) => K (.v (.pointer (some ⟨b, o + off, none⟩)))
   | .ip ds => off ≤ ds.length ∧ K (.ip (ds.drop off))
   | .ap l n s i o => K (.ap l n s i (o + off))
   | _ => False)
 | none => False
def fvK (p : Option (Nat × Nat × Bool)) (ds : List DV) (K : DV → Prop) : Prop := match p with
 | some (off, sz, true) => off + sz ≤ ds.length ∧ K (.agg ((ds.drop off).take sz))
 | some (off, sz, false) => off + sz ≤ ds.length ∧ oK (ds[off]?) K
 | none => False
def gD (t : Nat) (d : DV) (fr : List DV) (want : Bool) (A B : List DV → Prop) : Prop := match d with
 | .v (.bool b) => (b = want → A (fr.set t (.v (.bool want)))) ∧ (b = !want → B (fr.set t (.v (.bool !want))))
 | .tup [] => B fr
 | _ => False
def gK (t : Option Tmp) (fr : List DV) (want : Bool) (A B : List DV → Prop) : Prop := match t with
 | none => B fr
 | some t => gD t (fr.getD t ud) fr want A B
def buK (k : TK) (z : DV) (parts : List (Nat × DV)) (K : DV → Prop) : Prop := match k, z with
 | .st fs _, .agg zs => oK (fillD fs zs parts) fun ds => K (.agg ds)
 | _, _ => False
section
variable {P : Program} {w0 : W0} (K : DV → Prop) (K2 : DV → St → Prop) (S : St)
theorem q_load_box (k : TK) (b o : Nat) : vLoad k S (.v (.pointer (some ⟨b, o, none⟩))) K = oK (lk S.box b) fun ds => ldK k (ds.drop o) K := by
 cases h : lk S.box b <;> simp [vLoad, oK, h]
theorem q_isRow_sl (s : Nat) (f : Bool) (xs : List DV) : isRow (.sl s f xs) = false := rfl
theorem q_isRow_acc (l n : Nat) : isRow (.acc l n) = false := rfl
theorem q_field (fs : List (Nat × Nat × Bool)) (n f : Nat) (x : DV) : vField (.st fs n) f x K = fiK (fs[f]?) x K := by
 cases h : fs[f]? <;> simp only [vField, fiK, h] <;> cases x <;> rfl
theorem q_fi_ptr (off sz b o : Nat) (ag : Bool) : fiK (some (off, sz, ag)) (.v (.pointer (some ⟨b, o, none⟩))) K = (sz ≠ 0 ∧ K (.v (.pointer (some ⟨b, o + off, none⟩)))) := rfl
theorem q_fi_ip (off sz : Nat) (ag : Bool) (ds : List DV) : fiK (some (off, sz, ag)) (.ip ds) K = (sz ≠ 0 ∧ off ≤ ds.length ∧ K (.ip (ds.drop off))) := rfl
theorem q_extract (i : Nat) (ds : List DV) : vExtract i (.tup ds) K = oK (ds[i]?) K := by
 cases h : ds[i]? <;> simp [vExtract, oK, h]
theorem q_shr1_acc (l n : Nat) : shr1 S (.acc l n) K2 = bK (lk S.acc l) (fun s xs => xs.length = n ∧ K2 (.sl s false xs) ⟨S.box, up S.acc l (.tl s xs)⟩) (fun s xs => xs.length = n ∧ K2 (.sl s false xs) S) := by
 cases h : lk S.acc l with
 | none => simp [shr1, bK, h]
 | some o => cases o <;> simp [shr1, bK, h]
theorem q_store (n b o : Nat) (y : DV) (K5 : St → Prop) : vStore n S (.v (.pointer (some ⟨b, o, none⟩))) y K5 = (okE y = true ∧ (cd y).length = n ∧ oK (lk S.box b) fun ds => o + n ≤ ds.length ∧ K5 ⟨up S.box b (setAll ds o (cd y)), S.acc⟩) := by
 cases h : lk S.box b <;> simp [vStore, oK, h]
theorem q_cont_acc (l n : Nat) (K6 : Nat → List DV → Prop) : contK S (.acc l n) K6 = bK (lk S.acc l) (fun s xs => xs.length = n ∧ K6 s xs) (fun s xs => xs.length = n ∧ K6 s xs) := by
 cases h : lk S.acc l with
 | none => simp [contK, bK, h]
 | some o => cases o <;> simp [contK, bK, h]
theorem q_app_acc (l n s by' : Nat) (ys : List DV) : vApp s by' S (.acc l n) ys K2 = bK (lk S.acc l)
  (fun s' xs => s' = s ∧ xs.length = n ∧ (xs.length + ys.length) * by' ≤ 140737488355328 ∧ xs.length + ys.length ≤ maxLen ∧ K2 (.acc l (xs ++ ys).length) ⟨S.box, up S.acc l (.arr s (xs ++ ys))⟩)
  (fun s' xs => s' = s ∧ xs.length = n ∧ (xs.length + ys.length) * by' ≤ 140737488355328 ∧ xs.length + ys.length ≤ maxLen ∧ K2 (.acc l (xs ++ ys).length) ⟨S.box, up S.acc l (.tl s (xs ++ ys))⟩) := by
 cases h : lk S.acc l with
 | none => simp [vApp, bK, h]
 | some o => cases o <;> simp [vApp, bK, h]
theorem q_guard (ops : Array Oper) (fr : List DV) (j : Nat) (want : Bool) (A B : List DV → Prop) : guardK ops fr (some (j, want)) A B = gK ((ops[j]?).bind (·.dst)) fr want A B := by
 cases h : (ops[j]?).bind (·.dst) <;> simp only [guardK, gK, h] <;> rfl
theorem q_gK_some (t : Nat) (fr : List DV) (want : Bool) (A B : List DV → Prop) : gK (some t) fr want A B = gD t (fr.getD t ud) fr want A B := rfl
theorem q_gD_ud (t : Nat) (fr : List DV) (want : Bool) (A B : List DV → Prop) : gD t ud fr want A B = B fr := rfl
theorem q_func (fn : Fn) (a b : List DV) : vFunc fn a b K = oK (vals a) fun us => oK (vals b) fun vs => K (.v (.func fn us.toArray vs.toArray)) := by
 cases h : vals a <;> cases h' : vals b <;> simp [vFunc, oK, h, h']
theorem q_build (t : TypeId) (parts : List (Nat × DV)) : vBuild P t parts K = buK (tk P t) (zD P t) parts K := by
 cases h : tk P t <;> cases h' : zD P t <;> simp only [vBuild, buK, h, h'] <;> (rename_i fs _ zs; cases h2 : fillD fs zs parts <;> simp [oK])
theorem q_bu (fs : List (Nat × Nat × Bool)) (n : Nat) (zs : List DV) (parts : List (Nat × DV)) : buK (.st fs n) (.agg zs) parts K = oK (fillD fs zs parts) fun ds => K (.agg ds) := rfl
theorem q_bsl (e s b len : Nat) (z : DV) (parts : List (Nat × DV)) : vBuildSlice (.sl e s b true) z len parts K = (okE z = true ∧ (cd z).length = s ∧ len * s ≤ 16777216 ∧ oK (fillE s (List.replicate len z) parts) fun xs => K (.sl s true xs)) := by
 cases h : fillE s (List.replicate len z) parts <;> simp [vBuildSlice, oK, h]
end
end Aml
namespace Aml
open Go Go.RowKit
def QY (P : Program) (w0 : W0) (S : St) (o : Oper) (fr : List DV) (d : DV) : Prop := YieldsE P w0 o (ev fr) S fun d' S' => d' = d ∧ S' = S
def wantB (ops : Array Oper) (fr : List DV) (gd : Option (Nat × Bool)) : Option Bool := match gd with
 | none => some true
 | some (j, want) => match (ops[j]?).bind (·.dst) with
  | none => some false
  | some t => match fr.getD t ud with
   | .v (.bool b) => some (b == want)
   | .tup [] => some false
   | _ => none
def LQ (P : Program) (w0 : W0) (S : St) (ops : Array Oper) (K : List DV → Prop) : List Oper → List DV → Prop
 | [], fr => K fr
 | o :: rest, fr => guardK ops fr o.guard (fun fr => ∃ d, QY P w0 S o fr d ∧ LQ P w0 S ops K rest (pt fr o.dst d)) (fun fr => LQ P w0 S ops K rest (pt fr o.dst ud))
def qOp (P : Program) (w0 : W0) (S : St) (ops : Array Oper) (i : Nat) (K : List DV → Prop) (fr : List DV) : Prop :=
 match ops[i]? with
 | none => K fr
 | some o => (wantB ops fr o.guard = some true ∧ ∃ d, QY P w0 S o fr d ∧ K (pt fr o.dst d)) ∨ (wantB ops fr o.guard = some false ∧ K (pt fr o.dst ud))
def wpAnyD (P : Program) (w0 : W0) (S : St) (md : Region.Mode) (ops : Array Oper) (K : List DV → Prop) : Nat → Array Bool → List DV → Prop
 | 0, listed, fr => Region.ready md ops listed = [] ∧ K fr
 | fuel + 1, listed, fr => (Region.ready md ops listed = [] → K fr) ∧ ∀ i ∈ Region.ready md ops listed, qOp P w0 S ops i (wpAnyD P w0 S md ops K fuel (listed.setIfInBounds i true)) fr
def YD (P : Program) (w0 : W0) (S : St) (ops : Array Oper) (o : Oper) (d : DV) (fr : List DV) : Prop :=
 (wantB ops fr o.guard = some true ∧ QY P w0 S o fr d) ∨ (wantB ops fr o.guard = some false ∧ d = ud)
section
variable {P : Program} {w0 : W0} {S : St} {ops : Array Oper} {md : Region.Mode}
theorem set_same {fr : List DV} {t : Nat} {d : DV} (h : fr.getD t ud = d) (hd : d ≠ ud) : fr.set t d = fr := by
 rcases Nat.lt_or_ge t fr.length with hl | hl
 ·rw [List.getD_eq_getElem?_getD, List.getElem?_eq_getElem hl, Option.getD_some] at h
  rw [← h, List.set_getElem_self]
 ·rw [List.getD_eq_getElem?_getD, List.getElem?_eq_none hl] at h
  exact absurd h.symm hd
theorem guardK_want {fr : List DV} {gd : Option (Nat × Bool)} {A B : List DV → Prop} (h : guardK ops fr gd A B) : (wantB ops fr gd = some true ∧ A fr) ∨ (wantB ops fr gd = some false ∧ B fr) := by
 unfold guardK at h
 unfold wantB
 split at h
 ·exact .inl ⟨rfl, h⟩
 ·rename_i j want
  split at h
  ·rename_i hj
   exact .inr ⟨by simp only [hj], h⟩
  ·rename_i t hj
   simp only [hj]
   split at h
   ·rename_i b hb
    rw [hb]
    by_cases hw : b = want
    ·have := h.1 hw
     rw [← hw, set_same hb (by simp [ud])] at this
     exact .inl ⟨by simp [hw], this⟩
    ·have hw' : b = !want := by cases b <;> cases want <;> simp_all
     have := h.2 hw'
     rw [← hw', set_same hb (by simp [ud])] at this
     exact .inr ⟨by simp [hw], this⟩
   ·rename_i hb
    rw [hb]
    exact .inr ⟨rfl, h⟩
   ·exact h.elim
theorem want_guard {fr : List DV} {gd : Option (Nat × Bool)} {x : Bool} (h : wantB ops fr gd = some x) : guardK ops fr gd (fun _ => x = true) (fun _ => x = false) := by
 unfold wantB at h
 unfold guardK
 split at h
 ·simpa using h.symm
 ·rename_i j want
  split at h
  ·rename_i hj; simp only [hj]; simpa using h.symm
  ·rename_i t hj
   simp only [hj]
   split at h
   ·rename_i b hb
    rw [hb]
    simp only [Option.some.injEq] at h
    exact ⟨fun e => by simp [← h, e], fun e => by simp [← h, e]⟩
   ·rename_i hb; rw [hb]; simpa using h.symm
   ·cases h
theorem wantB_sound {g : Gh} {fr : List DV} {a : Act} {o : Oper} {x : Bool} (hr : RepL g fr a.tmps.toList) (h : wantB ops fr o.guard = some x) : Region.wanted o (yielded ops a.tmps) = x := by
 rcases guard_sound (o := o) hr (want_guard h) with ⟨h1, _, _, h2⟩ | ⟨h1, _, _, h2⟩
 ·rw [h1, h2]
 ·rw [h1, h2]
theorem qOp_mono {i : Nat} {fr : List DV} {K K' : List DV → Prop} (h : ∀ fr, K fr → K' fr) (hh : qOp P w0 S ops i K fr) : qOp P w0 S ops i K' fr := by
 unfold qOp at *
 split
 ·rename_i ho; simp only [ho] at hh; exact h _ hh
 ·rename_i o ho
  simp only [ho] at hh
  rcases hh with ⟨h1, d, h2, h3⟩ | ⟨h1, h2⟩
  ·exact .inl ⟨h1, d, h2, h _ h3⟩
  ·exact .inr ⟨h1, h _ h2⟩
theorem YD.qOp {i : Nat} {o : Oper} {d : DV} {fr : List DV} (hi : ops[i]? = some o) (hy : YD P w0 S ops o d fr) {K : List DV → Prop} (h : K (pt fr o.dst d)) : qOp P w0 S ops i K fr := by
 unfold Aml.qOp
 simp only [hi]
 rcases hy with ⟨h1, h2⟩ | ⟨h1, rfl⟩
 ·exact .inl ⟨h1, d, h2, h⟩
 ·exact .inr ⟨h1, h⟩
theorem yd_of_qOp {i : Nat} {o : Oper} {fr : List DV} {K : List DV → Prop} (hi : ops[i]? = some o) (h : qOp P w0 S ops i K fr) : ∃ d, YD P w0 S ops o d fr ∧ K (pt fr o.dst d) := by
 unfold qOp at h
 simp only [hi] at h
 rcases h with ⟨h1, d, h2, h3⟩ | ⟨h1, h2⟩
 ·exact ⟨d, .inl ⟨h1, h2⟩, h3⟩
 ·exact ⟨ud, .inr ⟨h1, rfl⟩, h2⟩
theorem yields_congr {o : Oper} {ρD ρD' : Operand → DV} {K : DV → St → Prop} (h : ∀ x, x ∈ o.op.operands.toList → ρD x = ρD' x) (hy : YieldsE P w0 o ρD S K) : YieldsE P w0 o ρD' S K :=
 fun g w ρ h1 h2 h3 => hy g w ρ h1 (fun x hx => by rw [h x hx]; exact h2 x hx) h3
theorem getD_set {fr : List DV} {t t' : Nat} {d : DV} (h : t ≠ t') : (fr.set t d).getD t' ud = fr.getD t' ud := by
 simp only [List.getD_eq_getElem?_getD, List.getElem?_set, if_neg h]
theorem ev_put {fr : List DV} {dst : Option Tmp} {d : DV} {o : Oper} (h : ∀ t, dst = some t → t ∉ o.looksAt ops) : ∀ x, x ∈ o.op.operands.toList → ev (pt fr dst d) x = ev fr x := by
 intro x hx
 cases dst with
 | none => rfl
 | some t =>
  cases x with
  | tmp t' =>
   have : t ≠ t' := by
    rintro rfl
    exact h t rfl (List.mem_append_left _ (List.mem_filterMap.2 ⟨.tmp t, hx, rfl⟩))
   exact getD_set this
  | _ => rfl
theorem want_put {fr : List DV} {dst : Option Tmp} {d : DV} {o : Oper} (h : ∀ t, dst = some t → t ∉ o.looksAt ops) : wantB ops (pt fr dst d) o.guard = wantB ops fr o.guard := by
 cases dst with
 | none => rfl
 | some t =>
  unfold wantB
  cases hg : o.guard with
  | none => rfl
  | some gw =>
   obtain ⟨j, want⟩ := gw
   simp only
   cases ht : (ops[j]?).bind (·.dst) with
   | none => rfl
   | some t' =>
    have hne : t ≠ t' := fun e => h t rfl (by subst e; simp [Oper.looksAt, hg, ht])
    simp only [pt]
    rw [getD_set hne]
theorem pt_comm (fr : List DV) {x y : Option Tmp} (d e : DV) (h : ∀ t, x = some t → y ≠ some t) : pt (pt fr x d) y e = pt (pt fr y e) x d := by
 cases x with
 | none => rfl
 | some t =>
  cases y with
  | none => rfl
  | some u =>
   have hne : t ≠ u := fun he => h t rfl (he ▸ rfl)
   simp only [pt]
   exact List.set_comm _ _ hne
theorem YD.put {o : Oper} {d : DV} {fr : List DV} (hy : YD P w0 S ops o d fr) {dst : Option Tmp} {e : DV} (h : ∀ t, dst = some t → t ∉ o.looksAt ops) : YD P w0 S ops o d (pt fr dst e) := by
 unfold YD at *
 rw [want_put h]
 exact hy.imp (fun ⟨a, b⟩ => ⟨a, yields_congr (fun x hx => (ev_put (ops := ops) h x hx).symm) b⟩) id
theorem qOp_put {j : Nat} {oi oj : Oper} {d : DV} (hj : ops[j]? = some oj) (hap : oi.apart ops oj = true) {K : List DV → Prop} {fr : List DV} (hy : YD P w0 S ops oi d fr) (h : qOp P w0 S ops j K (pt fr oi.dst d)) :
  qOp P w0 S ops j (fun fr' => YD P w0 S ops oi d fr' ∧ K (pt fr' oi.dst d)) fr := by
 obtain ⟨h1, h2, h3⟩ := Oper.apart_spec hap
 unfold Aml.qOp at *
 simp only [hj] at *
 rw [want_put h1] at h
 rcases h with ⟨hw, e, hq, hk⟩ | ⟨hw, hk⟩
 ·exact .inl ⟨hw, e, yields_congr (fun x hx => ev_put (ops := ops) h1 x hx) hq, hy.put h3, by rw [← pt_comm fr d e h2]; exact hk⟩
 ·exact .inr ⟨hw, hy.put h3, by rw [← pt_comm fr d ud h2]; exact hk⟩
theorem wpAnyD_first {K : List DV → Prop} {i : Nat} {oi : Oper} {d : DV} (hi : ops[i]? = some oi) :
  ∀ (fuel : Nat) (listed : Array Bool) (fr : List DV),
   (∀ j oj, ops[j]? = some oj → j ≠ i → listed.getD j true = false → (∀ e ∈ oj.after, Region.binds md e = true → e.on ≠ i) → oi.apart ops oj = true) →
   i ∈ Region.ready md ops listed → YD P w0 S ops oi d fr →
   wpAnyD P w0 S md ops K fuel (listed.setIfInBounds i true) (pt fr oi.dst d) → wpAnyD P w0 S md ops K (fuel + 1) listed fr := by
 intro fuel
 induction fuel with
 | zero =>
  intro listed fr _ hr hy H
  refine ⟨fun h => (by rw [h] at hr; cases hr), fun j hj => ?_⟩
  by_cases hji : j = i
  ·subst hji; exact hy.qOp hi H
  ·have := ready_mono hj hji
   rw [H.1] at this
   cases this
 | succ fuel ih =>
  intro listed fr hfree hr hy H
  refine ⟨fun h => (by rw [h] at hr; cases hr), fun j hj => ?_⟩
  by_cases hji : j = i
  ·subst hji; exact hy.qOp hi H
  ·have h1 := H.2 j (ready_mono hj hji)
   obtain ⟨hjun, oj, hoj, hall⟩ := mem_ready.1 hj
   have hnot : ∀ e ∈ oj.after, Region.binds md e = true → e.on ≠ i := fun e he hb heq => by
    have h1 := hall e he hb
    have h0 := (mem_ready.1 hr).1
    rw [heq] at h1
    rcases Nat.lt_or_ge i listed.size with h' | h'
    ·simp [h'] at h0 h1; rw [h0] at h1; cases h1
    ·simp [Array.getElem?_eq_none h'] at h1
   have h2 := qOp_put hoj (hfree j oj hoj hji hjun hnot) hy h1
   have hfree' : ∀ k ok, ops[k]? = some ok → k ≠ i → (listed.setIfInBounds j true).getD k true = false →
     (∀ e ∈ ok.after, Region.binds md e = true → e.on ≠ i) → oi.apart ops ok = true := fun k ok hk hki hun hno => by
    refine hfree k ok hk hki ?_ hno
    by_cases hjk : j = k
    ·subst hjk; exact hjun
    ·rw [getD_set_ne true hjk] at hun; exact hun
   refine qOp_mono (fun fr' h3 => ih (listed.setIfInBounds j true) fr' hfree' (ready_mono hr (Ne.symm hji)) h3.1 ?_) h2
   rw [Array.setIfInBounds_comm _ _ hji]
   exact h3.2
theorem wpAnyD_lex {K : List DV → Prop} : ∀ (l : List Oper) (k : Nat) (listed : Array Bool) (fr : List DV), (∀ j, l[j]? = ops[k + j]?) →
  Region.lexFrom md ops l.length k listed = true → LQ P w0 S ops K l fr → wpAnyD P w0 S md ops K l.length listed fr
 | [], _, _, _, _, hB, h => ⟨by simpa [Region.lexFrom] using hB, h⟩
 | o :: l, k, listed, fr, hl, hB, h => by
  have h0 : ops[k]? = some o := by simpa using (hl 0).symm
  simp only [List.length_cons, Region.lexFrom, Bool.and_eq_true] at hB
  obtain ⟨⟨hr, hf⟩, hB'⟩ := hB
  have hst : qOp P w0 S ops k (LQ P w0 S ops K l) fr := by
   unfold qOp
   simp only [h0]
   exact guardK_want h
  obtain ⟨d, hy, hK⟩ := yd_of_qOp h0 hst
  exact wpAnyD_first h0 l.length listed fr (Region.free_spec h0 hf) (by simpa using hr) hy
   (wpAnyD_lex l (k + 1) _ _ (fun j => by have := hl (j + 1); simpa [Nat.add_assoc, Nat.add_comm 1 j] using this) hB' hK)
end
end Aml
