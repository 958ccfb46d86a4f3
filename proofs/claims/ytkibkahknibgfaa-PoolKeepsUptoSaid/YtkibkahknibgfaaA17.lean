/-
  The equations by which the reckoning goes: each for one form of value. By an AI agent.
-/
import Derived.Test.YtkibkahknibgfaaA16
namespace Aml
open Go Go.RowKit
set_option linter.unusedVariables false
set_option linter.unusedSimpArgs false

/-- An element that is asked for. -/
def elK (xs : List DV) (i : Nat) (F : DV → Prop) : Prop := ∀ d, xs[i]? = some d → okE d = true ∧ F d
def exK (xs : List DV) (i : Nat) (F : DV → Prop) : Prop := ∃ d, xs[i]? = some d ∧ okE d = true ∧ F d
theorem q_el_map {α : Type} (f : α → DV) (l : List α) (i : Nat) (F : DV → Prop) : elK (List.map f l) i F = ∀ a, l[i]? = some a → okE (f a) = true ∧ F (f a) := by
  unfold elK
  refine propext ⟨fun h a ha => h _ (by rw [List.getElem?_map, ha]; rfl), fun h d hd => ?_⟩
  rw [List.getElem?_map, Option.map_eq_some_iff] at hd
  obtain ⟨a, ha, rfl⟩ := hd
  exact h a ha
theorem q_el_nil (i : Nat) (F : DV → Prop) : elK [] i F = True := by simp [elK]
theorem q_el_zero (x : DV) (xs : List DV) (F : DV → Prop) : elK (x :: xs) 0 F = (okE x = true ∧ F x) := by simp [elK]
theorem q_el_succ (x : DV) (xs : List DV) (i : Nat) (F : DV → Prop) : elK (x :: xs) (i + 1) F = elK xs i F := by simp [elK]
theorem q_ex_map {α : Type} (f : α → DV) (l : List α) (i : Nat) (F : DV → Prop) : exK (List.map f l) i F = (i < l.length ∧ ∀ a, l[i]? = some a → okE (f a) = true ∧ F (f a)) := by
  unfold exK
  refine propext ⟨fun ⟨d, hd, h⟩ => ?_, fun ⟨hi, h⟩ => ⟨f l[i], by rw [List.getElem?_map, List.getElem?_eq_getElem hi]; rfl, h _ (List.getElem?_eq_getElem hi)⟩⟩
  rw [List.getElem?_map, Option.map_eq_some_iff] at hd
  obtain ⟨a, ha, rfl⟩ := hd
  exact ⟨(List.getElem?_eq_some_iff.1 ha).1, fun b hb => by rw [ha] at hb; cases hb; exact h⟩
theorem q_ex_nil (i : Nat) (F : DV → Prop) : exK [] i F = False := by simp [exK]
theorem q_ex_zero (x : DV) (xs : List DV) (F : DV → Prop) : exK (x :: xs) 0 F = (okE x = true ∧ F x) := by simp [exK]
theorem q_ex_succ (x : DV) (xs : List DV) (i : Nat) (F : DV → Prop) : exK (x :: xs) (i + 1) F = exK xs i F := by simp [exK]
theorem q_okE_v (u : Value) : okE (.v u) = true := rfl
theorem q_okE_sl (s : Nat) (f : Bool) (xs : List DV) : okE (.sl s f xs) = true := rfl
theorem q_okE_agg (ds : List DV) : okE (.agg ds) = true := rfl
theorem q_okE_ifc (t : TypeId) (d : DV) : okE (.ifc t d) = true := rfl
theorem q_okE_acc (l n : Nat) : okE (.acc l n) = true := rfl
theorem q_okE_ip (ds : List DV) : okE (.ip ds) = true := rfl
theorem q_cd_v (u : Value) : cd (.v u) = [.v u] := rfl
theorem q_cd_sl (s : Nat) (f : Bool) (xs : List DV) : cd (.sl s f xs) = [.sl s f xs] := rfl
theorem q_cd_agg (ds : List DV) : cd (.agg ds) = ds := rfl
theorem q_cd_ifc (t : TypeId) (d : DV) : cd (.ifc t d) = [.ifc t d] := rfl
theorem q_cd_acc (l n : Nat) : cd (.acc l n) = [.acc l n] := rfl
theorem q_cd_ip (ds : List DV) : cd (.ip ds) = [.ip ds] := rfl
theorem q_lk_nil {α : Type} (n : Nat) : lk ([] : List (Nat × α)) n = none := rfl
theorem q_lk_same {α : Type} (k : Nat) (x : α) (t : List (Nat × α)) : lk ((k, x) :: t) k = some x := by simp [lk]
theorem q_lk_ne {α : Type} {k n : Nat} (h : ¬ k = n) (x : α) (t : List (Nat × α)) : lk ((k, x) :: t) n = lk t n := by simp [lk, h]
theorem q_up_same {α : Type} (k : Nat) (x y : α) (t : List (Nat × α)) : up ((k, x) :: t) k y = (k, y) :: t := by simp [up]
theorem q_up_ne {α : Type} {k n : Nat} (h : ¬ k = n) (x y : α) (t : List (Nat × α)) : up ((k, x) :: t) n y = (k, x) :: up t n y := by simp [up, h]

section
variable {P : Program} {w0 : World} (K : DV → Prop) (K2 : DV → St → Prop) (S : St)
theorem q_ld_int (k : IntKind) (d : DV) (ds : List DV) : ldK (.int k) (d :: ds) K = K d := rfl
theorem q_ld_one (d : DV) (ds : List DV) : ldK .one (d :: ds) K = K d := rfl
theorem q_ld_fn (d : DV) (ds : List DV) : ldK .fn (d :: ds) K = K d := rfl
theorem q_ld_str (d : DV) (ds : List DV) : ldK .str (d :: ds) K = K d := rfl
theorem q_ld_sl (e s b : Nat) (i : Bool) (d : DV) (ds : List DV) : ldK (.sl e s b i) (d :: ds) K = K d := rfl
theorem q_ld_map (k e : Nat) (d : DV) (ds : List DV) : ldK (.map k e) (d :: ds) K = K d := rfl
theorem q_ld_ptr (e : Nat) (d : DV) (ds : List DV) : ldK (.ptr e) (d :: ds) K = K d := rfl
theorem q_ld_ifc (m : List String) (d : DV) (ds : List DV) : ldK (.ifc m) (d :: ds) K = K d := rfl
theorem q_ld_st (fs : List (Nat × Nat × Bool)) (n : Nat) (ds : List DV) : ldK (.st fs n) ds K = (n ≤ ds.length ∧ K (.agg (ds.take n))) := rfl
theorem q_ld_ar (l e s : Nat) (a : Bool) (n : Nat) (ds : List DV) : ldK (.ar l e s a n) ds K = (n ≤ ds.length ∧ K (.agg (ds.take n))) := rfl
theorem q_pick (t : Bool) (a b : DV) : vPick (.v (.bool t)) a b K = ((t = true → K a) ∧ (t = false → K b)) := rfl
theorem q_cond (b : Bool) (A B : Prop) : condD (.v (.bool b)) A B = ((b = true → A) ∧ (b = false → B)) := rfl
theorem q_load_ip (k : TK) (ds : List DV) : vLoad k S (.ip ds) K = ldK k ds K := rfl
theorem q_ia_sl (e s b s' : Nat) (f : Bool) (xs : List DV) (k : IntKind) (z : Int) : vIndexAddr (.sl e s b true) (.sl s' f xs) (.v (.int k z)) K = (s' = s ∧ 0 ≤ z ∧ z < xs.length ∧ elK xs z.toNat fun d => K (.ip (cd d))) := rfl
theorem q_ia_acc (e s b l n : Nat) (k : IntKind) (z : Int) : vIndexAddr (.sl e s b true) (.acc l n) (.v (.int k z)) K = (0 ≤ z ∧ z < n ∧ K (.ap l n s z.toNat 0)) := rfl
theorem q_index (s : ByteArray) (k : IntKind) (z : Int) : vIndex .str (.v (.string s)) (.v (.int k z)) K = (0 ≤ z ∧ z < s.size ∧ ∀ c, s.data.toList[z.toNat]? = some c → K (.v (.int .u8 c.toNat))) := rfl
theorem q_bin_ii (op : BinOp) (t : TK) (cx cy : Bool) (k k' : IntKind) (m n : Int) : vBin op t cx cy (.v (.int k m)) (.v (.int k' n)) K = (sameKind op k k' = true ∧ vBinI op k m n K) := rfl
theorem q_bin_ss (op : BinOp) (t : TK) (cx cy : Bool) (a b : ByteArray) : vBin op t cx cy (.v (.string a)) (.v (.string b)) K = vBinS op a b K := rfl
theorem q_bin_be (cx cy a b : Bool) : vBin .eql .one cx cy (.v (.bool a)) (.v (.bool b)) K = K (.v (.bool (a == b))) := rfl
theorem q_bin_bn (cx cy a b : Bool) : vBin .neq .one cx cy (.v (.bool a)) (.v (.bool b)) K = K (.v (.bool (!(a == b)))) := rfl
theorem q_bin_nne (m : List String) (cx cy : Bool) : vBin .eql (.ifc m) cx cy (.v .nilIface) (.v .nilIface) K = ((cx || cy) = true ∧ K (.v (.bool true))) := rfl
theorem q_bin_nnn (m : List String) (cx cy : Bool) : vBin .neq (.ifc m) cx cy (.v .nilIface) (.v .nilIface) K = ((cx || cy) = true ∧ K (.v (.bool false))) := rfl
theorem q_bin_ine (m : List String) (cx cy : Bool) (t : TypeId) (d : DV) : vBin .eql (.ifc m) cx cy (.ifc t d) (.v .nilIface) K = K (.v (.bool false)) := rfl
theorem q_bin_inn (m : List String) (cx cy : Bool) (t : TypeId) (d : DV) : vBin .neq (.ifc m) cx cy (.ifc t d) (.v .nilIface) K = K (.v (.bool true)) := rfl
theorem q_bin_ppe (e : Nat) (cx cy : Bool) : vBin .eql (.ptr e) cx cy (.v (.pointer none)) (.v (.pointer none)) K = K (.v (.bool true)) := rfl
theorem q_bin_ppn (e : Nat) (cx cy : Bool) : vBin .neq (.ptr e) cx cy (.v (.pointer none)) (.v (.pointer none)) K = K (.v (.bool false)) := rfl
theorem q_bin_pe (e : Nat) (cx cy : Bool) (a : Addr) : vBin .eql (.ptr e) cx cy (.v (.pointer (some a))) (.v (.pointer none)) K = K (.v (.bool false)) := by simp [vBin, isPtr]
theorem q_bin_pn (e : Nat) (cx cy : Bool) (a : Addr) : vBin .neq (.ptr e) cx cy (.v (.pointer (some a))) (.v (.pointer none)) K = K (.v (.bool true)) := by simp [vBin, isPtr]
theorem q_bin_ipe (e : Nat) (cx cy : Bool) (ds : List DV) : vBin .eql (.ptr e) cx cy (.ip ds) (.v (.pointer none)) K = K (.v (.bool false)) := by simp [vBin, isPtr]
theorem q_bin_ipn (e : Nat) (cx cy : Bool) (ds : List DV) : vBin .neq (.ptr e) cx cy (.ip ds) (.v (.pointer none)) K = K (.v (.bool true)) := by simp [vBin, isPtr]
theorem q_un_not (b : Bool) : vUn .not (.v (.bool b)) K = K (.v (.bool (!b))) := rfl
theorem q_un_neg (k : IntKind) (n : Int) : vUn .neg (.v (.int k n)) K = K (.v (.int k (k.wrap (0 - n)))) := rfl
theorem q_conv_i (k0 k k1 : IntKind) (n : Int) : vConv (.int k0) (.int k) (.v (.int k1 n)) K = K (.v (.int k (k.wrap n))) := rfl
theorem q_conv_s (s : ByteArray) : vConv .str .str (.v (.string s)) K = K (.v (.string s)) := rfl
theorem q_nn_ptr (a : Addr) : notNil (.v (.pointer (some a))) = true := rfl
theorem q_nn_fn (f : FuncId) (a b : Array Value) : notNil (.v (.func (.func f) a b)) = true := rfl
theorem q_nn_ip (ds : List DV) : notNil (.ip ds) = true := rfl
theorem q_nn_ap (l n s i o : Nat) : notNil (.ap l n s i o) = true := rfl
theorem q_nn_ifc (t : TypeId) (d : DV) : notNil (.ifc t d) = true := rfl
theorem q_shr1_v (u : Value) : shr1 S (.v u) K2 = K2 (.v u) S := rfl
theorem q_shr1_sl (s : Nat) (f : Bool) (xs : List DV) : shr1 S (.sl s f xs) K2 = K2 (.sl s f xs) S := rfl
theorem q_shr1_ifc (t : TypeId) (d : DV) : shr1 S (.ifc t d) K2 = K2 (.ifc t d) S := rfl
theorem q_shr1_ip (ds : List DV) : shr1 S (.ip ds) K2 = K2 (.ip ds) S := rfl
theorem q_shr1_any : shr1 S .any K2 = K2 .any S := rfl
theorem q_shr1s_nil (K3 : List DV → St → Prop) : shr1s S [] K3 = K3 [] S := rfl
theorem q_shr1s_cons (d : DV) (ds : List DV) (K3 : List DV → St → Prop) : shr1s S (d :: ds) K3 = shr1 S d fun e S => shr1s S ds fun es S => K3 (e :: es) S := rfl
theorem q_shr_v (u : Value) : shr S (.v u) K2 = K2 (.v u) S := rfl
theorem q_shr_sl (s : Nat) (f : Bool) (xs : List DV) : shr S (.sl s f xs) K2 = K2 (.sl s f xs) S := rfl
theorem q_shr_ifc (t : TypeId) (d : DV) : shr S (.ifc t d) K2 = K2 (.ifc t d) S := rfl
theorem q_shr_ip (ds : List DV) : shr S (.ip ds) K2 = K2 (.ip ds) S := rfl
theorem q_shr_any : shr S .any K2 = K2 .any S := rfl
theorem q_shr_acc (l n : Nat) : shr S (.acc l n) K2 = shr1 S (.acc l n) K2 := rfl
theorem q_shr_agg (ds : List DV) : shr S (.agg ds) K2 = shr1s S ds fun ds S => K2 (.agg ds) S := rfl
theorem q_shrs_nil (K3 : List DV → St → Prop) : shrs S [] K3 = K3 [] S := rfl
theorem q_shrs_cons (d : DV) (ds : List DV) (K3 : List DV → St → Prop) : shrs S (d :: ds) K3 = shr S d fun e S => shrs S ds fun es S => K3 (e :: es) S := rfl
theorem q_shrT_v (u : Value) : shrT S (.v u) K2 = K2 (.v u) S := rfl
theorem q_shrT_sl (s : Nat) (f : Bool) (xs : List DV) : shrT S (.sl s f xs) K2 = K2 (.sl s f xs) S := rfl
theorem q_shrT_ifc (t : TypeId) (d : DV) : shrT S (.ifc t d) K2 = K2 (.ifc t d) S := rfl
theorem q_shrT_acc (l n : Nat) : shrT S (.acc l n) K2 = shr1 S (.acc l n) K2 := rfl
theorem q_shrT_agg (ds : List DV) : shrT S (.agg ds) K2 = shr1s S ds fun ds S => K2 (.agg ds) S := rfl
theorem q_shrT_tup (ds : List DV) : shrT S (.tup ds) K2 = shrs S ds fun ds S => K2 (.tup ds) S := rfl
theorem q_bnd_none (z : Int) (K4 : Int → Prop) : bnd none z K4 = K4 z := rfl
theorem q_bnd_some (k : IntKind) (n z : Int) (K4 : Int → Prop) : bnd (some (.v (.int k n))) z K4 = K4 n := rfl
theorem q_slice_sl (e s b s' : Nat) (f : Bool) (xs : List DV) (lo hi mx : Option DV) : vSlice (.sl e s b true) (.sl s' f xs) lo hi mx K = ((s' = s ∨ xs = []) ∧ bnd lo 0 fun l => bnd hi xs.length fun h => bnd mx h fun m => 0 ≤ l ∧ l ≤ h ∧ h ≤ m ∧ m ≤ xs.length ∧
      K (.sl s (if mx.isSome then decide (m = h) else (f && (hi.isNone || xs.isEmpty))) ((xs.take h.toNat).drop l.toNat))) := rfl
theorem q_slice_str (s : ByteArray) (lo hi mx : Option DV) : vSlice .str (.v (.string s)) lo hi mx K = (mx.isNone = true ∧ bnd lo 0 fun l => bnd hi s.size fun h => 0 ≤ l ∧ l ≤ h ∧ h ≤ s.size ∧ K (.v (.string (s.extract l.toNat h.toNat)))) := rfl
theorem q_len_sl (e s b : Nat) (i : Bool) (s' : Nat) (f : Bool) (xs : List DV) : vLen (.sl e s b i) (.sl s' f xs) K = K (.v (.int .i64 xs.length)) := rfl
theorem q_len_acc (e s b : Nat) (i : Bool) (l n : Nat) : vLen (.sl e s b i) (.acc l n) K = K (.v (.int .i64 n)) := rfl
theorem q_len_str (s : ByteArray) : vLen .str (.v (.string s)) K = K (.v (.int .i64 s.size)) := rfl
theorem q_min (k k' : IntKind) (m n : Int) : vMin (.v (.int k m)) (.v (.int k' n)) K = K (.v (.int k (if n < m then n else m))) := rfl
theorem q_max (k k' : IntKind) (m n : Int) : vMax (.v (.int k m)) (.v (.int k' n)) K = K (.v (.int k (if m < n then n else m))) := rfl
theorem q_sliceX_sl (k : TK) (s : Nat) (f : Bool) (xs : List DV) (lo hi mx : Option DV) : vSliceX k S (.sl s f xs) lo hi mx K2 = vSlice k (.sl s f xs) lo hi mx (K2 · S) := rfl
theorem q_sliceX_v (k : TK) (u : Value) (lo hi mx : Option DV) : vSliceX k S (.v u) lo hi mx K2 = vSlice k (.v u) lo hi mx (K2 · S) := rfl
theorem q_sliceX_acc (k : TK) (l n : Nat) (lo hi mx : Option DV) : vSliceX k S (.acc l n) lo hi mx K2 = ((lo.isNone = true ∧ mx.isNone = true ∧ isZ hi = true ∧ (∃ e s b, k = .sl e s b true) ∧ vCut0 S (.acc l n) K2) ∨ vSliceS k S (.acc l n) lo hi mx K2) := rfl
theorem q_isZ (k : IntKind) (n : Int) : isZ (some (.v (.int k n))) = (n == 0) := rfl
theorem q_isZ_none : isZ none = false := rfl
theorem q_isNilC_t (t : Nat) : isNilC (.tmp t) = false := rfl
theorem q_isNilC_g (t : Nat) : isNilC (.global t) = false := rfl
theorem q_isNilC_i (k : IntKind) (n : Int) : isNilC (.const (.int k n)) = false := rfl
theorem q_isNilC_b (b : Bool) : isNilC (.const (.bool b)) = false := rfl
theorem q_isNilC_s (s : ByteArray) : isNilC (.const (.string s)) = false := rfl
theorem q_isNilC_f : isNilC (.const .nilIface) = false := rfl
theorem q_isNilC_p (a : Option Addr) : isNilC (.const (.pointer a)) = false := rfl
theorem q_isNilC_n : isNilC (.const (.slice none 0 0)) = true := rfl
theorem q_nilEq_sl (e s b s' : Nat) (i f : Bool) (xs : List DV) : vNilEq .eql (.sl e s b i) (.sl s' f xs) K = ∀ b : Bool, (xs ≠ [] → b = false) → K (.v (.bool b)) := rfl
theorem q_nilEq_sn (e s b s' : Nat) (i f : Bool) (xs : List DV) : vNilEq .neq (.sl e s b i) (.sl s' f xs) K = ∀ b : Bool, (xs ≠ [] → b = true) → K (.v (.bool b)) := rfl
theorem q_nilEq_al (e s b l n : Nat) (i : Bool) : vNilEq .eql (.sl e s b i) (.acc l n) K = ∀ b : Bool, (n ≠ 0 → b = false) → K (.v (.bool b)) := rfl
theorem q_nilEq_an (e s b l n : Nat) (i : Bool) : vNilEq .neq (.sl e s b i) (.acc l n) K = ∀ b : Bool, (n ≠ 0 → b = true) → K (.v (.bool b)) := rfl
theorem q_appInt (e s b s' : Nat) (z : DV) (k : IntKind) (n : Int) : vAppInt (.sl e s b true) z S (.sl s' true []) (.v (.int k n)) K2 = (okE z = true ∧ 0 < n ∧ n * b ≤ 140737488355328 ∧ n ≤ 9223372036854775807 ∧ ∀ l, nin S.acc l → K2 (.acc l n.toNat) ⟨S.box, (l, .arr s (List.replicate n.toNat z)) :: S.acc⟩) := rfl
theorem q_storeX_v (n : Nat) (u : Value) (y : DV) (K5 : St → Prop) : vStoreX n S (.v u) y K5 = vStore n S (.v u) y K5 := rfl
theorem q_makeSlice (e s b : Nat) (z : DV) (k k' : IntKind) (n m : Int) : vMakeSlice (.sl e s b true) z (.v (.int k n)) (.v (.int k' m)) S K2 = (okE z = true ∧ 0 ≤ n ∧ n ≤ m ∧ m * b ≤ 140737488355328 ∧ m ≤ 9223372036854775807 ∧ ∀ l, nin S.acc l → K2 (.acc l n.toNat) ⟨S.box, (l, .arr s (List.replicate n.toNat z)) :: S.acc⟩) := rfl
theorem q_cap (e s b : Nat) (i : Bool) (s' : Nat) (xs : List DV) : vCap (.sl e s b i) (.sl s' true xs) K = K (.v (.int .i64 xs.length)) := rfl
theorem q_cont_sl (s : Nat) (f : Bool) (xs : List DV) (K6 : Nat → List DV → Prop) : contK S (.sl s f xs) K6 = K6 s xs := rfl
theorem q_cont_str (b : ByteArray) (K6 : Nat → List DV → Prop) : contK S (.v (.string b)) K6 = K6 1 (b.data.toList.map fun c => .v (.int .u8 c.toNat)) := rfl
theorem q_append (e s b : Nat) (k2 : TK) (x y : DV) : vAppend (.sl e s b true) k2 S x y K2 = (notInt k2 = true ∧ contK S y fun s2 ys => (s2 = s ∨ ys = []) ∧ vApp s b S x ys K2) := rfl
theorem q_app_nil (s0 s by' : Nat) (ys : List DV) : vApp s by' S (.sl s0 true []) ys K2 = (ys.length * by' ≤ 140737488355328 ∧ ys.length ≤ maxLen ∧ ∀ l, nin S.acc l → K2 (.acc l ys.length) ⟨S.box, (l, .arr s ys) :: S.acc⟩) := rfl
theorem q_app_cons (s0 s by' : Nat) (x : DV) (xs ys : List DV) : vApp s by' S (.sl s0 true (x :: xs)) ys K2 = (s0 = s ∧ ((x :: xs).length + ys.length) * by' ≤ 140737488355328 ∧ (x :: xs).length + ys.length ≤ maxLen ∧ ∀ l, nin S.acc l → K2 (.acc l ((x :: xs) ++ ys).length) ⟨S.box, (l, .tl s ((x :: xs) ++ ys)) :: S.acc⟩) := rfl
theorem q_call (f : FuncId) (a cap : Array Value) (ds : List DV) : vCall P w0 (.v (.func (.func f) a cap)) ds S K2 = (a.size = 0 ∧ okF P f = true ∧ cap.toList.all (fun u => u.oneCell') = true ∧ callK S ds fun ds S => @AC P w0 f (ds ++ cap.toList.map .v) S ⟨K2⟩) := rfl
theorem q_hasAcc_nil : hasAcc [] = false := rfl
theorem q_hasAcc_acc (l n : Nat) (ds : List DV) : hasAcc (.acc l n :: ds) = true := rfl
theorem q_hasAcc_v (u : Value) (ds : List DV) : hasAcc (.v u :: ds) = hasAcc ds := rfl
theorem q_hasAcc_sl (s : Nat) (f : Bool) (xs ds : List DV) : hasAcc (.sl s f xs :: ds) = hasAcc ds := rfl
theorem q_hasAcc_agg (xs ds : List DV) : hasAcc (.agg xs :: ds) = hasAcc ds := rfl
theorem q_hasAcc_ifc (t : TypeId) (d : DV) (ds : List DV) : hasAcc (.ifc t d :: ds) = hasAcc ds := rfl
theorem q_hasAcc_ip (xs ds : List DV) : hasAcc (.ip xs :: ds) = hasAcc ds := rfl
theorem q_callK_t (ds : List DV) (F : List DV → St → Prop) (h : hasAcc ds = true) : callK S ds F = (F ds S ∨ shrs S ds F) := by unfold callK; rw [h]
theorem q_callK_f (ds : List DV) (F : List DV → St → Prop) (h : hasAcc ds = false) : callK S ds F = shrs S ds F := by unfold callK; rw [h]
theorem q_res_tmp (fr : List DV) (t : Nat) : resK1 P fr S K (.tmp t) = K (fr.getD t ud) := rfl
theorem q_res_cell (fr : List DV) (a t : Nat) : resK1 P fr S K (.cell a t) = vLoad (tk P t) S (fr.getD a ud) K := rfl
theorem q_resK_one (fr : List DV) (r : ResultVar) : resK P fr S [r] K = resK1 P fr S K r := rfl
theorem q_resK_nil (fr : List DV) : resK P fr S [] K = K (.tup []) := rfl
theorem q_resK_two (fr : List DV) (r r' : ResultVar) (rs : List ResultVar) : resK P fr S (r :: r' :: rs) K = resKs P fr S (r :: r' :: rs) fun ds => K (.tup ds) := rfl
theorem q_g_none (ops : Array Oper) (fr : List DV) (A B : List DV → Prop) : guardK ops fr none A B = A fr := rfl
end
/-- What is looked up is asked first. -/
def oK {α : Type} : Option α → (α → Prop) → Prop
  | some a, F => F a
  | none, _ => False
theorem q_oK_some {α : Type} (a : α) (F : α → Prop) : oK (some a) F = F a := rfl
theorem q_oK_none {α : Type} (F : α → Prop) : oK none F = False := rfl
def bK : Option Ob → (Nat → List DV → Prop) → (Nat → List DV → Prop) → Prop
  | some (.arr s xs), F, _ => F s xs
  | some (.tl s xs), _, G => G s xs
  | none, _, _ => False
theorem q_bK_arr (s : Nat) (xs : List DV) (F G : Nat → List DV → Prop) : bK (some (.arr s xs)) F G = F s xs := rfl
theorem q_bK_tl (s : Nat) (xs : List DV) (F G : Nat → List DV → Prop) : bK (some (.tl s xs)) F G = G s xs := rfl
def fiK (p : Option (Nat × Nat × Bool)) (x : DV) (K : DV → Prop) : Prop := match p with
  | some (off, sz, _) => sz ≠ 0 ∧ (match x with
      | .v (.pointer (some ⟨b, o, none⟩)) => K (.v (.pointer (some ⟨b, o + off, none⟩)))
      | .ip ds => off ≤ ds.length ∧ K (.ip (ds.drop off))
      | .ap l n s i o => K (.ap l n s i (o + off))
      | _ => False)
  | none => False
def fvK (p : Option (Nat × Nat × Bool)) (ds : List DV) (K : DV → Prop) : Prop := match p with
  | some (off, sz, true) => off + sz ≤ ds.length ∧ K (.agg ((ds.drop off).take sz))
  | some (off, sz, false) => off + sz ≤ ds.length ∧ oK (ds[off]?) K
  | none => False
def gD (t : Nat) (d : DV) (fr : List DV) (want : Bool) (A B : List DV → Prop) : Prop := match d with
  | .v (.bool b) => (b = want → A (fr.set t (.v (.bool want)))) ∧ (b = !want → B (fr.set t (.v (.bool !want))))
  | .tup [] => B fr
  | _ => False
def gK (t : Option Tmp) (fr : List DV) (want : Bool) (A B : List DV → Prop) : Prop := match t with
  | none => B fr
  | some t => gD t (fr.getD t ud) fr want A B
def buK (k : TK) (z : DV) (parts : List (Nat × DV)) (K : DV → Prop) : Prop := match k, z with
  | .st fs _, .agg zs => oK (fillD fs zs parts) fun ds => K (.agg ds)
  | _, _ => False

section
variable {P : Program} {w0 : World} (K : DV → Prop) (K2 : DV → St → Prop) (S : St)
theorem q_load_box (k : TK) (b o : Nat) : vLoad k S (.v (.pointer (some ⟨b, o, none⟩))) K = oK (lk S.box b) fun ds => ldK k (ds.drop o) K := by
  cases h : lk S.box b <;> simp [vLoad, oK, h]
theorem q_load_ap (k : TK) (l n s i o : Nat) : vLoad k S (.ap l n s i o) K = bK (lk S.acc l) (fun s' xs => xs.length = n ∧ s' = s ∧ exK xs i fun d => ldK k ((cd d).drop o) K) (fun s' xs => xs.length = n ∧ s' = s ∧ exK xs i fun d => ldK k ((cd d).drop o) K) := by
  cases h : lk S.acc l with
  | none => simp [vLoad, bK, h]
  | some o => cases o <;> simp [vLoad, bK, h, exK]
theorem q_field (fs : List (Nat × Nat × Bool)) (n f : Nat) (x : DV) : vField (.st fs n) f x K = fiK (fs[f]?) x K := by
  cases h : fs[f]? <;> simp only [vField, fiK, h] <;> cases x <;> rfl
theorem q_fi_ptr (off sz b o : Nat) (ag : Bool) : fiK (some (off, sz, ag)) (.v (.pointer (some ⟨b, o, none⟩))) K = (sz ≠ 0 ∧ K (.v (.pointer (some ⟨b, o + off, none⟩)))) := rfl
theorem q_fi_ip (off sz : Nat) (ag : Bool) (ds : List DV) : fiK (some (off, sz, ag)) (.ip ds) K = (sz ≠ 0 ∧ off ≤ ds.length ∧ K (.ip (ds.drop off))) := rfl
theorem q_fi_ap (off sz l m s i o : Nat) (ag : Bool) : fiK (some (off, sz, ag)) (.ap l m s i o) K = (sz ≠ 0 ∧ K (.ap l m s i (o + off))) := rfl
theorem q_fieldV (fs : List (Nat × Nat × Bool)) (n f : Nat) (ds : List DV) : vFieldV (.st fs n) f (.agg ds) K = fvK (fs[f]?) ds K := by
  cases h : fs[f]? with
  | none => simp [vFieldV, fvK, h]
  | some p => obtain ⟨off, sz, ag⟩ := p; cases ag <;> simp only [vFieldV, fvK, h, oK] <;> cases ds[off]? <;> rfl
theorem q_fv_t (off sz : Nat) (ds : List DV) : fvK (some (off, sz, true)) ds K = (off + sz ≤ ds.length ∧ K (.agg ((ds.drop off).take sz))) := rfl
theorem q_fv_f (off sz : Nat) (ds : List DV) : fvK (some (off, sz, false)) ds K = (off + sz ≤ ds.length ∧ oK (ds[off]?) K) := rfl
theorem q_extract (i : Nat) (ds : List DV) : vExtract i (.tup ds) K = oK (ds[i]?) K := by
  cases h : ds[i]? <;> simp [vExtract, oK, h]
theorem q_shr1_acc (l n : Nat) : shr1 S (.acc l n) K2 = bK (lk S.acc l) (fun s xs => xs.length = n ∧ K2 (.sl s false xs) ⟨S.box, up S.acc l (.tl s xs)⟩) (fun s xs => xs.length = n ∧ K2 (.sl s false xs) S) := by
  cases h : lk S.acc l with
  | none => simp [shr1, bK, h]
  | some o => cases o <;> simp [shr1, bK, h]
theorem q_store (n b o : Nat) (y : DV) (K5 : St → Prop) : vStore n S (.v (.pointer (some ⟨b, o, none⟩))) y K5 = (okE y = true ∧ (cd y).length = n ∧ oK (lk S.box b) fun ds => o + n ≤ ds.length ∧ K5 ⟨up S.box b (setAll ds o (cd y)), S.acc⟩) := by
  cases h : lk S.box b <;> simp [vStore, oK, h]
theorem q_storeX_ap (n l m s i o : Nat) (y : DV) (K5 : St → Prop) : vStoreX n S (.ap l m s i o) y K5 = (okE y = true ∧ (cd y).length = n ∧ bK (lk S.acc l) (fun s' xs => s' = s ∧ xs.length = m ∧ o + n ≤ s ∧ exK xs i fun d => oK (elSet d o n s y) fun d' => K5 ⟨S.box, up S.acc l (.arr s (xs.set i d'))⟩) (fun _ _ => False)) := by
  cases h : lk S.acc l with
  | none => simp [vStoreX, bK, h]
  | some o => cases o with
    | tl s' xs => simp [vStoreX, bK, h]
    | arr s' xs =>
      simp only [vStoreX, bK, h, exK]
      refine propext (and_congr Iff.rfl (and_congr Iff.rfl (and_congr Iff.rfl (and_congr Iff.rfl (and_congr Iff.rfl (exists_congr fun d => and_congr Iff.rfl (and_congr Iff.rfl ?_)))))))
      cases elSet d o n s y with
      | none => simp [oK]
      | some x => simp [oK]
theorem q_cont_acc (l n : Nat) (K6 : Nat → List DV → Prop) : contK S (.acc l n) K6 = bK (lk S.acc l) (fun s xs => xs.length = n ∧ K6 s xs) (fun s xs => xs.length = n ∧ K6 s xs) := by
  cases h : lk S.acc l with
  | none => simp [contK, bK, h]
  | some o => cases o <;> simp [contK, bK, h]
theorem q_app_acc (l n s by' : Nat) (ys : List DV) : vApp s by' S (.acc l n) ys K2 = bK (lk S.acc l)
    (fun s' xs => s' = s ∧ xs.length = n ∧ (xs.length + ys.length) * by' ≤ 140737488355328 ∧ xs.length + ys.length ≤ maxLen ∧ K2 (.acc l (xs ++ ys).length) ⟨S.box, up S.acc l (.arr s (xs ++ ys))⟩)
    (fun s' xs => s' = s ∧ xs.length = n ∧ (xs.length + ys.length) * by' ≤ 140737488355328 ∧ xs.length + ys.length ≤ maxLen ∧ K2 (.acc l (xs ++ ys).length) ⟨S.box, up S.acc l (.tl s (xs ++ ys))⟩) := by
  cases h : lk S.acc l with
  | none => simp [vApp, bK, h]
  | some o => cases o <;> simp [vApp, bK, h]
theorem q_guard (ops : Array Oper) (fr : List DV) (j : Nat) (want : Bool) (A B : List DV → Prop) : guardK ops fr (some (j, want)) A B = gK ((ops[j]?).bind (·.dst)) fr want A B := by
  cases h : (ops[j]?).bind (·.dst) <;> simp only [guardK, gK, h] <;> rfl
theorem q_gK_none (fr : List DV) (want : Bool) (A B : List DV → Prop) : gK none fr want A B = B fr := rfl
theorem q_gK_some (t : Nat) (fr : List DV) (want : Bool) (A B : List DV → Prop) : gK (some t) fr want A B = gD t (fr.getD t ud) fr want A B := rfl
theorem q_gD_bool (t : Nat) (b : Bool) (fr : List DV) (want : Bool) (A B : List DV → Prop) : gD t (.v (.bool b)) fr want A B = ((b = want → A (fr.set t (.v (.bool want)))) ∧ (b = !want → B (fr.set t (.v (.bool !want))))) := rfl
theorem q_gD_ud (t : Nat) (fr : List DV) (want : Bool) (A B : List DV → Prop) : gD t ud fr want A B = B fr := rfl
theorem q_func (fn : Fn) (a b : List DV) : vFunc fn a b K = oK (vals a) fun us => oK (vals b) fun vs => K (.v (.func fn us.toArray vs.toArray)) := by
  cases h : vals a <;> cases h' : vals b <;> simp [vFunc, oK, h, h']
theorem q_build (t : TypeId) (parts : List (Nat × DV)) : vBuild P t parts K = buK (tk P t) (zD P t) parts K := by
  cases h : tk P t <;> cases h' : zD P t <;> simp only [vBuild, buK, h, h'] <;> (rename_i fs _ zs; cases h2 : fillD fs zs parts <;> simp [oK])
theorem q_bu (fs : List (Nat × Nat × Bool)) (n : Nat) (zs : List DV) (parts : List (Nat × DV)) : buK (.st fs n) (.agg zs) parts K = oK (fillD fs zs parts) fun ds => K (.agg ds) := rfl
theorem q_bsl (e s b len : Nat) (z : DV) (parts : List (Nat × DV)) : vBuildSlice (.sl e s b true) z len parts K = (okE z = true ∧ (cd z).length = s ∧ len * s ≤ 16777216 ∧ oK (fillE s (List.replicate len z) parts) fun xs => K (.sl s true xs)) := by
  cases h : fillE s (List.replicate len z) parts <;> simp [vBuildSlice, oK, h]
end
end Aml
