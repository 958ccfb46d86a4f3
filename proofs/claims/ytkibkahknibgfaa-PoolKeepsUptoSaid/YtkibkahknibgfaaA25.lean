/-
  Which parts of the walk's words the reckoning may enter: what comes behind a step is entered when the step is done. By an AI agent.
-/
import Derived.Test.YtkibkahknibgfaaA21
namespace Aml
open Go Go.RowKit
set_option linter.unusedVariables false
set_option linter.unusedSimpArgs false

@[congr] theorem c_condD {d : DV} {d' : DV} {A : Prop} {B : Prop} (hd : d = d') : condD d A B = condD d' A B := by cases hd; rfl
@[congr] theorem c_hdK {ds : List DV} {ds' : List DV} {K : DV → Prop} (hds : ds = ds') : hdK ds K = hdK ds' K := by cases hds; rfl
@[congr] theorem c_ldK {k : TK} {k' : TK} {ds : List DV} {ds' : List DV} {K : DV → Prop} (hk : k = k') (hds : ds = ds') : ldK k ds K = ldK k' ds' K := by cases hk; cases hds; rfl
@[congr] theorem c_vPick {c : DV} {c' : DV} {a : DV} {a' : DV} {b : DV} {b' : DV} {K : DV → Prop} (hc : c = c') (ha : a = a') (hb : b = b') : vPick c a b K = vPick c' a' b' K := by cases hc; cases ha; cases hb; rfl
@[congr] theorem c_vLoad {k : TK} {k' : TK} {S : St} {S' : St} {x : DV} {x' : DV} {K : DV → Prop} (hk : k = k') (hS : S = S') (hx : x = x') : vLoad k S x K = vLoad k' S' x' K := by cases hk; cases hS; cases hx; rfl
@[congr] theorem c_vField {k : TK} {k' : TK} {f : Nat} {f' : Nat} {x : DV} {x' : DV} {K : DV → Prop} (hk : k = k') (hf : f = f') (hx : x = x') : vField k f x K = vField k' f' x' K := by cases hk; cases hf; cases hx; rfl
@[congr] theorem c_vIndexAddr {k : TK} {k' : TK} {x : DV} {x' : DV} {i : DV} {i' : DV} {K : DV → Prop} (hk : k = k') (hx : x = x') (hi : i = i') : vIndexAddr k x i K = vIndexAddr k' x' i' K := by cases hk; cases hx; cases hi; rfl
@[congr] theorem c_vExtract {i : Nat} {i' : Nat} {x : DV} {x' : DV} {K : DV → Prop} (hi : i = i') (hx : x = x') : vExtract i x K = vExtract i' x' K := by cases hi; cases hx; rfl
@[congr] theorem c_vFieldV {k : TK} {k' : TK} {f : Nat} {f' : Nat} {x : DV} {x' : DV} {K : DV → Prop} (hk : k = k') (hf : f = f') (hx : x = x') : vFieldV k f x K = vFieldV k' f' x' K := by cases hk; cases hf; cases hx; rfl
@[congr] theorem c_vBinI {op : BinOp} {k : IntKind} {m : Int} {m' : Int} {n : Int} {n' : Int} {K : DV → Prop} (hm : m = m') (hn : n = n') : vBinI op k m n K = vBinI op k m' n' K := by cases hm; cases hn; rfl
@[congr] theorem c_vBinS {op : BinOp} {x : ByteArray} {x' : ByteArray} {y : ByteArray} {y' : ByteArray} {K : DV → Prop} (hx : x = x') (hy : y = y') : vBinS op x y K = vBinS op x' y' K := by cases hx; cases hy; rfl
@[congr] theorem c_vBin {op : BinOp} {t : TK} {t' : TK} {cx : Bool} {cx' : Bool} {cy : Bool} {cy' : Bool} {x : DV} {x' : DV} {y : DV} {y' : DV} {K : DV → Prop} (ht : t = t') (hcx : cx = cx') (hcy : cy = cy') (hx : x = x') (hy : y = y') : vBin op t cx cy x y K = vBin op t' cx' cy' x' y' K := by cases ht; cases hcx; cases hcy; cases hx; cases hy; rfl
@[congr] theorem c_vUn {op : UnOp} {x : DV} {x' : DV} {K : DV → Prop} (hx : x = x') : vUn op x K = vUn op x' K := by cases hx; rfl
@[congr] theorem c_vConv {a : TK} {a' : TK} {b : TK} {b' : TK} {x : DV} {x' : DV} {K : DV → Prop} (ha : a = a') (hb : b = b') (hx : x = x') : vConv a b x K = vConv a' b' x' K := by cases ha; cases hb; cases hx; rfl
@[congr] theorem c_vIndex {k : TK} {k' : TK} {x : DV} {x' : DV} {i : DV} {i' : DV} {K : DV → Prop} (hk : k = k') (hx : x = x') (hi : i = i') : vIndex k x i K = vIndex k' x' i' K := by cases hk; cases hx; cases hi; rfl
@[congr] theorem c_bnd {d : Option DV} {d' : Option DV} {z : Int} {z' : Int} {K : Int → Prop} (hd : d = d') (hz : z = z') : bnd d z K = bnd d' z' K := by cases hd; cases hz; rfl
@[congr] theorem c_vSlice {k : TK} {k' : TK} {x : DV} {x' : DV} {lo : Option DV} {lo' : Option DV} {hi : Option DV} {hi' : Option DV} {mx : Option DV} {mx' : Option DV} {K : DV → Prop} (hk : k = k') (hx : x = x') (hlo : lo = lo') (hhi : hi = hi') (hmx : mx = mx') : vSlice k x lo hi mx K = vSlice k' x' lo' hi' mx' K := by cases hk; cases hx; cases hlo; cases hhi; cases hmx; rfl
@[congr] theorem c_vLen {k : TK} {k' : TK} {x : DV} {x' : DV} {K : DV → Prop} (hk : k = k') (hx : x = x') : vLen k x K = vLen k' x' K := by cases hk; cases hx; rfl
@[congr] theorem c_vCap {k : TK} {k' : TK} {x : DV} {x' : DV} {K : DV → Prop} (hk : k = k') (hx : x = x') : vCap k x K = vCap k' x' K := by cases hk; cases hx; rfl
@[congr] theorem c_vMin {x : DV} {x' : DV} {y : DV} {y' : DV} {K : DV → Prop} (hx : x = x') (hy : y = y') : vMin x y K = vMin x' y' K := by cases hx; cases hy; rfl
@[congr] theorem c_vMax {x : DV} {x' : DV} {y : DV} {y' : DV} {K : DV → Prop} (hx : x = x') (hy : y = y') : vMax x y K = vMax x' y' K := by cases hx; cases hy; rfl
@[congr] theorem c_vStore {n : Nat} {n' : Nat} {S : St} {S' : St} {x : DV} {x' : DV} {y : DV} {y' : DV} {K : St → Prop} (hn : n = n') (hS : S = S') (hx : x = x') (hy : y = y') : vStore n S x y K = vStore n' S' x' y' K := by cases hn; cases hS; cases hx; cases hy; rfl
@[congr] theorem c_vStoreX {n : Nat} {n' : Nat} {S : St} {S' : St} {x : DV} {x' : DV} {y : DV} {y' : DV} {K : St → Prop} (hn : n = n') (hS : S = S') (hx : x = x') (hy : y = y') : vStoreX n S x y K = vStoreX n' S' x' y' K := by cases hn; cases hS; cases hx; cases hy; rfl
@[congr] theorem c_vBuildSlice {k : TK} {k' : TK} {z : DV} {z' : DV} {len : Nat} {len' : Nat} {parts : List (Nat × DV)} {parts' : List (Nat × DV)} {K : DV → Prop} (hk : k = k') (hz : z = z') (hlen : len = len') (hparts : parts = parts') : vBuildSlice k z len parts K = vBuildSlice k' z' len' parts' K := by cases hk; cases hz; cases hlen; cases hparts; rfl
@[congr] theorem c_contK {S : St} {S' : St} {d : DV} {d' : DV} {K : Nat → List DV → Prop} (hS : S = S') (hd : d = d') : contK S d K = contK S' d' K := by cases hS; cases hd; rfl
@[congr] theorem c_vApp {s : Nat} {s' : Nat} {b : Nat} {b' : Nat} {S : St} {S' : St} {x : DV} {x' : DV} {ys : List DV} {ys' : List DV} {K : DV → St → Prop} (hs : s = s') (hb : b = b') (hS : S = S') (hx : x = x') (hys : ys = ys') : vApp s b S x ys K = vApp s' b' S' x' ys' K := by cases hs; cases hb; cases hS; cases hx; cases hys; rfl
@[congr] theorem c_vAppend {k : TK} {k' : TK} {k2 : TK} {k2' : TK} {S : St} {S' : St} {x : DV} {x' : DV} {y : DV} {y' : DV} {K : DV → St → Prop} (hk : k = k') (hk2 : k2 = k2') (hS : S = S') (hx : x = x') (hy : y = y') : vAppend k k2 S x y K = vAppend k' k2' S' x' y' K := by cases hk; cases hk2; cases hS; cases hx; cases hy; rfl
@[congr] theorem c_vAppInt {k : TK} {k' : TK} {z : DV} {z' : DV} {S : St} {S' : St} {x : DV} {x' : DV} {y : DV} {y' : DV} {K : DV → St → Prop} (hk : k = k') (hz : z = z') (hS : S = S') (hx : x = x') (hy : y = y') : vAppInt k z S x y K = vAppInt k' z' S' x' y' K := by cases hk; cases hz; cases hS; cases hx; cases hy; rfl
@[congr] theorem c_vNilEq {op : BinOp} {k : TK} {k' : TK} {x : DV} {x' : DV} {K : DV → Prop} (hk : k = k') (hx : x = x') : vNilEq op k x K = vNilEq op k' x' K := by cases hk; cases hx; rfl
@[congr] theorem c_vCut0 {S : St} {S' : St} {x : DV} {x' : DV} {K : DV → St → Prop} (hS : S = S') (hx : x = x') : vCut0 S x K = vCut0 S' x' K := by cases hS; cases hx; rfl
@[congr] theorem c_vSliceX {k : TK} {k' : TK} {S : St} {S' : St} {x : DV} {x' : DV} {lo : Option DV} {lo' : Option DV} {hi : Option DV} {hi' : Option DV} {mx : Option DV} {mx' : Option DV} {K : DV → St → Prop} (hk : k = k') (hS : S = S') (hx : x = x') (hlo : lo = lo') (hhi : hi = hi') (hmx : mx = mx') : vSliceX k S x lo hi mx K = vSliceX k' S' x' lo' hi' mx' K := by cases hk; cases hS; cases hx; cases hlo; cases hhi; cases hmx; rfl
@[congr] theorem c_vSliceS {k : TK} {k' : TK} {S : St} {S' : St} {x : DV} {x' : DV} {lo : Option DV} {lo' : Option DV} {hi : Option DV} {hi' : Option DV} {mx : Option DV} {mx' : Option DV} {K : DV → St → Prop} (hk : k = k') (hS : S = S') (hx : x = x') (hlo : lo = lo') (hhi : hi = hi') (hmx : mx = mx') : vSliceS k S x lo hi mx K = vSliceS k' S' x' lo' hi' mx' K := by cases hk; cases hS; cases hx; cases hlo; cases hhi; cases hmx; rfl
@[congr] theorem c_vMakeSlice {k : TK} {k' : TK} {z : DV} {z' : DV} {x : DV} {x' : DV} {y : DV} {y' : DV} {S : St} {S' : St} {K : DV → St → Prop} (hk : k = k') (hz : z = z') (hx : x = x') (hy : y = y') (hS : S = S') : vMakeSlice k z x y S K = vMakeSlice k' z' x' y' S' K := by cases hk; cases hz; cases hx; cases hy; cases hS; rfl
@[congr] theorem c_shr1 {S : St} {S' : St} {d : DV} {d' : DV} {K : DV → St → Prop} (hS : S = S') (hd : d = d') : shr1 S d K = shr1 S' d' K := by cases hS; cases hd; rfl
@[congr] theorem c_shr1s {S : St} {S' : St} {d : List DV} {d' : List DV} {K : List DV → St → Prop} (hS : S = S') (hd : d = d') : shr1s S d K = shr1s S' d' K := by cases hS; cases hd; rfl
@[congr] theorem c_shr {S : St} {S' : St} {d : DV} {d' : DV} {K : DV → St → Prop} (hS : S = S') (hd : d = d') : shr S d K = shr S' d' K := by cases hS; cases hd; rfl
@[congr] theorem c_shrs {S : St} {S' : St} {d : List DV} {d' : List DV} {K : List DV → St → Prop} (hS : S = S') (hd : d = d') : shrs S d K = shrs S' d' K := by cases hS; cases hd; rfl
@[congr] theorem c_shrT {S : St} {S' : St} {d : DV} {d' : DV} {K : DV → St → Prop} (hS : S = S') (hd : d = d') : shrT S d K = shrT S' d' K := by cases hS; cases hd; rfl
@[congr] theorem c_callK {S : St} {S' : St} {d : List DV} {d' : List DV} {F : List DV → St → Prop} (hS : S = S') (hd : d = d') : callK S d F = callK S' d' F := by cases hS; cases hd; rfl
@[congr] theorem c_fiK {p : Option (Nat × Nat × Bool)} {p' : Option (Nat × Nat × Bool)} {x : DV} {x' : DV} {K : DV → Prop} (hp : p = p') (hx : x = x') : fiK p x K = fiK p' x' K := by cases hp; cases hx; rfl
@[congr] theorem c_fvK {p : Option (Nat × Nat × Bool)} {p' : Option (Nat × Nat × Bool)} {ds : List DV} {ds' : List DV} {K : DV → Prop} (hp : p = p') (hds : ds = ds') : fvK p ds K = fvK p' ds' K := by cases hp; cases hds; rfl
@[congr] theorem c_gD {t : Nat} {t' : Nat} {d : DV} {d' : DV} {fr : List DV} {fr' : List DV} {want : Bool} {want' : Bool} {A : List DV → Prop} {B : List DV → Prop} (ht : t = t') (hd : d = d') (hfr : fr = fr') (hwant : want = want') : gD t d fr want A B = gD t' d' fr' want' A B := by cases ht; cases hd; cases hfr; cases hwant; rfl
@[congr] theorem c_gK {t : Option Tmp} {t' : Option Tmp} {fr : List DV} {fr' : List DV} {want : Bool} {want' : Bool} {A : List DV → Prop} {B : List DV → Prop} (ht : t = t') (hfr : fr = fr') (hwant : want = want') : gK t fr want A B = gK t' fr' want' A B := by cases ht; cases hfr; cases hwant; rfl
@[congr] theorem c_guardK {ops : Array Oper} {fr : List DV} {fr' : List DV} {gd : Option (Nat × Bool)} {gd' : Option (Nat × Bool)} {A : List DV → Prop} {B : List DV → Prop} (hfr : fr = fr') (hgd : gd = gd') : guardK ops fr gd A B = guardK ops fr' gd' A B := by cases hfr; cases hgd; rfl
@[congr] theorem c_buK {k : TK} {k' : TK} {z : DV} {z' : DV} {parts : List (Nat × DV)} {parts' : List (Nat × DV)} {K : DV → Prop} (hk : k = k') (hz : z = z') (hparts : parts = parts') : buK k z parts K = buK k' z' parts' K := by cases hk; cases hz; cases hparts; rfl
@[congr] theorem c_elK {xs : List DV} {xs' : List DV} {i : Nat} {i' : Nat} {F : DV → Prop} (hxs : xs = xs') (hi : i = i') : elK xs i F = elK xs' i' F := by cases hxs; cases hi; rfl
@[congr] theorem c_exK {xs : List DV} {xs' : List DV} {i : Nat} {i' : Nat} {F : DV → Prop} (hxs : xs = xs') (hi : i = i') : exK xs i F = exK xs' i' F := by cases hxs; cases hi; rfl
@[congr] theorem c_bK {o : Option Ob} {o' : Option Ob} {F : Nat → List DV → Prop} {G : Nat → List DV → Prop} (ho : o = o') : bK o F G = bK o' F G := by cases ho; rfl
@[congr] theorem c_oK {α : Type} {o o' : Option α} {F : α → Prop} (h : o = o') : oK o F = oK o' F := by cases h; rfl
@[congr] theorem c_vcOp {P : Program} {w0 : World} {op : Op} {fr : List DV} {fr' : List DV} {S : St} {S' : St} {K : DV → St → Prop} (hfr : fr = fr') (hS : S = S') : vcOp P w0 op fr S K = vcOp P w0 op fr' S' K := by cases hfr; cases hS; rfl
@[congr] theorem c_vcOpQ {P : Program} {w0 : World} {op : Op} {fr : List DV} {fr' : List DV} {S : St} {S' : St} {K : DV → Prop} (hfr : fr = fr') (hS : S = S') : vcOpQ P w0 op fr S K = vcOpQ P w0 op fr' S' K := by cases hfr; cases hS; rfl
@[congr] theorem c_vCall {P : Program} {w0 : World} {cal : DV} {cal' : DV} {ds : List DV} {ds' : List DV} {S : St} {S' : St} {K : DV → St → Prop} (hcal : cal = cal') (hds : ds = ds') (hS : S = S') : vCall P w0 cal ds S K = vCall P w0 cal' ds' S' K := by cases hcal; cases hds; cases hS; rfl
@[congr] theorem c_vCallQ {P : Program} {w0 : World} {cal : DV} {cal' : DV} {ds : List DV} {ds' : List DV} {S : St} {S' : St} {K : DV → Prop} (hcal : cal = cal') (hds : ds = ds') (hS : S = S') : vCallQ P w0 cal ds S K = vCallQ P w0 cal' ds' S' K := by cases hcal; cases hds; cases hS; rfl
@[congr] theorem c_vcL {P : Program} {w0 : World} {ops : Array Oper} {K : List DV → St → Prop} {l : List Oper} {fr : List DV} {fr' : List DV} {S : St} {S' : St} (hfr : fr = fr') (hS : S = S') : vcL P w0 ops K l fr S = vcL P w0 ops K l fr' S' := by cases hfr; cases hS; rfl
@[congr] theorem c_vBuild {P : Program} {t : TypeId} {parts : List (Nat × DV)} {parts' : List (Nat × DV)} {K : DV → Prop} (hparts : parts = parts') : vBuild P t parts K = vBuild P t parts' K := by cases hparts; rfl
@[congr] theorem c_vAssert {P : Program} {t : TypeId} {ok : Bool} {ok' : Bool} {x : DV} {x' : DV} {K : DV → Prop} (hok : ok = ok') (hx : x = x') : vAssert P t ok x K = vAssert P t ok' x' K := by cases hok; cases hx; rfl
@[congr] theorem c_resK1 {P : Program} {fr : List DV} {fr' : List DV} {S : St} {S' : St} {K : DV → Prop} {r : ResultVar} (hfr : fr = fr') (hS : S = S') : resK1 P fr S K r = resK1 P fr' S' K r := by cases hfr; cases hS; rfl
@[congr] theorem c_resKs {P : Program} {fr : List DV} {fr' : List DV} {S : St} {S' : St} {r : List ResultVar} {K : List DV → Prop} (hfr : fr = fr') (hS : S = S') : resKs P fr S r K = resKs P fr' S' r K := by cases hfr; cases hS; rfl
@[congr] theorem c_resK {P : Program} {fr : List DV} {fr' : List DV} {S : St} {S' : St} {r : List ResultVar} {K : DV → Prop} (hfr : fr = fr') (hS : S = S') : resK P fr S r K = resK P fr' S' r K := by cases hfr; cases hS; rfl

def selK (b : Bool) (A B : Prop) : Prop := match b with
  | true => A
  | false => B
theorem n_sel_t (A B : Prop) : selK true A B = A := rfl
theorem n_sel_f (A B : Prop) : selK false A B = B := rfl
@[congr] theorem c_selK {b b' : Bool} {A B : Prop} (h : b = b') : selK b A B = selK b' A B := by cases h; rfl
theorem n_callK (S : St) (ds : List DV) (F : List DV → St → Prop) : callK S ds F = selK (hasAcc ds) (F ds S ∨ shrs S ds F) (shrs S ds F) := by
  unfold callK selK; cases hasAcc ds <;> rfl
attribute [go_sem ↓] n_sel_t n_sel_f n_callK
/-- A new box. -/
def bxK (S : St) (d : DV) (K : DV → St → Prop) : Prop := ∀ b, nin S.box b → K (.v (.pointer (some ⟨b, 0, none⟩))) ⟨(b, cd d) :: S.box, S.acc⟩
@[congr] theorem c_bxK {S S' : St} {d d' : DV} {K : DV → St → Prop} (h1 : S = S') (h2 : d = d') : bxK S d K = bxK S' d' K := by cases h1; cases h2; rfl
theorem e_isQ_move (x : Operand) : isQ (.move x) = true := rfl
theorem e_isQ_assign (x : Operand) : isQ (.assign x) = true := rfl
theorem e_isQ_pick (c a b : Operand) : isQ (.pick c a b) = true := rfl
theorem e_isQ_load (t : TypeId) (x : Operand) : isQ (.load t x) = true := rfl
theorem e_isQ_fieldAddr (t : TypeId) (x : Operand) (f : Nat) : isQ (.fieldAddr t x f) = true := rfl
theorem e_isQ_indexAddr (t : TypeId) (x i : Operand) : isQ (.indexAddr t x i) = true := rfl
theorem e_isQ_index (t : TypeId) (x i : Operand) : isQ (.index t x i) = true := rfl
theorem e_isQ_field (t : TypeId) (x : Operand) (f : Nat) : isQ (.field t x f) = true := rfl
theorem e_isQ_extract (x : Operand) (i : Nat) : isQ (.extract x i) = true := rfl
theorem e_isQ_nilCheck (x : Operand) : isQ (.nilCheck x) = true := rfl
theorem e_isQ_binOp (b : BinOp) (t : TypeId) (x y : Operand) (t' : TypeId) : isQ (.binOp b t x y t') = true := rfl
theorem e_isQ_unOp (b : UnOp) (t : TypeId) (x : Operand) : isQ (.unOp b t x) = true := rfl
theorem e_isQ_convert (s d : TypeId) (x : Operand) : isQ (.convert s d x) = true := rfl
theorem e_isQ_makeInterface (t : TypeId) (x : Operand) : isQ (.makeInterface t x) = true := rfl
theorem e_isQ_typeAssert (x : Operand) (xt t : TypeId) (ok : Bool) : isQ (.typeAssert x xt t ok) = true := rfl
theorem e_isQ_build (t : TypeId) (parts : Array (Nat × Operand)) : isQ (.build t parts) = true := rfl
theorem e_isQ_buildSlice (t : TypeId) (len : Nat) (parts : Array (Nat × Operand)) : isQ (.buildSlice t len parts) = true := rfl
theorem e_isQ_makeFunc (fn : Fn) (a b : Array Operand) : isQ (.makeFunc fn a b) = true := rfl
theorem e_isQ_slice (t : TypeId) (x : Operand) (lo hi mx : Option Operand) : isQ (.slice t x lo hi mx) = true := rfl
theorem e_isQ_box (t : TypeId) (x : Operand) : isQ (.box t x) = false := rfl
theorem e_isQ_alloc (t : TypeId) : isQ (.alloc t) = false := rfl
theorem e_isQ_store (t : TypeId) (x y : Operand) : isQ (.store t x y) = false := rfl
theorem e_isQ_makeSlice (t : TypeId) (x y : Operand) : isQ (.makeSlice t x y) = false := rfl
theorem e_isQ_lookup (t : TypeId) (x i : Operand) (ok : Bool) : isQ (.lookup t x i ok) = true := rfl
theorem e_isQ_range (t : TypeId) (x : Operand) : isQ (.range t x) = true := rfl
theorem e_isQ_next (x : Operand) (s : Bool) : isQ (.next x s) = true := rfl
theorem e_isQ_entry (x : Operand) : isQ (.entry x) = true := rfl
theorem e_isQ_makeMap (t : TypeId) (r : Option Operand) : isQ (.makeMap t r) = false := rfl
theorem e_isQ_mapUpdate (t : TypeId) (m k v : Operand) : isQ (.mapUpdate t m k v) = false := rfl
theorem e_isQ_val (x : Operand) (a : Array Operand) (ts : Array TypeId) : isQ (.call ⟨.value x, a, ts⟩) = true := rfl
theorem e_isQ_inv (x : Operand) (m : String) (a : Array Operand) (ts : Array TypeId) : isQ (.call ⟨.invoke x m, a, ts⟩) = true := rfl
theorem e_isQ_b_len (a : Array Operand) (ts : Array TypeId) : isQ (.call ⟨.builtin .len, a, ts⟩) = true := rfl
theorem e_isQ_b_cap (a : Array Operand) (ts : Array TypeId) : isQ (.call ⟨.builtin .cap, a, ts⟩) = true := rfl
theorem e_isQ_b_min (a : Array Operand) (ts : Array TypeId) : isQ (.call ⟨.builtin .min, a, ts⟩) = true := rfl
theorem e_isQ_b_max (a : Array Operand) (ts : Array TypeId) : isQ (.call ⟨.builtin .max, a, ts⟩) = true := rfl
theorem e_isQ_b_append (a : Array Operand) (ts : Array TypeId) : isQ (.call ⟨.builtin .append, a, ts⟩) = false := rfl
theorem e_isQ_b_clear (a : Array Operand) (ts : Array TypeId) : isQ (.call ⟨.builtin .clear, a, ts⟩) = false := rfl
theorem e_isQ_b_delete (a : Array Operand) (ts : Array TypeId) : isQ (.call ⟨.builtin .delete, a, ts⟩) = false := rfl
theorem e_isQ_b_copy (a : Array Operand) (ts : Array TypeId) : isQ (.call ⟨.builtin .copy, a, ts⟩) = false := rfl
theorem e_ev_tmp (fr : List DV) (t : Nat) : ev fr (.tmp t) = fr.getD t ud := rfl
theorem e_ev_const (fr : List DV) (u : Value) : ev fr (.const u) = cv u := rfl
theorem e_ev_glob (fr : List DV) (n : Nat) : ev fr (.global n) = .v (.pointer (some ⟨n, 0, none⟩)) := rfl
theorem e_ev_func (fr : List DV) (f : FuncId) : ev fr (.func f) = .v (.func (.func f) #[] #[]) := rfl
theorem e_pt_some (fr : List DV) (t : Nat) (d : DV) : pt fr (some t) d = fr.set t d := rfl
theorem e_pt_none (fr : List DV) (d : DV) : pt fr none d = fr := rfl
theorem e_cv0_int (k : IntKind) (n : Int) : cv0 (.int k n) = .v (.int k n) := rfl
theorem e_cv_int (k : IntKind) (n : Int) : cv (.int k n) = .v (.int k n) := rfl
theorem e_cv0_bool (b : Bool) : cv0 (.bool b) = .v (.bool b) := rfl
theorem e_cv_bool (b : Bool) : cv (.bool b) = .v (.bool b) := rfl
theorem e_cv0_str (s : ByteArray) : cv0 (.string s) = .v (.string s) := rfl
theorem e_cv_str (s : ByteArray) : cv (.string s) = .v (.string s) := rfl
theorem e_cv0_nil  : cv0 (.slice none 0 0) = .sl 0 true [] := rfl
theorem e_cv_nil  : cv (.slice none 0 0) = .sl 0 true [] := rfl
theorem e_cv0_ptr (a : Option Addr) : cv0 (.pointer a) = .v (.pointer a) := rfl
theorem e_cv_ptr (a : Option Addr) : cv (.pointer a) = .v (.pointer a) := rfl
theorem e_cv0_map (a : Option Nat) : cv0 (.map a) = .v (.map a) := rfl
theorem e_cv_map (a : Option Nat) : cv (.map a) = .v (.map a) := rfl
theorem e_cv0_nif  : cv0 (.nilIface) = .v .nilIface := rfl
theorem e_cv_nif  : cv (.nilIface) = .v .nilIface := rfl
theorem e_cv0_nfn  : cv0 (.nilFunc) = .v .nilFunc := rfl
theorem e_cv_nfn  : cv (.nilFunc) = .v .nilFunc := rfl
theorem e_cv_agg (l : List Value) : cv (.agg l.toArray) = if l.all (fun u => u.oneCell') = true then .agg (l.map cv0) else .any := by simp [cv]
theorem e_isIfc_one  : isIfc (.one ) = false := rfl
theorem e_isIfc_str  : isIfc (.str ) = false := rfl
theorem e_isIfc_int (k : IntKind) : isIfc (.int k) = false := rfl
theorem e_isIfc_sl (e s b : Nat) (i : Bool) : isIfc (.sl e s b i) = false := rfl
theorem e_isIfc_st (fs : List (Nat × Nat × Bool)) (n : Nat) : isIfc (.st fs n) = false := rfl
theorem e_isIfc_ar (l e s : Nat) (a : Bool) (n : Nat) : isIfc (.ar l e s a n) = false := rfl
theorem e_isIfc_map (k e : Nat) : isIfc (.map k e) = false := rfl
theorem e_isIfc_ptr (e : Nat) : isIfc (.ptr e) = false := rfl
theorem e_isIfc_ifc (m : List String) : isIfc (.ifc m) = true := rfl
theorem e_isIfc_fn  : isIfc (.fn ) = false := rfl
theorem e_intK_one  : intK (.one ) = false := rfl
theorem e_intK_str  : intK (.str ) = false := rfl
theorem e_intK_int (k : IntKind) : intK (.int k) = true := rfl
theorem e_intK_sl (e s b : Nat) (i : Bool) : intK (.sl e s b i) = false := rfl
theorem e_intK_st (fs : List (Nat × Nat × Bool)) (n : Nat) : intK (.st fs n) = false := rfl
theorem e_intK_ar (l e s : Nat) (a : Bool) (n : Nat) : intK (.ar l e s a n) = false := rfl
theorem e_intK_map (k e : Nat) : intK (.map k e) = false := rfl
theorem e_intK_ptr (e : Nat) : intK (.ptr e) = false := rfl
theorem e_intK_ifc (m : List String) : intK (.ifc m) = false := rfl
theorem e_intK_fn  : intK (.fn ) = false := rfl
theorem e_notInt_one  : notInt (.one ) = true := rfl
theorem e_notInt_str  : notInt (.str ) = true := rfl
theorem e_notInt_int (k : IntKind) : notInt (.int k) = false := rfl
theorem e_notInt_sl (e s b : Nat) (i : Bool) : notInt (.sl e s b i) = true := rfl
theorem e_notInt_st (fs : List (Nat × Nat × Bool)) (n : Nat) : notInt (.st fs n) = true := rfl
theorem e_notInt_ar (l e s : Nat) (a : Bool) (n : Nat) : notInt (.ar l e s a n) = true := rfl
theorem e_notInt_map (k e : Nat) : notInt (.map k e) = true := rfl
theorem e_notInt_ptr (e : Nat) : notInt (.ptr e) = true := rfl
theorem e_notInt_ifc (m : List String) : notInt (.ifc m) = true := rfl
theorem e_notInt_fn  : notInt (.fn ) = true := rfl
theorem e_nacc_v (u : Value) : nacc (.v u) = true := rfl
theorem e_nacc_sl (s : Nat) (f : Bool) (xs : List DV) : nacc (.sl s f xs) = true := rfl
theorem e_nacc_ifc (t : TypeId) (d : DV) : nacc (.ifc t d) = true := rfl
theorem e_nacc_ip (ds : List DV) : nacc (.ip ds) = true := rfl
theorem e_nacc_any  : nacc (.any ) = true := rfl
theorem e_nacc_acc (l n : Nat) : nacc (.acc l n) = false := rfl
theorem e_nacc_ap (l n s i o : Nat) : nacc (.ap l n s i o) = true := rfl
theorem e_nacc_tup (ds : List DV) : nacc (.tup ds) = true := rfl
theorem e_naccA_v (u : Value) : naccA (.v u) = true := rfl
theorem e_naccA_sl (s : Nat) (f : Bool) (xs : List DV) : naccA (.sl s f xs) = true := rfl
theorem e_naccA_ifc (t : TypeId) (d : DV) : naccA (.ifc t d) = true := rfl
theorem e_naccA_ip (ds : List DV) : naccA (.ip ds) = true := rfl
theorem e_naccA_any  : naccA (.any ) = true := rfl
theorem e_naccA_acc (l n : Nat) : naccA (.acc l n) = false := rfl
theorem e_naccA_ap (l n s i o : Nat) : naccA (.ap l n s i o) = true := rfl
theorem e_naccA_tup (ds : List DV) : naccA (.tup ds) = true := rfl
theorem e_nacc_agg (ds : List DV) : nacc (.agg ds) = true := rfl
theorem e_naccA_agg (ds : List DV) : naccA (.agg ds) = ds.all nacc := rfl
theorem e_isC_tmp (t : Nat) : isC (.tmp t) = false := rfl
theorem e_isC_const (u : Value) : isC (.const u) = true := rfl
theorem e_isC_global (n : Nat) : isC (.global n) = false := rfl
theorem e_isC_func (f : FuncId) : isC (.func f) = false := rfl
theorem e_vals_nil : vals [] = some [] := rfl
theorem e_vals_v (u : Value) (ds : List DV) : vals (.v u :: ds) = (vals ds).map (u :: ·) := rfl
theorem e_fillD_nil (fs : List (Nat × Nat × Bool)) (ds : List DV) : fillD fs ds [] = some ds := rfl
def fd1 (p : Option (Nat × Nat × Bool)) (fs : List (Nat × Nat × Bool)) (d : DV) (ds : List DV) (rest : List (Nat × DV)) : Option (List DV) := match p with
  | none => none
  | some (off, sz, _) => if okE d && (cd d).length == sz && decide (off + sz ≤ ds.length) then fillD fs (setAll ds off (cd d)) rest else none
theorem e_fillD_cons (fs : List (Nat × Nat × Bool)) (ds : List DV) (i : Nat) (d : DV) (rest : List (Nat × DV)) : fillD fs ds ((i, d) :: rest) = fd1 (fs[i]?) fs d ds rest := by rw [fillD]; unfold fd1; cases fs[i]? <;> rfl
theorem e_fd1 (off sz : Nat) (ag : Bool) (fs : List (Nat × Nat × Bool)) (d : DV) (ds : List DV) (rest : List (Nat × DV)) : fd1 (some (off, sz, ag)) fs d ds rest = if okE d && (cd d).length == sz && decide (off + sz ≤ ds.length) then fillD fs (setAll ds off (cd d)) rest else none := rfl
theorem e_fillE_nil (s : Nat) (ds : List DV) : fillE s ds [] = some ds := rfl
theorem e_fillE_cons (s : Nat) (ds : List DV) (i : Nat) (d : DV) (rest : List (Nat × DV)) : fillE s ds ((i, d) :: rest) = if okE d && (cd d).length == s && decide (i < ds.length) then fillE s (ds.set i d) rest else none := rfl
theorem e_setAll_nil (ds : List DV) (o : Nat) : setAll ds o [] = ds := rfl
theorem e_setAll_cons (ds : List DV) (o : Nat) (c : DV) (cs : List DV) : setAll ds o (c :: cs) = setAll (ds.set o c) (o + 1) cs := rfl
theorem e_elSet_all (d : DV) (n : Nat) (y : DV) : elSet d 0 n n y = some y := by simp [elSet]
theorem e_elSet_agg (ds : List DV) (o n s : Nat) (y : DV) : elSet (.agg ds) o n s y = if o = 0 ∧ n = s then some y else some (.agg (setAll ds o (cd y))) := rfl
theorem e_ren_nil (n : Nat) (p : Nat × Ob) : ren [] n p = [] := rfl
theorem e_ren_same (k : Nat) (x : Ob) (t : List (Nat × Ob)) (p : Nat × Ob) : ren ((k, x) :: t) k p = p :: t := by simp [ren]
theorem e_ren_ne {k n : Nat} (h : ¬ k = n) (x : Ob) (t : List (Nat × Ob)) (p : Nat × Ob) : ren ((k, x) :: t) n p = (k, x) :: ren t n p := by simp [ren, h]
theorem e_same_add (k : IntKind) : sameKind .add k k = true := by simp [sameKind]
theorem e_same_sub (k : IntKind) : sameKind .sub k k = true := by simp [sameKind]
theorem e_same_mul (k : IntKind) : sameKind .mul k k = true := by simp [sameKind]
theorem e_same_quo (k : IntKind) : sameKind .quo k k = true := by simp [sameKind]
theorem e_same_rem (k : IntKind) : sameKind .rem k k = true := by simp [sameKind]
theorem e_same_and (k : IntKind) : sameKind .and k k = true := by simp [sameKind]
theorem e_same_or (k : IntKind) : sameKind .or k k = true := by simp [sameKind]
theorem e_same_xor (k : IntKind) : sameKind .xor k k = true := by simp [sameKind]
theorem e_same_andNot (k : IntKind) : sameKind .andNot k k = true := by simp [sameKind]
theorem e_same_eql (k : IntKind) : sameKind .eql k k = true := by simp [sameKind]
theorem e_same_neq (k : IntKind) : sameKind .neq k k = true := by simp [sameKind]
theorem e_same_lss (k : IntKind) : sameKind .lss k k = true := by simp [sameKind]
theorem e_same_leq (k : IntKind) : sameKind .leq k k = true := by simp [sameKind]
theorem e_same_gtr (k : IntKind) : sameKind .gtr k k = true := by simp [sameKind]
theorem e_same_geq (k : IntKind) : sameKind .geq k k = true := by simp [sameKind]
theorem e_same_shl (k k' : IntKind) : sameKind .shl k k' = true := rfl
theorem e_same_shr (k k' : IntKind) : sameKind .shr k k' = true := rfl
theorem e_replicate_0 {α : Type} (a : α) : List.replicate 0 a = [] := rfl
theorem e_replicate_s {α : Type} (n : Nat) (a : α) : List.replicate (n + 1) a = a :: List.replicate n a := rfl
theorem e_set_0 {α : Type} (a b : α) (l : List α) : (a :: l).set 0 b = b :: l := rfl
theorem e_set_s {α : Type} (a b : α) (l : List α) (n : Nat) : (a :: l).set (n + 1) b = a :: l.set n b := rfl
theorem e_set_nil {α : Type} (b : α) (n : Nat) : ([] : List α).set n b = [] := rfl
theorem e_wk (live : List Nat) (fr : List DV) : wk live fr = wkA fr 0 live := rfl
theorem e_wkA_nil (i : Nat) (js : List Nat) : wkA [] i js = [] := rfl
theorem e_wkA_n (d : DV) (ds : List DV) (i : Nat) : wkA (d :: ds) i [] = .any :: wkA ds (i + 1) [] := rfl
theorem e_wkA_c (d : DV) (ds : List DV) (i j : Nat) (js : List Nat) : wkA (d :: ds) i (j :: js) = if i = j then d :: wkA ds (i + 1) js else .any :: wkA ds (i + 1) (j :: js) := rfl
theorem e_upds_nil (fr : List DV) : upds fr [] = fr := rfl
theorem e_upds_cons (fr : List DV) (i : Nat) (d : DV) (us : List (Nat × DV)) : upds fr ((i, d) :: us) = upds (fr.set i d) us := rfl
theorem e_app_nil {α : Type} (l : List α) : List.append [] l = l := rfl
theorem e_app_cons {α : Type} (a : α) (l m : List α) : List.append (a :: l) m = a :: List.append l m := rfl
theorem v_move {P : Program} {w0 : World} {fr : List DV} {S : St} {K : DV → St → Prop} (x : Operand) : vcOp P w0 (.move x) fr S K = (K (ev fr x) S) := rfl
theorem v_assign {P : Program} {w0 : World} {fr : List DV} {S : St} {K : DV → St → Prop} (x : Operand) : vcOp P w0 (.assign x) fr S K = (K (ev fr x) S) := rfl
theorem v_pick {P : Program} {w0 : World} {fr : List DV} {S : St} {K : DV → St → Prop} (c a b : Operand) : vcOp P w0 (.pick c a b) fr S K = (vPick (ev fr c) (ev fr a) (ev fr b) (K · S)) := rfl
theorem v_load {P : Program} {w0 : World} {fr : List DV} {S : St} {K : DV → St → Prop} (t : TypeId) (x : Operand) : vcOp P w0 (.load t x) fr S K = (vLoad (tk P t) S (ev fr x) (K · S)) := rfl
theorem v_fieldAddr {P : Program} {w0 : World} {fr : List DV} {S : St} {K : DV → St → Prop} (t : TypeId) (x : Operand) (f : Nat) : vcOp P w0 (.fieldAddr t x f) fr S K = (vField (tk P t) f (ev fr x) (K · S)) := rfl
theorem v_indexAddr {P : Program} {w0 : World} {fr : List DV} {S : St} {K : DV → St → Prop} (t : TypeId) (x i : Operand) : vcOp P w0 (.indexAddr t x i) fr S K = (vIndexAddr (tk P t) (ev fr x) (ev fr i) (K · S)) := rfl
theorem v_index {P : Program} {w0 : World} {fr : List DV} {S : St} {K : DV → St → Prop} (t : TypeId) (x i : Operand) : vcOp P w0 (.index t x i) fr S K = (vIndex (tk P t) (ev fr x) (ev fr i) (K · S)) := rfl
theorem v_field {P : Program} {w0 : World} {fr : List DV} {S : St} {K : DV → St → Prop} (t : TypeId) (x : Operand) (f : Nat) : vcOp P w0 (.field t x f) fr S K = (vFieldV (tk P t) f (ev fr x) (K · S)) := rfl
theorem v_extract {P : Program} {w0 : World} {fr : List DV} {S : St} {K : DV → St → Prop} (x : Operand) (i : Nat) : vcOp P w0 (.extract x i) fr S K = (vExtract i (ev fr x) (K · S)) := rfl
theorem v_nilCheck {P : Program} {w0 : World} {fr : List DV} {S : St} {K : DV → St → Prop} (x : Operand) : vcOp P w0 (.nilCheck x) fr S K = (notNil (ev fr x) = true ∧ K (ev fr x) S) := rfl
theorem v_binOp {P : Program} {w0 : World} {fr : List DV} {S : St} {K : DV → St → Prop} (b : BinOp) (t : TypeId) (x y : Operand) (t' : TypeId) : vcOp P w0 (.binOp b t x y t') fr S K = (selK (isNilC y) (vNilEq b (tk P t) (ev fr x) (K · S)) (vBin b (tk P t) (isC x) (isC y) (ev fr x) (ev fr y) (K · S))) := by simp only [vcOp]; unfold selK; cases isNilC y <;> rfl
theorem v_unOp {P : Program} {w0 : World} {fr : List DV} {S : St} {K : DV → St → Prop} (b : UnOp) (t : TypeId) (x : Operand) : vcOp P w0 (.unOp b t x) fr S K = (vUn b (ev fr x) (K · S)) := rfl
theorem v_convert {P : Program} {w0 : World} {fr : List DV} {S : St} {K : DV → St → Prop} (s d : TypeId) (x : Operand) : vcOp P w0 (.convert s d x) fr S K = (vConv (tk P s) (tk P d) (ev fr x) (K · S)) := rfl
theorem v_mkIfc {P : Program} {w0 : World} {fr : List DV} {S : St} {K : DV → St → Prop} (t : TypeId) (x : Operand) : vcOp P w0 (.makeInterface t x) fr S K = (isIfc (tk P t) = false ∧ shr S (ev fr x) fun d S => K (.ifc t d) S) := rfl
theorem v_assert {P : Program} {w0 : World} {fr : List DV} {S : St} {K : DV → St → Prop} (x : Operand) (xt t : TypeId) (ok : Bool) : vcOp P w0 (.typeAssert x xt t ok) fr S K = (vAssert P t ok (ev fr x) (K · S)) := rfl
theorem v_build {P : Program} {w0 : World} {fr : List DV} {S : St} {K : DV → St → Prop} (t : TypeId) (parts : List (Nat × Operand)) : vcOp P w0 (.build t parts.toArray) fr S K = (shrs S (parts.map fun p => ev fr p.2) fun ds S => vBuild P t ((parts.map (·.1)).zip ds) (K · S)) := rfl
theorem v_buildSlice {P : Program} {w0 : World} {fr : List DV} {S : St} {K : DV → St → Prop} (t : TypeId) (len : Nat) (parts : List (Nat × Operand)) : vcOp P w0 (.buildSlice t len parts.toArray) fr S K = (shrs S (parts.map fun p => ev fr p.2) fun ds S => vBuildSlice (tk P t) (zD P (elT P t)) len ((parts.map (·.1)).zip ds) (K · S)) := rfl
theorem v_makeFunc {P : Program} {w0 : World} {fr : List DV} {S : St} {K : DV → St → Prop} (fn : Fn) (a b : List Operand) : vcOp P w0 (.makeFunc fn a.toArray b.toArray) fr S K = (vFunc fn (a.map (ev fr)) (b.map (ev fr)) (K · S)) := rfl
theorem v_slice {P : Program} {w0 : World} {fr : List DV} {S : St} {K : DV → St → Prop} (t : TypeId) (x : Operand) (lo hi mx : Option Operand) : vcOp P w0 (.slice t x lo hi mx) fr S K = ((mx.isSome = true → hi.isSome = true) ∧ vSliceX (tk P t) S (ev fr x) (lo.map (ev fr)) (hi.map (ev fr)) (mx.map (ev fr)) K) := rfl
theorem v_box {P : Program} {w0 : World} {fr : List DV} {S : St} {K : DV → St → Prop} (t : TypeId) (x : Operand) : vcOp P w0 (.box t x) fr S K = (okE (ev fr x) = true ∧ bxK S (ev fr x) K) := rfl
theorem v_alloc {P : Program} {w0 : World} {fr : List DV} {S : St} {K : DV → St → Prop} (t : TypeId) : vcOp P w0 (.alloc t) fr S K = (okE (zD P t) = true ∧ bxK S (zD P t) K) := rfl
theorem v_store {P : Program} {w0 : World} {fr : List DV} {S : St} {K : DV → St → Prop} (t : TypeId) (x y : Operand) : vcOp P w0 (.store t x y) fr S K = ((P.info? t).isSome = true ∧ vStoreX (P.cellsOf t) S (ev fr x) (ev fr y) (K ud)) := rfl
theorem v_makeSlice {P : Program} {w0 : World} {fr : List DV} {S : St} {K : DV → St → Prop} (t : TypeId) (x y : Operand) : vcOp P w0 (.makeSlice t x y) fr S K = (vMakeSlice (tk P t) (zD P (elT P t)) (ev fr x) (ev fr y) S K) := rfl
theorem v_len {P : Program} {w0 : World} {fr : List DV} {S : St} {K : DV → St → Prop} (x : Operand) (t : TypeId) : vcOp P w0 (.call ⟨.builtin .len, #[x], #[t]⟩) fr S K = (vLen (tk P t) (ev fr x) (K · S)) := rfl
theorem v_cap {P : Program} {w0 : World} {fr : List DV} {S : St} {K : DV → St → Prop} (x : Operand) (t : TypeId) : vcOp P w0 (.call ⟨.builtin .cap, #[x], #[t]⟩) fr S K = (vCap (tk P t) (ev fr x) (K · S)) := rfl
theorem v_append {P : Program} {w0 : World} {fr : List DV} {S : St} {K : DV → St → Prop} (x y : Operand) (t t' : TypeId) : vcOp P w0 (.call ⟨.builtin .append, #[x, y], #[t, t']⟩) fr S K = (selK (intK (tk P t')) (vAppInt (tk P t) (zD P (elT P t)) S (ev fr x) (ev fr y) K) (vAppend (tk P t) (tk P t') S (ev fr x) (ev fr y) K)) := by simp only [vcOp]; unfold selK; cases intK (tk P t') <;> rfl
theorem v_min {P : Program} {w0 : World} {fr : List DV} {S : St} {K : DV → St → Prop} (x y : Operand) (ts : Array TypeId) : vcOp P w0 (.call ⟨.builtin .min, #[x, y], ts⟩) fr S K = (vMin (ev fr x) (ev fr y) (K · S)) := rfl
theorem v_max {P : Program} {w0 : World} {fr : List DV} {S : St} {K : DV → St → Prop} (x y : Operand) (ts : Array TypeId) : vcOp P w0 (.call ⟨.builtin .max, #[x, y], ts⟩) fr S K = (vMax (ev fr x) (ev fr y) (K · S)) := rfl
theorem v_call {P : Program} {w0 : World} {fr : List DV} {S : St} {K : DV → St → Prop} (cal : Operand) (a : List Operand) (ts : Array TypeId) : vcOp P w0 (.call ⟨.value cal, a.toArray, ts⟩) fr S K = (vCall P w0 (ev fr cal) (a.map (ev fr)) S K) := rfl
theorem w_move {P : Program} {w0 : World} {fr : List DV} {S : St} {K : DV → Prop} (x : Operand) : vcOpQ P w0 (.move x) fr S K = (K (ev fr x)) := rfl
theorem w_assign {P : Program} {w0 : World} {fr : List DV} {S : St} {K : DV → Prop} (x : Operand) : vcOpQ P w0 (.assign x) fr S K = (K (ev fr x)) := rfl
theorem w_pick {P : Program} {w0 : World} {fr : List DV} {S : St} {K : DV → Prop} (c a b : Operand) : vcOpQ P w0 (.pick c a b) fr S K = (vPick (ev fr c) (ev fr a) (ev fr b) K) := rfl
theorem w_load {P : Program} {w0 : World} {fr : List DV} {S : St} {K : DV → Prop} (t : TypeId) (x : Operand) : vcOpQ P w0 (.load t x) fr S K = (vLoad (tk P t) S (ev fr x) K) := rfl
theorem w_fieldAddr {P : Program} {w0 : World} {fr : List DV} {S : St} {K : DV → Prop} (t : TypeId) (x : Operand) (f : Nat) : vcOpQ P w0 (.fieldAddr t x f) fr S K = (vField (tk P t) f (ev fr x) K) := rfl
theorem w_indexAddr {P : Program} {w0 : World} {fr : List DV} {S : St} {K : DV → Prop} (t : TypeId) (x i : Operand) : vcOpQ P w0 (.indexAddr t x i) fr S K = (vIndexAddr (tk P t) (ev fr x) (ev fr i) K) := rfl
theorem w_index {P : Program} {w0 : World} {fr : List DV} {S : St} {K : DV → Prop} (t : TypeId) (x i : Operand) : vcOpQ P w0 (.index t x i) fr S K = (vIndex (tk P t) (ev fr x) (ev fr i) K) := rfl
theorem w_field {P : Program} {w0 : World} {fr : List DV} {S : St} {K : DV → Prop} (t : TypeId) (x : Operand) (f : Nat) : vcOpQ P w0 (.field t x f) fr S K = (vFieldV (tk P t) f (ev fr x) K) := rfl
theorem w_extract {P : Program} {w0 : World} {fr : List DV} {S : St} {K : DV → Prop} (x : Operand) (i : Nat) : vcOpQ P w0 (.extract x i) fr S K = (vExtract i (ev fr x) K) := rfl
theorem w_nilCheck {P : Program} {w0 : World} {fr : List DV} {S : St} {K : DV → Prop} (x : Operand) : vcOpQ P w0 (.nilCheck x) fr S K = (notNil (ev fr x) = true ∧ K (ev fr x)) := rfl
theorem w_binOp {P : Program} {w0 : World} {fr : List DV} {S : St} {K : DV → Prop} (b : BinOp) (t : TypeId) (x y : Operand) (t' : TypeId) : vcOpQ P w0 (.binOp b t x y t') fr S K = (isNilC y = false ∧ vBin b (tk P t) (isC x) (isC y) (ev fr x) (ev fr y) K) := rfl
theorem w_unOp {P : Program} {w0 : World} {fr : List DV} {S : St} {K : DV → Prop} (b : UnOp) (t : TypeId) (x : Operand) : vcOpQ P w0 (.unOp b t x) fr S K = (vUn b (ev fr x) K) := rfl
theorem w_convert {P : Program} {w0 : World} {fr : List DV} {S : St} {K : DV → Prop} (s d : TypeId) (x : Operand) : vcOpQ P w0 (.convert s d x) fr S K = (vConv (tk P s) (tk P d) (ev fr x) K) := rfl
theorem w_mkIfc {P : Program} {w0 : World} {fr : List DV} {S : St} {K : DV → Prop} (t : TypeId) (x : Operand) : vcOpQ P w0 (.makeInterface t x) fr S K = (isIfc (tk P t) = false ∧ naccA (ev fr x) = true ∧ K (.ifc t (ev fr x))) := rfl
theorem w_makeFunc {P : Program} {w0 : World} {fr : List DV} {S : St} {K : DV → Prop} (fn : Fn) (a b : List Operand) : vcOpQ P w0 (.makeFunc fn a.toArray b.toArray) fr S K = (vFunc fn (a.map (ev fr)) (b.map (ev fr)) K) := rfl
theorem w_slice {P : Program} {w0 : World} {fr : List DV} {S : St} {K : DV → Prop} (t : TypeId) (x : Operand) (lo hi mx : Option Operand) : vcOpQ P w0 (.slice t x lo hi mx) fr S K = ((mx.isSome = true → hi.isSome = true) ∧ nacc (ev fr x) = true ∧ vSlice (tk P t) (ev fr x) (lo.map (ev fr)) (hi.map (ev fr)) (mx.map (ev fr)) K) := rfl
theorem w_build {P : Program} {w0 : World} {fr : List DV} {S : St} {K : DV → Prop} (t : TypeId) (parts : List (Nat × Operand)) : vcOpQ P w0 (.build t parts.toArray) fr S K = ((parts.map fun p => ev fr p.2).all naccA = true ∧ vBuild P t ((parts.map (·.1)).zip (parts.map fun p => ev fr p.2)) K) := rfl
theorem w_buildSlice {P : Program} {w0 : World} {fr : List DV} {S : St} {K : DV → Prop} (t : TypeId) (len : Nat) (parts : List (Nat × Operand)) : vcOpQ P w0 (.buildSlice t len parts.toArray) fr S K = ((parts.map fun p => ev fr p.2).all naccA = true ∧ vBuildSlice (tk P t) (zD P (elT P t)) len ((parts.map (·.1)).zip (parts.map fun p => ev fr p.2)) K) := rfl
theorem w_len {P : Program} {w0 : World} {fr : List DV} {S : St} {K : DV → Prop} (x : Operand) (t : TypeId) : vcOpQ P w0 (.call ⟨.builtin .len, #[x], #[t]⟩) fr S K = (vLen (tk P t) (ev fr x) K) := rfl
theorem w_cap {P : Program} {w0 : World} {fr : List DV} {S : St} {K : DV → Prop} (x : Operand) (t : TypeId) : vcOpQ P w0 (.call ⟨.builtin .cap, #[x], #[t]⟩) fr S K = (vCap (tk P t) (ev fr x) K) := rfl
theorem w_min {P : Program} {w0 : World} {fr : List DV} {S : St} {K : DV → Prop} (x y : Operand) (ts : Array TypeId) : vcOpQ P w0 (.call ⟨.builtin .min, #[x, y], ts⟩) fr S K = (vMin (ev fr x) (ev fr y) K) := rfl
theorem w_max {P : Program} {w0 : World} {fr : List DV} {S : St} {K : DV → Prop} (x y : Operand) (ts : Array TypeId) : vcOpQ P w0 (.call ⟨.builtin .max, #[x, y], ts⟩) fr S K = (vMax (ev fr x) (ev fr y) K) := rfl
theorem w_call {P : Program} {w0 : World} {fr : List DV} {S : St} {K : DV → Prop} (cal : Operand) (a : List Operand) (ts : Array TypeId) : vcOpQ P w0 (.call ⟨.value cal, a.toArray, ts⟩) fr S K = (vCallQ P w0 (ev fr cal) (a.map (ev fr)) S K) := rfl
attribute [go_sem ↓] v_move v_assign v_pick v_load v_fieldAddr v_indexAddr v_index v_field v_extract v_nilCheck v_binOp v_unOp v_convert v_mkIfc v_assert v_build v_buildSlice v_makeFunc v_slice v_box v_alloc v_store v_makeSlice v_len v_cap v_append v_min v_max v_call w_move w_assign w_pick w_load w_fieldAddr w_indexAddr w_index w_field w_extract w_nilCheck w_binOp
attribute [go_sem ↓] w_unOp w_convert w_mkIfc w_makeFunc w_slice w_build w_buildSlice w_len w_cap w_min w_max w_call
attribute [go_sem] e_isQ_move e_isQ_assign e_isQ_pick e_isQ_load e_isQ_fieldAddr e_isQ_indexAddr e_isQ_index e_isQ_field e_isQ_extract e_isQ_nilCheck e_isQ_binOp e_isQ_unOp e_isQ_convert e_isQ_makeInterface e_isQ_typeAssert e_isQ_build e_isQ_buildSlice e_isQ_makeFunc e_isQ_slice e_isQ_box e_isQ_alloc e_isQ_store e_isQ_makeSlice e_isQ_lookup e_isQ_range e_isQ_next e_isQ_entry e_isQ_makeMap e_isQ_mapUpdate e_isQ_val e_isQ_inv e_isQ_b_len e_isQ_b_cap e_isQ_b_min e_isQ_b_max e_isQ_b_append e_isQ_b_clear e_isQ_b_delete e_isQ_b_copy e_ev_tmp
attribute [go_sem] e_ev_const e_ev_glob e_ev_func e_pt_some e_pt_none e_cv0_int e_cv_int e_cv0_bool e_cv_bool e_cv0_str e_cv_str e_cv0_nil e_cv_nil e_cv0_ptr e_cv_ptr e_cv0_map e_cv_map e_cv0_nif e_cv_nif e_cv0_nfn e_cv_nfn e_cv_agg e_isIfc_one e_isIfc_str e_isIfc_int e_isIfc_sl e_isIfc_st e_isIfc_ar e_isIfc_map e_isIfc_ptr e_isIfc_ifc e_isIfc_fn e_intK_one e_intK_str e_intK_int e_intK_sl e_intK_st e_intK_ar e_intK_map e_intK_ptr
attribute [go_sem] e_intK_ifc e_intK_fn e_notInt_one e_notInt_str e_notInt_int e_notInt_sl e_notInt_st e_notInt_ar e_notInt_map e_notInt_ptr e_notInt_ifc e_notInt_fn e_nacc_v e_nacc_sl e_nacc_ifc e_nacc_ip e_nacc_any e_nacc_acc e_nacc_ap e_nacc_tup e_naccA_v e_naccA_sl e_naccA_ifc e_naccA_ip e_naccA_any e_naccA_acc e_naccA_ap e_naccA_tup e_nacc_agg e_naccA_agg e_isC_tmp e_isC_const e_isC_global e_isC_func e_vals_nil e_vals_v e_fillD_nil e_fillD_cons e_fd1 e_fillE_nil
attribute [go_sem] e_fillE_cons e_setAll_nil e_setAll_cons e_elSet_all e_elSet_agg e_ren_nil e_ren_same e_ren_ne e_same_add e_same_sub e_same_mul e_same_quo e_same_rem e_same_and e_same_or e_same_xor e_same_andNot e_same_eql e_same_neq e_same_lss e_same_leq e_same_gtr e_same_geq e_same_shl e_same_shr e_replicate_0 e_replicate_s e_set_0 e_set_s e_set_nil e_wk e_wkA_nil e_wkA_n e_wkA_c e_upds_nil e_upds_cons e_app_nil e_app_cons
section
variable {P : Program} {w0 : World} {K : DV → Prop} {A B : Prop} {F G : List DV → Prop}
/- Tests: what is known is gone by; what can't be known parts the way. -/
theorem n_cond_t : condD (.v (.bool true)) A B = A := by simp [condD]
theorem n_cond_f : condD (.v (.bool false)) A B = B := by simp [condD]
theorem n_cond_d (p : Prop) [Decidable p] : condD (.v (.bool (decide p))) A B = ((p → A) ∧ (¬ p → B)) := by simp [condD]
theorem n_cond_n (b : Bool) : condD (.v (.bool (!b))) A B = condD (.v (.bool b)) B A := by
  simp only [condD, Bool.not_eq_eq_eq_not, Bool.not_true, Bool.not_false]
  exact propext ⟨fun h => ⟨h.2, h.1⟩, fun h => ⟨h.2, h.1⟩⟩
theorem n_cond_b (b : Bool) : condD (.v (.bool b)) A B = ((b = true → A) ∧ (b = false → B)) := rfl
theorem n_pick_t (a b : DV) : vPick (.v (.bool true)) a b K = K a := by simp [vPick]
theorem n_pick_f (a b : DV) : vPick (.v (.bool false)) a b K = K b := by simp [vPick]
theorem n_pick_d (p : Prop) [Decidable p] (a b : DV) : vPick (.v (.bool (decide p))) a b K = ((p → K a) ∧ (¬ p → K b)) := by simp [vPick]
theorem n_pick_n (t : Bool) (a b : DV) : vPick (.v (.bool (!t))) a b K = vPick (.v (.bool t)) b a K := by
  simp only [vPick, Bool.not_eq_eq_eq_not, Bool.not_true, Bool.not_false]
  exact propext ⟨fun h => ⟨h.2, h.1⟩, fun h => ⟨h.2, h.1⟩⟩
theorem n_pick_b (t : Bool) (a b : DV) : vPick (.v (.bool t)) a b K = ((t = true → K a) ∧ (t = false → K b)) := rfl
/- A choice between what is known is the test itself. -/
theorem n_pick_tf (t : Bool) : vPick (.v (.bool t)) (.v (.bool true)) (.v (.bool false)) K = K (.v (.bool t)) := by cases t <;> simp [vPick]
theorem n_pick_ft (t : Bool) : vPick (.v (.bool t)) (.v (.bool false)) (.v (.bool true)) K = K (.v (.bool (!t))) := by cases t <;> simp [vPick]
theorem n_gD_tt (t : Nat) (fr : List DV) : gD t (.v (.bool true)) fr true F G = F (fr.set t (.v (.bool true))) := by simp [gD]
theorem n_gD_tf (t : Nat) (fr : List DV) : gD t (.v (.bool true)) fr false F G = G (fr.set t (.v (.bool true))) := by simp [gD]
theorem n_gD_ft (t : Nat) (fr : List DV) : gD t (.v (.bool false)) fr true F G = G (fr.set t (.v (.bool false))) := by simp [gD]
theorem n_gD_ff (t : Nat) (fr : List DV) : gD t (.v (.bool false)) fr false F G = F (fr.set t (.v (.bool false))) := by simp [gD]
theorem n_gD_dt (p : Prop) [Decidable p] (t : Nat) (fr : List DV) : gD t (.v (.bool (decide p))) fr true F G = ((p → F (fr.set t (.v (.bool true)))) ∧ (¬ p → G (fr.set t (.v (.bool false))))) := by simp [gD]
theorem n_gD_df (p : Prop) [Decidable p] (t : Nat) (fr : List DV) : gD t (.v (.bool (decide p))) fr false F G = ((p → G (fr.set t (.v (.bool true)))) ∧ (¬ p → F (fr.set t (.v (.bool false))))) := by
  simp only [gD, decide_eq_false_iff_not, Bool.not_false, decide_eq_true_eq]
  exact propext ⟨fun h => ⟨h.2, h.1⟩, fun h => ⟨h.2, h.1⟩⟩
theorem n_gD_bt (b : Bool) (t : Nat) (fr : List DV) : gD t (.v (.bool b)) fr true F G = ((b = true → F (fr.set t (.v (.bool true)))) ∧ (b = false → G (fr.set t (.v (.bool false))))) := by simp [gD]
theorem n_gD_bf (b : Bool) (t : Nat) (fr : List DV) : gD t (.v (.bool b)) fr false F G = ((b = true → G (fr.set t (.v (.bool true)))) ∧ (b = false → F (fr.set t (.v (.bool false))))) := by
  simp only [gD, Bool.not_false]
  exact propext ⟨fun h => ⟨h.2, h.1⟩, fun h => ⟨h.2, h.1⟩⟩
end
attribute [go_sem ↓] n_cond_t n_cond_f n_cond_d n_cond_n n_pick_t n_pick_f n_pick_d n_pick_n n_gD_tt n_gD_tf n_gD_ft n_gD_ff n_gD_dt n_gD_df
attribute [go_sem ↓ low] n_cond_b n_pick_b n_gD_bt n_gD_bf
attribute [go_sem] List.length_cons List.length_nil List.length_map List.cons_append List.nil_append List.map_cons List.map_nil List.zip_cons_cons List.zip_nil_right
section
variable {P : Program} {w0 : World} {ops : Array Oper} {K : List DV → St → Prop} {fr : List DV} {S : St} {rest : List Oper} {dst : Option Tmp} {op : Op} {ty : TypeId} {pos : String} {aft : Array Edge}
theorem n_vcL_nil : vcL P w0 ops K [] fr S = K fr S := rfl
theorem n_vcL_none : vcL P w0 ops K (⟨dst, op, ty, pos, aft, none⟩ :: rest) fr S = vcOp P w0 op fr S fun d S' => vcL P w0 ops K rest (pt fr dst d) S' := rfl
theorem n_vcL_some (j : Nat) (want : Bool) : vcL P w0 ops K (⟨dst, op, ty, pos, aft, some (j, want)⟩ :: rest) fr S = gK ((ops[j]?).bind (·.dst)) fr want (fun fr => vcOp P w0 op fr S fun d S' => vcL P w0 ops K rest (pt fr dst d) S') (fun fr => vcL P w0 ops K rest (pt fr dst ud) S) := q_guard _ _ _ _ _ _
end
/-- A call that hands back one value. -/
def QC (P : Program) (w0 : World) (f : FuncId) (ds : List DV) (S : St) [K : Cn (DV → Prop)] : Prop := ∃ d, ACall P w0 f ds S (fun d' S' => d' = d ∧ S' = S) ∧ K.k d
theorem n_callQ {P : Program} {w0 : World} (f : FuncId) (a cap : Array Value) (ds : List DV) (S : St) (K : DV → Prop) : vCallQ P w0 (.v (.func (.func f) a cap)) ds S K = (a.size = 0 ∧ okF P f = true ∧ cap.toList.all (fun u => u.oneCell') = true ∧ ds.all naccA = true ∧ @QC P w0 f (ds ++ cap.toList.map .v) S ⟨K⟩) := rfl
attribute [go_sem ↓] n_vcL_nil n_vcL_none n_vcL_some n_callQ thenQ blockQ vBinI vSliceS resKs vCut0
attribute [go_sem] List.getD_cons_succ List.getD_cons_zero List.getElem?_cons_succ List.getElem?_cons_zero List.getElem?_toArray Option.bind_some List.all_cons List.all_nil Bool.and_self Bool.and_true
attribute [go_sem] Nat.zero_add true_and and_true List.drop_zero List.drop_succ_cons List.take_succ_cons List.take_zero Option.map_some Option.map_none Option.isSome_some Option.isSome_none Option.isNone_none Option.isNone_some
attribute [go_sem] Bool.false_eq_true if_true if_false or_true true_or false_or or_false forall_const false_implies imp_self Bool.not_true Bool.not_false beq_self_eq_true decide_eq_true_eq decide_eq_false_iff_not decide_true decide_false
attribute [go_sem] Int.toNat_natCast Int.natCast_nonneg Int.ofNat_lt Int.ofNat_le Int.natCast_inj List.getElem?_map Option.map_eq_some_iff forall_exists_index and_imp forall_apply_eq_imp_iff₂ forall_eq_apply_imp_iff ne_eq not_false_eq_true not_true_eq_false
attribute [go_sem] List.size_toArray List.append_nil Int.le_refl Nat.le_refl List.drop_nil List.take_nil Int.toNat_zero Int.natCast_zero Int.natCast_one Int.cast_ofNat_Int Bool.or_true Bool.or_false Bool.true_or Bool.false_or Bool.false_and Bool.and_false Bool.true_and List.isEmpty_nil List.isEmpty_cons
attribute [go_sem] dI dU dY dB dS Nat.lt_add_one forall_eq forall_eq' true_implies implies_true Option.some.injEq

/-- A name that a store doesn't have. -/
structure FN {α : Type} (l : List (Nat × α)) where
  n : Nat
  h : nin l n
theorem n_fresh {α : Type} (l : List (Nat × α)) (F : Nat → Prop) : (∀ b, nin l b → F b) = ∀ b : FN l, F b.n := propext ⟨fun h b => h b.n b.h, fun h b hb => h ⟨b, hb⟩⟩
theorem nin_lk {α : Type} : ∀ {l : List (Nat × α)} {b : Nat}, nin l b → lk l b = none
  | [], _, _ => rfl
  | (k, x) :: t, b, h => by
    simp only [nin] at h
    unfold lk
    rw [if_neg (by first | exact fun e => h.1 e | exact fun e => h.1 e.symm)]
    exact nin_lk (by first | exact h.2 | exact h.2.2)
theorem n_fn_ne {α : Type} {l : List (Nat × α)} (b : FN l) (c : Nat) (h : (lk l c).isSome = true) : (b.n = c) = False := by
  refine eq_false fun e => ?_
  subst e; rw [nin_lk b.h] at h; cases h
theorem n_fn_ne' {α : Type} {l : List (Nat × α)} (b : FN l) (c : Nat) (h : (lk l c).isSome = true) : (c = b.n) = False := by
  refine eq_false fun e => ?_
  subst e; rw [nin_lk b.h] at h; cases h
theorem n_fn_nin {α : Type} {l : List (Nat × α)} (b : FN l) : nin l b.n = True := eq_true b.h
section
variable {S : St} {K : DV → St → Prop}
theorem n_bx (d : DV) : bxK S d K = ∀ b : FN S.box, K (.v (.pointer (some ⟨b.n, 0, none⟩))) ⟨(b.n, cd d) :: S.box, S.acc⟩ := n_fresh S.box fun b => K (.v (.pointer (some ⟨b, 0, none⟩))) ⟨(b, cd d) :: S.box, S.acc⟩
theorem n_bx_agg (ds : List DV) : bxK S (.agg ds) K = ∀ b : FN S.box, K (.v (.pointer (some ⟨b.n, 0, none⟩))) ⟨(b.n, ds) :: S.box, S.acc⟩ := n_bx _
theorem n_bx_v (u : Value) : bxK S (.v u) K = ∀ b : FN S.box, K (.v (.pointer (some ⟨b.n, 0, none⟩))) ⟨(b.n, [.v u]) :: S.box, S.acc⟩ := n_bx _
theorem n_bx_sl (s : Nat) (f : Bool) (xs : List DV) : bxK S (.sl s f xs) K = ∀ b : FN S.box, K (.v (.pointer (some ⟨b.n, 0, none⟩))) ⟨(b.n, [.sl s f xs]) :: S.box, S.acc⟩ := n_bx _
theorem n_bx_ifc (t : TypeId) (d : DV) : bxK S (.ifc t d) K = ∀ b : FN S.box, K (.v (.pointer (some ⟨b.n, 0, none⟩))) ⟨(b.n, [.ifc t d]) :: S.box, S.acc⟩ := n_bx _
theorem n_bx_acc (l n : Nat) : bxK S (.acc l n) K = ∀ b : FN S.box, K (.v (.pointer (some ⟨b.n, 0, none⟩))) ⟨(b.n, [.acc l n]) :: S.box, S.acc⟩ := n_bx _
theorem n_bx_ip (ds : List DV) : bxK S (.ip ds) K = ∀ b : FN S.box, K (.v (.pointer (some ⟨b.n, 0, none⟩))) ⟨(b.n, [.ip ds]) :: S.box, S.acc⟩ := n_bx _
end
attribute [go_sem ↓] n_fresh n_bx_agg n_bx_v n_bx_sl n_bx_ifc n_bx_acc n_bx_ip
attribute [go_sem] n_fn_ne n_fn_ne' n_fn_nin Option.isSome_some

/-- A proposition as a Bool. -/
noncomputable def pB (P : Prop) : Bool := @decide P (Classical.propDecidable P)
theorem pB_true {P : Prop} (h : P) : pB P = true := @decide_eq_true _ (Classical.propDecidable _) h
theorem pB_false {P : Prop} (h : ¬ P) : pB P = false := @decide_eq_false _ (Classical.propDecidable _) h
theorem n_pBt (P : Prop) : (pB P = true) = P := propext ⟨fun h => @of_decide_eq_true _ (Classical.propDecidable _) h, pB_true⟩
theorem n_pBf (P : Prop) : (pB P = false) = ¬ P := propext ⟨fun h => @of_decide_eq_false _ (Classical.propDecidable _) h, pB_false⟩
theorem n_tpB (P : Prop) : (true = pB P) = P := (propext eq_comm).trans (n_pBt P)
theorem n_fpB (P : Prop) : (false = pB P) = ¬ P := (propext eq_comm).trans (n_pBf P)
theorem n_td (P : Prop) [Decidable P] : (true = decide P) = P := (propext eq_comm).trans decide_eq_true_eq
theorem n_fd (P : Prop) [Decidable P] : (false = decide P) = ¬ P := (propext eq_comm).trans (propext decide_eq_false_iff_not)
theorem n_cond_p (P A B : Prop) : condD (.v (.bool (pB P))) A B = ((P → A) ∧ (¬ P → B)) := by
  show ((pB P = true → A) ∧ (pB P = false → B)) = _
  rw [n_pBt, n_pBf]
theorem n_pick_p (P : Prop) (a b : DV) (K : DV → Prop) : vPick (.v (.bool (pB P))) a b K = ((P → K a) ∧ (¬ P → K b)) := by
  show ((pB P = true → K a) ∧ (pB P = false → K b)) = _
  rw [n_pBt, n_pBf]
theorem n_gD_pt (P : Prop) (t : Nat) (fr : List DV) (F G : List DV → Prop) : gD t (.v (.bool (pB P))) fr true F G = ((P → F (fr.set t (.v (.bool true)))) ∧ (¬ P → G (fr.set t (.v (.bool false))))) := by
  rw [n_gD_bt, n_pBt, n_pBf]
theorem n_gD_pf (P : Prop) (t : Nat) (fr : List DV) (F G : List DV → Prop) : gD t (.v (.bool (pB P))) fr false F G = ((P → G (fr.set t (.v (.bool true)))) ∧ (¬ P → F (fr.set t (.v (.bool false))))) := by
  rw [n_gD_bf, n_pBt, n_pBf]
theorem n_not_pB (P : Prop) : (!pB P) = pB (¬ P) := by
  by_cases h : P
  · rw [pB_true h, pB_false (fun k => k h)]; rfl
  · rw [pB_false h, pB_true h]; rfl
theorem n_pB_eq {P Q : Prop} (h : P ↔ Q) : pB P = pB Q := by rw [propext h]
attribute [go_sem ↓] n_cond_p n_pick_p n_gD_pt n_gD_pf
attribute [go_sem] n_pBt n_pBf n_tpB n_fpB n_td n_fd n_not_pB

theorem n_map_take {α β : Type} (f : α → β) (n : Nat) (l : List α) : List.take n (List.map f l) = List.map f (List.take n l) := List.map_take.symm
theorem n_map_drop {α β : Type} (f : α → β) (n : Nat) (l : List α) : List.drop n (List.map f l) = List.map f (List.drop n l) := List.map_drop.symm
theorem n_map_app {α β : Type} (f : α → β) (a b : List α) : List.map f a ++ List.map f b = List.map f (a ++ b) := List.map_append.symm
attribute [go_sem] n_map_take n_map_drop n_map_app List.length_append List.length_take List.length_drop List.take_length List.drop_length Nat.min_self

theorem n_dp (P Q : Prop) [Decidable P] : (decide P = pB Q) = (P ↔ Q) := propext ⟨fun h => ⟨fun p => (n_pBt Q).mp (h ▸ decide_eq_true p), fun q => of_decide_eq_true (h.trans (pB_true q))⟩, fun h => by
  by_cases p : P
  · rw [pB_true (h.1 p), decide_eq_true p]
  · rw [pB_false (fun q => p (h.2 q)), decide_eq_false p]⟩
theorem n_pd (P Q : Prop) [Decidable Q] : (pB P = decide Q) = (P ↔ Q) := (propext eq_comm).trans ((n_dp Q P).trans (propext ⟨Iff.symm, Iff.symm⟩))
theorem n_pp (P Q : Prop) : (pB P = pB Q) = (P ↔ Q) := propext ⟨fun h => ⟨fun p => (n_pBt Q).mp (h ▸ pB_true p), fun q => (n_pBt P).mp (h.trans (pB_true q))⟩, n_pB_eq⟩
theorem n_dd (P Q : Prop) [Decidable P] [Decidable Q] : (decide P = decide Q) = (P ↔ Q) := propext decide_eq_decide
attribute [go_sem] n_dp n_pd n_pp n_dd

theorem n_not_d (P : Prop) [Decidable P] : (!decide P) = decide (¬ P) := (decide_not).symm
attribute [go_sem] n_not_d Bool.not_eq_true' Bool.not_eq_false'

attribute [go_sem] Value.oneCell' false_and and_false and_self List.length_set

attribute [go_sem ↓] q_el_map q_el_nil q_el_zero q_el_succ q_ex_map q_ex_nil q_ex_zero q_ex_succ q_ld_int q_ld_one q_ld_fn q_ld_str q_ld_sl q_ld_map q_ld_ptr q_ld_ifc q_ld_st q_ld_ar q_load_ip q_ia_sl q_ia_acc q_index q_bin_ii q_bin_ss q_bin_be q_bin_bn q_bin_nne q_bin_nnn q_bin_ine q_bin_inn q_bin_ppe q_bin_ppn q_bin_pe q_bin_pn q_bin_ipe q_bin_ipn q_un_not q_un_neg q_conv_i q_conv_s q_shr1_v q_shr1_sl q_shr1_ifc q_shr1_ip q_shr1_any q_shr1s_nil q_shr1s_cons q_shr_v q_shr_sl q_shr_ifc q_shr_ip q_shr_any q_shr_acc q_shr_agg q_shrs_nil q_shrs_cons q_shrT_v q_shrT_sl q_shrT_ifc q_shrT_acc q_shrT_agg q_shrT_tup q_bnd_none q_bnd_some q_slice_sl q_slice_str q_len_sl q_len_acc q_len_str q_min q_max q_sliceX_sl q_sliceX_v q_sliceX_acc q_nilEq_sl q_nilEq_sn q_nilEq_al q_nilEq_an q_appInt q_storeX_v q_makeSlice q_cap q_cont_sl q_cont_str q_append q_app_nil q_app_cons q_call q_res_tmp q_res_cell q_resK_one q_resK_nil q_resK_two q_g_none q_oK_some q_oK_none q_bK_arr q_bK_tl q_load_box q_load_ap q_field q_fi_ptr q_fi_ip q_fi_ap q_fieldV q_fv_t q_fv_f q_extract q_shr1_acc q_store q_storeX_ap q_cont_acc q_app_acc q_guard q_gK_none q_gK_some q_gD_ud q_func q_build q_bu q_bsl
attribute [go_sem] q_okE_v q_okE_sl q_okE_agg q_okE_ifc q_okE_acc q_okE_ip q_cd_v q_cd_sl q_cd_agg q_cd_ifc q_cd_acc q_cd_ip q_lk_nil q_lk_same q_lk_ne q_up_same q_up_ne q_nn_ptr q_nn_fn q_nn_ip q_nn_ap q_nn_ifc q_isZ q_isZ_none q_isNilC_t q_isNilC_g q_isNilC_i q_isNilC_b q_isNilC_s q_isNilC_f q_isNilC_p q_isNilC_n q_hasAcc_nil q_hasAcc_acc q_hasAcc_v q_hasAcc_sl q_hasAcc_agg q_hasAcc_ifc q_hasAcc_ip
end Aml
