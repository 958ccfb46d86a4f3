/-
  Statements whose order is open, once more: what reads no store may come at any time, and so may what makes a box that nothing ahead looks at; Statements whose order is open: how the reckoning goes; Ranges over functions; A row that a statement builds, as one that grows; The end of a growing slice, cleared; Few statements whose order is open, each order walked; Statements whose order is open, with rows made and turned to texts: what is made is frozen at once; Statements whose order is open, once more: what reads no store may come at any time, and so may what makes a box that nothing ahead looks at; Statements whose order is open: how the reckoning goes; What is known of a map that is owned; Statements whose order is open, walked in an order of one's own: what looks at no store, what reads the store of the beginning, what keeps it, what else there is; An own row as a box, and back; Entries of the model: strings compared, rows that lie apart; A scope out of which nothing jumps back; A row of bytes that is written out, and turned to its own type: the run-time marks it. By an AI agent.
-/
import Derived.Test.YtldimfofkbomnaaGreatDoorMS4
import Derived.Lib.Bytealg
import Derived.Lib.Overlaps
import Derived.Lib.SlBytesConst
set_option linter.unusedVariables false
set_option linter.unusedSimpArgs false
set_option maxRecDepth 100000
set_option maxHeartbeats 16000000
namespace Aml
open Go Go.RowKit
def kX : Op → Nat
 | .load .. => 1
 | .alloc _ => 2
 | .call c => match c.callee with
  | .value _ => 1
  | .builtin .len => 0
  | .builtin .cap => 0
  | .builtin .min => 0
  | .builtin .max => 0
  | _ => 3
 | .move _ => 0
 | .assign _ => 0
 | .pick .. => 0
 | .fieldAddr .. => 0
 | .indexAddr .. => 0
 | .index .. => 0
 | .field .. => 0
 | .extract .. => 0
 | .nilCheck _ => 0
 | .binOp .. => 0
 | .unOp .. => 0
 | .convert .. => 0
 | .makeInterface .. => 0
 | .makeFunc .. => 0
 | .slice .. => 0
 | .build .. => 0
 | .buildSlice .. => 0
 | _ => 3
def Fr (S : St) (B : List (Nat × List DV)) : Prop := ∀ x, x ∈ B → nin S.box x.1
def bodyX (P : Program) (w0 : W0) (o : Oper) (fr : List DV) (S : St) (K : List DV → St → Prop) : Prop :=
 (kX o.op = 0 ∧ ∃ d, (∀ S', QY P w0 S' o fr d) ∧ K (pt fr o.dst d) S) ∨
 (kX o.op = 1 ∧ ∃ d, (∀ B, Fr S B → QY P w0 ⟨B ++ S.box, S.acc⟩ o fr d) ∧ K (pt fr o.dst d) S) ∨
 (kX o.op = 2 ∧ ∃ t, o.op = .alloc t ∧ okE (zD P t) = true ∧ ∀ b, nin S.box b → K (pt fr o.dst (.v (.pointer (some ⟨b, 0, none⟩)))) ⟨(b, cd (zD P t)) :: S.box, S.acc⟩) ∨
 (kX o.op = 3 ∧ YieldsE P w0 o (ev fr) S fun d S' => K (pt fr o.dst d) S')
def tauX (P : Program) (w0 : W0) (ops : Array Oper) (o : Oper) (fr : List DV) (S : St) (K : List DV → St → Prop) : Prop :=
 (wantB ops fr o.guard = some true ∧ bodyX P w0 o fr S K) ∨ (wantB ops fr o.guard = some false ∧ K (pt fr o.dst ud) S)
def okP (a b : Nat) : Bool := a == 0 || (a == 1 && decide (b < 3))
section
variable {P : Program} {w0 : W0} {ops : Array Oper} {md : Region.Mode}
def tauI (P : Program) (w0 : W0) (ops : Array Oper) (i : Nat) (fr : List DV) (S : St) (K : List DV → St → Prop) : Prop := match ops[i]? with
 | none => K fr S
 | some o => tauX P w0 ops o fr S K
theorem pure_det {op : Op} (hk : kX op = 0) {fr : List DV} {S : St} {K : DV → Prop} (h : vcOpQ P w0 op fr S K) : ∃ d, (∀ S', vcOpQ P w0 op fr S' (· = d)) ∧ K d := by
 cases op with
 | move x => exact ⟨_, fun _ => rfl, h⟩
 | assign x => exact ⟨_, fun _ => rfl, h⟩
 | pick c a b => obtain ⟨d, q1, q2⟩ := det_pick h; exact ⟨d, fun _ => q1, q2⟩
 | fieldAddr t x f => obtain ⟨d, q1, q2⟩ := det_field h; exact ⟨d, fun _ => q1, q2⟩
 | indexAddr t x i => obtain ⟨d, q1, q2⟩ := det_evG h; exact ⟨d, fun _ => q1, q2⟩
 | index t x i => obtain ⟨d, q1, q2⟩ := det_index h; exact ⟨d, fun _ => q1, q2⟩
 | field t x f => obtain ⟨d, q1, q2⟩ := det_fieldV h; exact ⟨d, fun _ => q1, q2⟩
 | extract x i => obtain ⟨d, q1, q2⟩ := det_extract h; exact ⟨d, fun _ => q1, q2⟩
 | nilCheck x => exact ⟨_, fun _ => ⟨h.1, rfl⟩, h.2⟩
 | binOp b t x y t' => obtain ⟨d, q1, q2⟩ := det_binA h.2; exact ⟨d, fun _ => ⟨h.1, q1⟩, q2⟩
 | unOp b t x => obtain ⟨d, q1, q2⟩ := det_un h; exact ⟨d, fun _ => q1, q2⟩
 | convert s d x => obtain ⟨d, q1, q2⟩ := det_conv h; exact ⟨d, fun _ => q1, q2⟩
 | makeInterface t x => exact ⟨_, fun _ => ⟨h.1, h.2.1, rfl⟩, h.2.2⟩
 | makeFunc fn a b => obtain ⟨d, q1, q2⟩ := det_func h; exact ⟨d, fun _ => q1, q2⟩
 | slice t x lo hi mx => obtain ⟨d, q1, q2⟩ := det_slice h.2.2; exact ⟨d, fun _ => ⟨h.1, h.2.1, q1⟩, q2⟩
 | build t parts => obtain ⟨d, q1, q2⟩ := det_build h.2; exact ⟨d, fun _ => ⟨h.1, q1⟩, q2⟩
 | buildSlice t len parts => obtain ⟨d, q1, q2⟩ := det_buildSlice h.2; exact ⟨d, fun _ => ⟨h.1, q1⟩, q2⟩
 | call c =>
  obtain ⟨callee, args, ts⟩ := c
  simp only [vcOpQ] at h ⊢
  split at h
  ·split at h
   ·obtain ⟨d, q1, q2⟩ := det_len h
    exact ⟨d, fun _ => by simpa using q1, q2⟩
   ·exact h.elim
  ·split at h
   ·obtain ⟨d, q1, q2⟩ := det_cap h
    exact ⟨d, fun _ => by simpa using q1, q2⟩
   ·exact h.elim
  ·split at h
   ·obtain ⟨d, q1, q2⟩ := det_min h
    exact ⟨d, fun _ => by simpa using q1, q2⟩
   ·exact h.elim
  ·split at h
   ·obtain ⟨d, q1, q2⟩ := det_max h
    exact ⟨d, fun _ => by simpa using q1, q2⟩
   ·exact h.elim
  ·cases hk
  ·cases hk
  ·exact h.elim
 | _ => first | exact h.elim | cases hk
end
def QX (P : Program) (w0 : W0) (f : FuncId) (ds : List DV) (S : St) [K : Cn (DV → Prop)] : Prop := ∃ d, (∀ B, Fr S B → ACall P w0 f ds ⟨B ++ S.box, S.acc⟩ fun d' S' => d' = d ∧ S' = ⟨B ++ S.box, S.acc⟩) ∧ K.k d
def vCallX (P : Program) (w0 : W0) (cal : DV) (ds : List DV) (S : St) (K : DV → Prop) : Prop := match cal with
 | .v (.func (.func f) a cap) => a.size = 0 ∧ okF P f = true ∧ cap.toList.all (fun u => u.oneCell') = true ∧ ds.all naccA = true ∧ @QX P w0 f (ds ++ cap.toList.map .v) S ⟨K⟩
 | _ => False
section
variable {P : Program} {w0 : W0} {ops : Array Oper} {md : Region.Mode}
end
end Aml
namespace Aml
open Go Go.RowKit
section
variable {P : Program} {w0 : W0} {ops : Array Oper} {fr : List DV} {S : St} {rest : List Oper} {dst : Option Tmp} {op : Op} {ty : TypeId} {pos : String} {aft : Array Edge}
section
variable {K : List DV → St → Prop}
end
variable {K : DV → St → Prop}
@[congr] theorem c_vCallX {cal cal' : DV} {ds ds' : List DV} {S' : St} {K : DV → Prop} (h1 : cal = cal') (h2 : ds = ds') (h3 : S = S') : vCallX P w0 cal ds S K = vCallX P w0 cal' ds' S' K := by cases h1; cases h2; cases h3; rfl
end
end Aml
namespace Aml
open Go Go.RowKit
structure Has (X T : St) : Prop where
 box : ∀ b x, lk X.box b = some x → lk T.box b = some x
 acc : ∀ l o, lk X.acc l = some o → lk T.acc l = some o
structure Kp (X T T' : St) : Prop where
 box : ∀ b x, lk X.box b = none → lk T.box b = some x → lk T'.box b = some x
 acc : ∀ l o, lk X.acc l = none → lk T.acc l = some o → lk T'.acc l = some o
theorem Has.refl (X : St) : Has X X := ⟨fun _ _ h => h, fun _ _ h => h⟩
theorem Kp.refl (X T : St) : Kp X T T := ⟨fun _ _ _ h => h, fun _ _ _ h => h⟩
theorem lk_of_mem {α : Type} {l : List (Nat × α)} (hn : (l.map (·.1)).Nodup) {n : Nat} {x : α} (h : (n, x) ∈ l) : lk l n = some x := by
 induction l with
 | nil => cases h
 | cons p t ih =>
  obtain ⟨k, y⟩ := p
  simp only [List.map_cons, List.nodup_cons] at hn
  simp only [lk]
  rcases List.mem_cons.1 h with e | h
  ·cases e; simp
  ·have : k ≠ n := by rintro rfl; exact hn.1 (List.mem_map_of_mem (f := (·.1)) h)
   rw [if_neg this]; exact ih hn.2 h
section
variable {P : Program} {w0 : W0}
theorem Rel.has {g : Gh} {S T : St} {w : World} (h : Rel w0 g T w) (hs : Has S T) (nb : (S.box.map (·.1)).Nodup) (na : (S.acc.map (·.1)).Nodup) : Rel w0 g S w := by
 obtain ⟨ow, o1, o2⟩ := h.own
 exact ⟨h.below, h.imm, nb, na, h.accw, h.fresh, fun l o hl => h.top l o (lk_mem (hs.acc _ _ (lk_of_mem na hl))), ow, fun b ds hb => o1 b ds (lk_mem (hs.box _ _ (lk_of_mem nb hb))), fun l o hl => o2 l o (lk_mem (hs.acc _ _ (lk_of_mem na hl)))⟩
@[congr] theorem c_YC {l : Nat} {ds ds' : List DV} {S S' : St} [K : Cn (DV → St → Prop)] (h1 : ds = ds') (h2 : S = S') : YC P w0 l ds S = YC P w0 l ds' S' := by cases h1; cases h2; rfl
theorem lk_up_same {α : Type} (l : List (Nat × α)) (b : Nat) (v : α) : lk (up l b v) b = (lk l b).map fun _ => v := by
 induction l with
 | nil => rfl
 | cons p t ih => obtain ⟨k, x⟩ := p; simp only [up, lk]; split <;> simp_all [lk]
theorem lk_up_ne {α : Type} {b c : Nat} (h : ¬ b = c) (l : List (Nat × α)) (v : α) : lk (up l b v) c = lk l c := by
 induction l with
 | nil => rfl
 | cons p t ih =>
  obtain ⟨k, x⟩ := p
  simp only [up]
  split
  ·rename_i e; subst e; simp [lk, h]
  ·simp only [lk, ih]
theorem up_up {α : Type} (l : List (Nat × α)) (b : Nat) (v v' : α) : up (up l b v) b v' = up l b v' := by
 induction l with
 | nil => rfl
 | cons p t ih => obtain ⟨k, x⟩ := p; simp only [up]; split <;> simp_all [up]
theorem Has.consB {X T : St} (h : Has X T) (b : FN T.box) (ds : List DV) {A : List (Nat × Ob)} (hA : A = T.acc) : Has X ⟨(b.n, ds) :: T.box, A⟩ := ⟨fun c x hc => by
 have := h.box c x hc
 simp only [lk]
 rw [if_neg (fun e => by rw [← e, fn_lk b] at this; cases this)]; exact this, fun l o hl => by rw [hA]; exact h.acc l o hl⟩
theorem Has.up {b : Nat} {x v : List DV} {R : List (Nat × List DV)} {A : List (Nat × Ob)} {T : St} (h : Has ⟨(b, x) :: R, A⟩ T) : Has ⟨(b, v) :: R, A⟩ ⟨up T.box b v, T.acc⟩ := ⟨fun c y hc => by
 have hb := h.box b x (by simp [lk])
 simp only [lk] at hc
 split at hc
 ·rename_i e; subst e; cases hc; rw [lk_up_same, hb]; rfl
 ·rename_i e
  rw [lk_up_ne e]
  exact h.box c y (by simp only [lk, if_neg e]; exact hc), h.acc⟩
theorem Kp.up {b : Nat} {v : List DV} {X T : St} (h : (lk X.box b).isSome = true) : Kp X T ⟨up T.box b v, T.acc⟩ := ⟨fun c x hc hx => by
 have : ¬ b = c := by rintro rfl; rw [hc] at h; cases h
 rw [lk_up_ne this]; exact hx, fun _ _ _ h => h⟩
theorem Kp.trans {X X' T1 T2 T3 : St} (h : Kp X T1 T2) (k : Kp X' T2 T3) (hb : ∀ b, lk X.box b = none → lk X'.box b = none) (ha : ∀ l, lk X.acc l = none → lk X'.acc l = none) : Kp X T1 T3 :=
 ⟨fun b x h1 h2 => k.box b x (hb b h1) (h.box b x h1 h2), fun l o h1 h2 => k.acc l o (ha l h1) (h.acc l o h1 h2)⟩
theorem Kp.consB {X T T' : St} (h : Kp X T T') (b : FN T'.box) (ds : List DV) {A : List (Nat × Ob)} (hA : A = T'.acc) : Kp X T ⟨(b.n, ds) :: T'.box, A⟩ := ⟨fun c x hc hx => by
 have := h.box c x hc hx
 simp only [lk]
 rw [if_neg (fun e => by rw [← e, fn_lk b] at this; cases this)]; exact this, fun l o h1 h2 => by rw [hA]; exact h.acc l o h1 h2⟩
theorem n_convS_i (k0 : IntKind) (b ke kb : TK) (S : St) (x : DV) (K : DV → Prop) : vConvS (.int k0) b ke kb S x K = vConv (.int k0) b x K := rfl
theorem n_convS_sb (e : Nat) (i : Bool) (ke kb : TK) (S : St) (b : ByteArray) (K : DV → Prop) : vConvS .str (.sl e 1 1 i) ke kb S (.v (.string b)) K = (b.size < 281474976710656 ∧ kb = .int .u8 ∧ K (.sl 1 false (b.data.toList.map fun c => .v (.int .u8 c.toNat)))) := rfl
theorem n_convS_b (e s b : Nat) (i : Bool) (ke kb : TK) (S : St) (x : DV) (K : DV → Prop) : vConvS (.sl e s b i) .str ke kb S x K = (ke = .int .u8 ∧ notV x = true ∧ contK S x fun s xs => s = 1 ∧ okBy xs = true ∧ K (.v (.string (strOfNums (byD xs))))) := rfl
theorem n_notV_acc (l n : Nat) : notV (.acc l n) = true := rfl
theorem n_notV_sl (s : Nat) (f : Bool) (xs : List DV) : notV (.sl s f xs) = true := rfl
theorem shrB (b j : Nat) {c : Code} {fr : List DV} {S : St} {Q : Exit → List DV → St → Prop} {ds : List DV} {l s : Nat} {xs : List DV} (hb : lk S.box b = some ds) (hj : ds[j]? = some (.acc l xs.length)) (hl : lk S.acc l = some (.arr s xs))
  (h : AWp P w0 c fr ⟨Aml.up S.box b (ds.set j (.sl s false xs)), Aml.up S.acc l (.tl s xs)⟩ Q) : AWp P w0 c fr S Q := by
 intro g a w h1 h2 h3
 obtain ⟨ow, o1, o2⟩ := h1.own
 obtain ⟨q1, q2, q3, us, e, q4, q5, q6⟩ := o1 _ _ (lk_mem hb)
 have hlt : j < us.toList.length := by rw [← q5.len]; exact (List.getElem?_eq_some_iff.1 hj).1
 have hr := q5.at_ j _ _ hj (List.getElem?_eq_getElem hlt)
 obtain ⟨o, c', hu⟩ : ∃ o c', us.toList[j] = .slice o xs.length c' ∧ g.acc l xs.length = some (.slice o xs.length c') := by
  generalize us.toList[j] = u at hr
  cases hr with
  | acc _ _ o c h => exact ⟨o, c, rfl, h⟩
 obtain ⟨g', hle, hR, hrep⟩ := h1.freeze hl hu.2
 have hR' := hR.wkBox (ds' := ds.set j (.sl s false xs)) (b := b) hb ?_
 ·exact wpA_mono (h g' a w hR' (h2.mono hle) (hle.dk h3)) fun _ _ _ k => k.of_le hle
 ·intro us' e' hh hr2
  rw [hh] at q4
  cases q4
  exact repL_same hr2 (List.getElem?_eq_getElem hlt) (by rw [hu.1]; exact hrep)
end
attribute [go_sem ↓] n_convS_i n_convS_sb n_convS_b
attribute [go_sem] n_notV_acc n_notV_sl lk_up_same lk_up_ne up_up Option.map_some
end Aml
namespace Aml
open Go Go.RowKit
def arrK (d : DV) (S : St) (K : DV → St → Prop) : Prop := match d with
 | .sl s true xs => ∀ l, nin S.acc l → K (.acc l xs.length) ⟨S.box, (l, .arr s xs) :: S.acc⟩
 | _ => False
section
variable {P : Program} {w0 : W0}
theorem buildSlice_arr {g : Gh} {S : St} {w : World} (h1 : Rel w0 g S w) {t len : Nat} {parts : List (Nat × DV)} {vs : List (Nat × Value)} (hx : parts.map (·.1) = vs.map (·.1)) (hR : RepL g (parts.map (·.2)) (vs.map (·.2))) {K : DV → St → Prop}
  {e : Nat} (hte : ∀ e' s b i, tk P t = .sl e' s b i → e' = e) (h : vBuildSlice (tk P t) (zD P e) len parts fun d => arrK d S K) :
  ∃ d u w' g' S', (Instr.buildSlice t len vs.toArray).run P w = .ok u w' ∧ g.le g' ∧ Rel w0 g' S' w' ∧ Rep g' d u ∧ K d S' := by
 unfold vBuildSlice at h
 split at h
 ·rename_i e' s by' hk
  obtain rfl := hte _ _ _ _ hk
  obtain ⟨hok, hzl, hbig, h⟩ := h
  obtain ⟨hu, hs, _, hei⟩ := tk_sl hk
  obtain ⟨ti, z, hi, hz, hzs, hpos⟩ := okEl_spec hei
  have hsz : ti.size = s := by simpa [Program.cellsOf, hi] using hs
  have hzD : zD P e' = cv z := by simp [zD, hi, hz]
  have hrz : Rep g (zD P e') z := hzD ▸ rep_cv g z
  split at h
  ·rename_i xs hf
   have hpw := pw_made (z := z) (s := s) (n := len) (by omega) (by omega)
   obtain ⟨cs', us', q1, q2, q3, q4, q5⟩ := fillE_ok (g := g) (s := s) parts vs (List.replicate len (zD P e')) (List.replicate len z) ((Array.range (len * s)).map (z.cells[· % z.cells.size]!)) xs hx hR
    ⟨by simp, fun i d u a b => by
     rw [List.getElem?_replicate] at a b
     split at a
     ·rename_i hlt; rw [if_pos hlt] at b; simp only [Option.some.injEq] at a b; subst a; subst b; exact hrz
     ·cases a⟩ hpw (fun u hu x hx => by rw [List.eq_of_mem_replicate hu] at hx; exact hrz.one hok x hx) hf
   have hlen : xs.length = len := by simpa using q5
   have hlu : us'.length = len := by rw [← q2.len]; exact hlen
   have hrun : (Instr.buildSlice t len vs.toArray).run P w = .ok (.slice (some ⟨w.heap.size, 0, none⟩) len len) (w.alloc (.cells cs' e')) := by
    have hb : ¬ (len * s > 2 ^ 24) := by omega
    simp only [Instr.buildSlice]
    by_cases hls : len * s = 0
    ·have hl0 : len = 0 := by rcases Nat.mul_eq_zero.1 hls with h' | h' <;> omega
     have hcs : ((Array.range (len * s)).map (z.cells[· % z.cells.size]!)) = #[] := by simp [hls]
     rw [hcs] at q1
     have hr0 : ∀ f : Nat → Value, (Array.range 0).map f = #[] := fun f => by simp
     simp only [run_underlying hu, Go.sizeOf, typeInfo, hi, hsz, hls, newRow, Sem.run_bind, Sem.run_pure, Result.andThen_ok, run_program, hr0, if_true]
     rw [q1]
     simp [hl0]
    ·simp [run_underlying hu, Go.sizeOf, typeInfo, hi, hsz, hls, hb, zeroValue, hz, q1, newRow]
   have hlm : len ≤ maxLen := by
    have : len * 1 ≤ len * s := Nat.mul_le_mul_left len (by omega)
    unfold maxLen; omega
   have hcsz : cs'.size = len * s := by
    have := q3.size
    rw [hlu] at this
    simpa using this
   obtain ⟨l, g', hle, hne, hRel, hA⟩ := h1.newArr (s := s) (xs := xs) (us := us') (c := len) (below_alloc w (.cells cs' e')) (by omega) (Nat.le_refl _) (heap_alloc_new w _) hcsz (by omega) hlm q2 q3.each q4 (fun i u j x a b => by have := q3.at_ i u j x a b; simpa using this) (one_of_rows (by omega) (by rw [Array.length_toList, hcsz, hlu]) q3.each q4 (fun i u j x a b => by have := q3.at_ i u j x a b; simpa using this))
   rw [hlen] at hA
   have h' := h l (nin_of hne)
   rw [hlen] at h'
   exact ⟨_, _, _, _, _, hrun, hle, hRel, hA, h'⟩
  ·exact h.elim
 ·exact h.elim
theorem y_buildArr {o : Oper} {t len : Nat} {parts : List (Nat × Operand)} (ho : o.op = .buildSlice t len parts.toArray) {ρD : Operand → DV} {S : St} {K : DV → St → Prop}
  (h : shrs S (parts.map fun p => ρD p.2) fun ds S => vBuildSlice (tk P t) (zD P (elT P t)) len ((parts.map (·.1)).zip ds) fun d => arrK d S K) : YieldsE P w0 o ρD S K := by
 intro g w ρ h1 h2 hcst
 have hR := repL_of_ops (g := g) (ρD := ρD) (ρ := ρ) parts (fun p hp => h2 p.2 (by simp only [ho, Op.operands]; simp; exact ⟨p.1, hp⟩))
 obtain ⟨g', ds, S', l1, R1, r1, k1⟩ := shrs_ok _ h1 hR h
 have hlen : (parts.map (·.1)).length = ds.length := by have := r1.len; simpa using this.symm
 obtain ⟨d, u, w', g2, S2, e1, l2, R2, e2, e3⟩ := buildSlice_arr (P := P) R1 (t := t) (len := len) (parts := (parts.map (·.1)).zip ds) (vs := parts.map fun p => (p.1, ρ p.2)) (by rw [zip_fst hlen]; simp) (by rw [zip_snd hlen]; simpa [Function.comp_def] using r1)
  (e := elT P t) (fun e' s b i hk => by simp [elT, hk]) k1
 have hrun : (execOp ρ o).run P w = .ok (.value u) w' := by
  have e : (parts.toArray.map fun (i, x) => (i, ρ x)) = (parts.map fun p => (p.1, ρ p.2)).toArray := by simp
  simp only [execOp, ho, Sem.run_bind]
  rw [e, e1]
  rfl
 rw [hrun]
 exact ⟨g2, d, S2, l1.trans l2, R2, e2, e3⟩
def opA (P : Program) (w0 : W0) (op : Op) (fr : List DV) (S : St) (K : DV → St → Prop) : Prop := match op with
 | .buildSlice t len parts => shrs S (parts.toList.map fun p => ev fr p.2) fun ds S => vBuildSlice (tk P t) (zD P (elT P t)) len ((parts.toList.map (·.1)).zip ds) fun d => arrK d S K
 | op => vcOp P w0 op fr S K
def vcLA (P : Program) (w0 : W0) (ops : Array Oper) (K : List DV → St → Prop) : List Oper → List DV → St → Prop
 | [], fr, S => K fr S
 | o :: rest, fr, S => guardK ops fr o.guard (fun fr => opA P w0 o.op fr S fun d S' => vcLA P w0 ops K rest (pt fr o.dst d) S') (fun fr => vcLA P w0 ops K rest (pt fr o.dst ud) S)
theorem opA_sound {o : Oper} {fr : List DV} {S : St} {K : DV → St → Prop} (hs : okSl o.op = true) (h : opA P w0 o.op fr S K) : YieldsE P w0 o (ev fr) S K := by
 cases hop : o.op with
 | buildSlice t len parts => rw [hop] at h; exact y_buildArr (parts := parts.toList) (by simpa using hop) h
 | _ => rw [hop] at h; exact vcOp_sound hs (by rw [hop]; exact h)
theorem vcLA_sound {ops : Array Oper} {K : List DV → St → Prop} : ∀ (l : List Oper) {fr : List DV} {S : St}, l.all (fun o => okSl o.op) = true → vcLA P w0 ops K l fr S → LWp P w0 ops K l fr S
 | [], fr, S, _, h => h
 | o :: rest, fr, S, hs, h => by
  simp only [List.all_cons, Bool.and_eq_true] at hs
  refine guardK_mono (fun fr h => ?_) (fun fr h => vcLA_sound rest hs.2 h) h
  exact yields_mono (fun d S h => vcLA_sound rest hs.2 h) (opA_sound hs.1 h)
section
variable {ops : Array Oper} {fr : List DV} {S : St} {rest : List Oper} {dst : Option Tmp} {op : Op} {ty : TypeId} {pos : String} {aft : Array Edge} {K : List DV → St → Prop} {K2 : DV → St → Prop}
theorem a_nil : vcLA P w0 ops K [] fr S = K fr S := rfl
@[congr] theorem c_opA {fr' : List DV} {S' : St} (h1 : fr = fr') (h2 : S = S') : opA P w0 op fr S K2 = opA P w0 op fr' S' K2 := by cases h1; cases h2; rfl
@[congr] theorem c_vcLA {l : List Oper} {fr' : List DV} {S' : St} (h1 : fr = fr') (h2 : S = S') : vcLA P w0 ops K l fr S = vcLA P w0 ops K l fr' S' := by cases h1; cases h2; rfl
@[congr] theorem c_arrK {d d' : DV} {S' : St} (h1 : d = d') (h2 : S = S') : arrK d S K2 = arrK d' S' K2 := by cases h1; cases h2; rfl
end
end
attribute [go_sem ↓] a_nil
end Aml
namespace Aml
open Go Go.RowKit
section
variable {P : Program} {w0 : W0}
end
end Aml
namespace Aml
open Go Go.RowKit
inductive Tr where
 | leaf | head (t : Tr) | snd (t : Tr) | both (t u : Tr)
def vwT (P : Program) (w0 : W0) (K : List DV → St → Prop) : Tr → List Oper → List DV → St → Prop
 | .leaf, [], fr, S => K fr S
 | .head t, o :: r, fr, S => vcOp P w0 o.op fr S fun d S' => vwT P w0 K t r (pt fr o.dst d) S'
 | .snd t, p :: o :: r, fr, S => vcOp P w0 o.op fr S fun d S' => vwT P w0 K t (p :: r) (pt fr o.dst d) S'
 | .both t u, p :: o :: r, fr, S => (vcOp P w0 p.op fr S fun d S' => vwT P w0 K t (o :: r) (pt fr p.dst d) S') ∧ vcOp P w0 o.op fr S fun d S' => vwT P w0 K u (p :: r) (pt fr o.dst d) S'
 | _, _, _, _ => False
section
variable {P : Program} {w0 : W0}
section
variable {K : List DV → St → Prop} {fr : List DV} {S : St} {t u : Tr} {o p : Oper} {r : List Oper} {dst dst2 : Option Tmp} {op op2 : Op} {ty ty2 : TypeId} {pos pos2 : String} {aft aft2 : Array Edge}
@[congr] theorem c_vwT {fr' : List DV} {S' : St} (h1 : fr = fr') (h2 : S = S') : vwT P w0 K t r fr S = vwT P w0 K t r fr' S' := by cases h1; cases h2; rfl
end
end
end Aml
namespace Aml
open Go Go.RowKit
section
variable {P : Program} {w0 : W0}
theorem yields_q {o : Oper} {ρD : Operand → DV} {S : St} {r : DV} (h : YieldsE P w0 o ρD S fun d S' => shr S' d fun d' S'' => d' = r ∧ Sub S S'') : YieldsE P w0 o ρD S fun d S' => d = r ∧ S' = S := by
 intro g w ρ h1 h2 hcst
 have := h g w ρ h1 h2 hcst
 split at this
 ·obtain ⟨g', d, S', a, b, c, e⟩ := this
  obtain ⟨g2, d2, S2, q1, q2, q3, q4, q5⟩ := shr_ok b c e
  exact ⟨g2, d2, S, a.trans q1, q2.forget q5.box q5.acc, q3, q4, rfl⟩
 ·obtain ⟨g', S', a, b, e⟩ := this
  have e : ud = r ∧ Sub S S' := e
  exact ⟨g', S, a, b.forget e.2.box e.2.acc, e.1, rfl⟩
 ·refine this.mono ?_
  rintro e w'' ⟨r', g', d, S', a, b, c, x, y⟩
  obtain ⟨g2, d2, S2, q1, q2, q3, q4, q5⟩ := shr_ok c x y
  exact ⟨r', g2, d2, S, a, b.trans q1, q2.forget q5.box q5.acc, q3, q4, rfl⟩
 ·refine fun ro => (this ro).mono ?_
  rintro e w'' ⟨r', g', d, S', a, b, c, x, y⟩
  obtain ⟨g2, d2, S2, q1, q2, q3, q4, q5⟩ := shr_ok c x y
  exact ⟨r', g2, d2, S, a, b.trans q1, q2.forget q5.box q5.acc, q3, q4, rfl⟩
 ·exact this
def vMakeQ (k : TK) (z x y : DV) (K : DV → Prop) : Prop := match k, x, y with
 | .sl _ s by' true, .v (.int _ n), .v (.int _ m) => okE z = true ∧ 0 ≤ n ∧ n ≤ m ∧ m * by' ≤ 140737488355328 ∧ m ≤ 9223372036854775807 ∧ K (.sl s false (List.replicate n.toNat z))
 | _, _, _ => False
def vConvZ (a b ke : TK) (x : DV) (K : DV → Prop) : Prop := match a, b, x with
 | .sl _ _ _ _, .str, .sl s _ xs => ke = .int .u8 ∧ s = 1 ∧ okBy xs = true ∧ K (.v (.string (strOfNums (byD xs))))
 | a, b, x => vConv a b x K
def opZ (P : Program) (w0 : W0) (op : Op) (fr : List DV) (S : St) (K : DV → Prop) : Prop := match op with
 | .makeSlice t x y => vMakeQ (tk P t) (zD P (elT P t)) (ev fr x) (ev fr y) K
 | .convert s d x => vConvZ (tk P s) (tk P d) (tk P (elT P s)) (ev fr x) K
 | op => vcOpQ P w0 op fr S K
def isQZ : Op → Bool
 | .makeSlice .. => true
 | op => isQ op
def LZ (P : Program) (w0 : W0) (S : St) (ops : Array Oper) (K : List DV → St → Prop) : List Oper → List DV → Prop
 | [], fr => K fr S
 | o :: rest, fr => selK (isQZ o.op) (guardK ops fr o.guard (fun fr => opZ P w0 o.op fr S fun d => LZ P w0 S ops K rest (pt fr o.dst d)) (fun fr => LZ P w0 S ops K rest (pt fr o.dst ud))) (vcL P w0 ops K (o :: rest) fr S)
theorem opZ_sound {o : Oper} {fr : List DV} {S : St} {K : DV → Prop} (hs : okSl o.op = true) (h : opZ P w0 o.op fr S K) : ∃ d, QY P w0 S o fr d ∧ K d := by
 cases hop : o.op with
 | makeSlice t x y =>
  rw [hop] at h
  simp only [opZ, vMakeQ] at h
  split at h
  ·rename_i e s by' k1 n k2 m hk hx hy
   obtain ⟨q1, q2, q3, q4, q5, q6⟩ := h
   refine ⟨_, yields_q (y_makeSlice hop ?_), q6⟩
   rw [hk, hx, hy]
   refine ⟨q1, q2, q3, q4, q5, fun l hl => ?_⟩
   show shr _ _ _
   unfold shr shr1
   simp only [lk, if_true, List.length_replicate, true_and]
   exact ⟨List.Sublist.refl _, by show List.Sublist S.acc (up _ _ _); simp only [up, if_true]; exact List.sublist_cons_self _ _⟩
  ·exact h.elim
 | convert s d x =>
  rw [hop] at h hs
  simp only [opZ, vConvZ] at h
  split at h
  ·rename_i e c b i s0 f xs hk hd hx
   obtain ⟨q1, q2, q3, q4⟩ := h
   refine ⟨_, y_convS (K := fun d S' => d = _ ∧ S' = S) hop ?_, q4⟩
   rw [hk, hd, hx]
   exact ⟨q1, rfl, q2, q3, rfl, rfl⟩
  ·exact vcOpQ_sound (by rw [hop]; exact hs) (by rw [hop]; exact h)
 | _ => rw [hop] at h hs; exact vcOpQ_sound (by rw [hop]; exact hs) (by rw [hop]; exact h)
section
variable {ops : Array Oper} {K : List DV → St → Prop} {K2 : DV → Prop} {fr : List DV} {S : St} {r : List Oper} {dst : Option Tmp} {op : Op} {ty : TypeId} {pos : String} {aft : Array Edge}
theorem z_conv (s d : TypeId) (x : Operand) : opZ P w0 (.convert s d x) fr S K2 = vConvZ (tk P s) (tk P d) (tk P (elT P s)) (ev fr x) K2 := rfl
@[congr] theorem c_LZ {fr' : List DV} (h1 : fr = fr') : LZ P w0 S ops K r fr = LZ P w0 S ops K r fr' := by cases h1; rfl
@[congr] theorem c_opZ {fr' : List DV} (h1 : fr = fr') : opZ P w0 op fr S K2 = opZ P w0 op fr' S K2 := by cases h1; rfl
@[congr] theorem c_vMakeQ {k k' : TK} {z z' x x' y y' : DV} (h1 : k = k') (h2 : z = z') (h3 : x = x') (h4 : y = y') : vMakeQ k z x y K2 = vMakeQ k' z' x' y' K2 := by cases h1; cases h2; cases h3; cases h4; rfl
@[congr] theorem c_vConvZ {k k' q q' ke ke' : TK} {x x' : DV} (h1 : k = k') (h2 : q = q') (h3 : ke = ke') (h4 : x = x') : vConvZ k q ke x K2 = vConvZ k' q' ke' x' K2 := by cases h1; cases h2; cases h3; cases h4; rfl
end
end
attribute [go_sem ↓] z_conv
attribute [go_sem] isQZ
end Aml
namespace Aml.Z
open Go Go.RowKit
def kX : Op → Nat
 | .load .. => 1
 | .alloc _ => 2
 | .call c => match c.callee with
  | .value _ => 1
  | .builtin .len => 0
  | .builtin .cap => 0
  | .builtin .min => 0
  | .builtin .max => 0
  | _ => 3
 | .move _ => 0
 | .assign _ => 0
 | .pick .. => 0
 | .fieldAddr .. => 0
 | .indexAddr .. => 0
 | .index .. => 0
 | .field .. => 0
 | .extract .. => 0
 | .nilCheck _ => 0
 | .binOp .. => 0
 | .unOp .. => 0
 | .convert .. => 0
 | .makeInterface .. => 0
 | .makeFunc .. => 0
 | .slice .. => 0
 | .build .. => 0
 | .buildSlice .. => 0
 | .makeSlice .. => 0
 | _ => 3
def Fr (S : St) (B : List (Nat × List DV)) : Prop := ∀ x, x ∈ B → nin S.box x.1
def bodyX (P : Program) (w0 : W0) (o : Oper) (fr : List DV) (S : St) (K : List DV → St → Prop) : Prop :=
 (kX o.op = 0 ∧ ∃ d, (∀ S', QY P w0 S' o fr d) ∧ K (pt fr o.dst d) S) ∨
 (kX o.op = 1 ∧ ∃ d, (∀ B, Fr S B → QY P w0 ⟨B ++ S.box, S.acc⟩ o fr d) ∧ K (pt fr o.dst d) S) ∨
 (kX o.op = 2 ∧ ∃ t, o.op = .alloc t ∧ okE (zD P t) = true ∧ ∀ b, nin S.box b → K (pt fr o.dst (.v (.pointer (some ⟨b, 0, none⟩)))) ⟨(b, cd (zD P t)) :: S.box, S.acc⟩) ∨
 (kX o.op = 3 ∧ YieldsE P w0 o (ev fr) S fun d S' => K (pt fr o.dst d) S')
def tauX (P : Program) (w0 : W0) (ops : Array Oper) (o : Oper) (fr : List DV) (S : St) (K : List DV → St → Prop) : Prop :=
 (wantB ops fr o.guard = some true ∧ bodyX P w0 o fr S K) ∨ (wantB ops fr o.guard = some false ∧ K (pt fr o.dst ud) S)
def okP (a b : Nat) : Bool := a == 0 || (a == 1 && decide (b < 3))
section
variable {P : Program} {w0 : W0} {ops : Array Oper} {md : Region.Mode}
def tauI (P : Program) (w0 : W0) (ops : Array Oper) (i : Nat) (fr : List DV) (S : St) (K : List DV → St → Prop) : Prop := match ops[i]? with
 | none => K fr S
 | some o => tauX P w0 ops o fr S K
theorem pure_det {op : Op} (hk : kX op = 0) {fr : List DV} {S : St} {K : DV → Prop} (h : vcOpQ P w0 op fr S K) : ∃ d, (∀ S', vcOpQ P w0 op fr S' (· = d)) ∧ K d := by
 cases op with
 | move x => exact ⟨_, fun _ => rfl, h⟩
 | assign x => exact ⟨_, fun _ => rfl, h⟩
 | pick c a b => obtain ⟨d, q1, q2⟩ := det_pick h; exact ⟨d, fun _ => q1, q2⟩
 | fieldAddr t x f => obtain ⟨d, q1, q2⟩ := det_field h; exact ⟨d, fun _ => q1, q2⟩
 | indexAddr t x i => obtain ⟨d, q1, q2⟩ := det_evG h; exact ⟨d, fun _ => q1, q2⟩
 | index t x i => obtain ⟨d, q1, q2⟩ := det_index h; exact ⟨d, fun _ => q1, q2⟩
 | field t x f => obtain ⟨d, q1, q2⟩ := det_fieldV h; exact ⟨d, fun _ => q1, q2⟩
 | extract x i => obtain ⟨d, q1, q2⟩ := det_extract h; exact ⟨d, fun _ => q1, q2⟩
 | nilCheck x => exact ⟨_, fun _ => ⟨h.1, rfl⟩, h.2⟩
 | binOp b t x y t' => obtain ⟨d, q1, q2⟩ := det_binA h.2; exact ⟨d, fun _ => ⟨h.1, q1⟩, q2⟩
 | unOp b t x => obtain ⟨d, q1, q2⟩ := det_un h; exact ⟨d, fun _ => q1, q2⟩
 | convert s d x => obtain ⟨d, q1, q2⟩ := det_conv h; exact ⟨d, fun _ => q1, q2⟩
 | makeInterface t x => exact ⟨_, fun _ => ⟨h.1, h.2.1, rfl⟩, h.2.2⟩
 | makeFunc fn a b => obtain ⟨d, q1, q2⟩ := det_func h; exact ⟨d, fun _ => q1, q2⟩
 | slice t x lo hi mx => obtain ⟨d, q1, q2⟩ := det_slice h.2.2; exact ⟨d, fun _ => ⟨h.1, h.2.1, q1⟩, q2⟩
 | build t parts => obtain ⟨d, q1, q2⟩ := det_build h.2; exact ⟨d, fun _ => ⟨h.1, q1⟩, q2⟩
 | buildSlice t len parts => obtain ⟨d, q1, q2⟩ := det_buildSlice h.2; exact ⟨d, fun _ => ⟨h.1, q1⟩, q2⟩
 | call c =>
  obtain ⟨callee, args, ts⟩ := c
  simp only [vcOpQ] at h ⊢
  split at h
  ·split at h
   ·obtain ⟨d, q1, q2⟩ := det_len h
    exact ⟨d, fun _ => by simpa using q1, q2⟩
   ·exact h.elim
  ·split at h
   ·obtain ⟨d, q1, q2⟩ := det_cap h
    exact ⟨d, fun _ => by simpa using q1, q2⟩
   ·exact h.elim
  ·split at h
   ·obtain ⟨d, q1, q2⟩ := det_min h
    exact ⟨d, fun _ => by simpa using q1, q2⟩
   ·exact h.elim
  ·split at h
   ·obtain ⟨d, q1, q2⟩ := det_max h
    exact ⟨d, fun _ => by simpa using q1, q2⟩
   ·exact h.elim
  ·cases hk
  ·cases hk
  ·exact h.elim
 | _ => first | exact h.elim | cases hk
theorem pure_detZ {op : Op} (hk : kX op = 0) {fr : List DV} {S : St} {K : DV → Prop} (h : opZ P w0 op fr S K) : ∃ d, (∀ S', opZ P w0 op fr S' (· = d)) ∧ K d := by
 cases op with
 | makeSlice t x y =>
  simp only [opZ, vMakeQ] at h ⊢
  split at h
  ·obtain ⟨q1, q2, q3, q4, q5, q6⟩ := h
   exact ⟨_, fun _ => ⟨q1, q2, q3, q4, q5, rfl⟩, q6⟩
  ·exact h.elim
 | convert s d x =>
  simp only [opZ] at h ⊢
  unfold vConvZ at h ⊢
  split at h
  ·obtain ⟨q1, q2, q3, q4⟩ := h
   exact ⟨_, fun _ => ⟨q1, q2, q3, rfl⟩, q4⟩
  ·obtain ⟨dd, p1, p2⟩ := pure_det (P := P) (w0 := w0) (op := .convert s d x) (fr := fr) (S := S) (K := K) rfl h
   exact ⟨dd, p1, p2⟩
 | _ => exact pure_det (P := P) (w0 := w0) (S := S) (fr := fr) hk h
end
def QX (P : Program) (w0 : W0) (f : FuncId) (ds : List DV) (S : St) [K : Cn (DV → Prop)] : Prop := ∃ d, (∀ B, Fr S B → ACall P w0 f ds ⟨B ++ S.box, S.acc⟩ fun d' S' => d' = d ∧ S' = ⟨B ++ S.box, S.acc⟩) ∧ K.k d
def vCallX (P : Program) (w0 : W0) (cal : DV) (ds : List DV) (S : St) (K : DV → Prop) : Prop := match cal with
 | .v (.func (.func f) a cap) => a.size = 0 ∧ okF P f = true ∧ cap.toList.all (fun u => u.oneCell') = true ∧ ds.all naccA = true ∧ @QX P w0 f (ds ++ cap.toList.map .v) S ⟨K⟩
 | _ => False
section
variable {P : Program} {w0 : W0} {ops : Array Oper} {md : Region.Mode}
end
end Aml.Z
namespace Aml.Z
open Go Go.RowKit
section
variable {P : Program} {w0 : W0} {ops : Array Oper} {fr : List DV} {S : St} {rest : List Oper} {dst : Option Tmp} {op : Op} {ty : TypeId} {pos : String} {aft : Array Edge}
section
variable {K : List DV → St → Prop}
end
variable {K : DV → St → Prop}
@[congr] theorem c_vCallX {cal cal' : DV} {ds ds' : List DV} {S' : St} {K : DV → Prop} (h1 : cal = cal') (h2 : ds = ds') (h3 : S = S') : vCallX P w0 cal ds S K = vCallX P w0 cal' ds' S' K := by cases h1; cases h2; cases h3; rfl
end
end Aml.Z
namespace Aml
open Go Go.RowKit
section
variable {P : Program} {w0 : W0}
end
end Aml
namespace Aml.Y
open Go Go.RowKit
def kY (op : Op) : Nat := match op with
 | .lookup .. => 1
 | op => Z.kX op
def cls (gs ns : List Nat) (i : Nat) (op : Op) : Nat := if gs.contains i then 2 else if ns.contains i then 3 else match kY op with
 | 0 => 0
 | 1 => 1
 | 2 => 4
 | _ => 3
def okP (a b : Nat) : Bool := a == 0 || (a == 1 && (decide (b < 3) || b == 4)) || (a == 4 && b == 4)
structure StP (S T : St) : Prop where
 box : S.box.Perm T.box
 acc : S.acc.Perm T.acc
theorem StP.refl (S : St) : StP S S := ⟨.refl _, .refl _⟩
theorem StP.symm {S T : St} (h : StP S T) : StP T S := ⟨h.box.symm, h.acc.symm⟩
theorem StP.trans {S T U : St} (h : StP S T) (k : StP T U) : StP S U := ⟨h.box.trans k.box, h.acc.trans k.acc⟩
theorem StP.rel {w0 : W0} {g : Gh} {S T : St} {w : World} (h : StP S T) (r : Rel w0 g S w) : Rel w0 g T w :=
 ⟨r.below, r.imm, (h.box.map _).nodup_iff.1 r.nb, (h.acc.map _).nodup_iff.1 r.na, r.accw, r.fresh, fun l o ho => r.top l o (h.acc.mem_iff.2 ho), let ⟨ow, h1, h2⟩ := r.own
  ⟨ow, fun b ds hb => h1 b ds (h.box.mem_iff.2 hb), fun l o hl => h2 l o (h.acc.mem_iff.2 hl)⟩⟩
theorem nin_all {α : Type} : ∀ {l : List (Nat × α)} {b : Nat}, nin l b → ∀ p, p ∈ l → p.1 ≠ b
 | [], b, _, p, h => by cases h
 | (k, x) :: t, b, h, p, hp => by
   rcases List.mem_cons.1 hp with rfl | hp
   ·exact h.1
   ·exact nin_all h.2.2 p hp
theorem nin_ex {α : Type} (l : List (Nat × α)) : ∃ b, nin l b := by
 have : ∃ b, ∀ p, p ∈ l → p.1 < b := by
  induction l with
  | nil => exact ⟨0, fun p h => by cases h⟩
  | cons a l ih =>
   obtain ⟨b, hb⟩ := ih
   refine ⟨a.1 + b + 1, fun p hp => ?_⟩
   rcases List.mem_cons.1 hp with rfl | hp
   ·omega
   ·have := hb p hp; omega
 obtain ⟨b, hb⟩ := this
 exact ⟨b, nin_of fun p hp e => by have := hb p hp; omega⟩
theorem StP.nin {S T : St} (h : StP S T) {b : Nat} (k : nin S.box b) : nin T.box b := nin_of fun p hp => nin_all k p (h.box.mem_iff.2 hp)
theorem StP.yields {P : Program} {w0 : W0} {o : Oper} {ρ : Operand → DV} {S T : St} {K : DV → St → Prop} (h : StP S T) (y : YieldsE P w0 o ρ S K) : YieldsE P w0 o ρ T K :=
 fun g w r h1 h2 h3 => y g w r (h.symm.rel h1) h2 h3
structure Hm (X T : St) : Prop where
 box : ∀ b x, lk X.box b = some x → (b, x) ∈ T.box
 acc : ∀ l o, lk X.acc l = some o → (l, o) ∈ T.acc
theorem Hm.of {X T : St} (h : Has X T) : Hm X T := ⟨fun b x hb => lk_mem (h.box b x hb), fun l o hl => lk_mem (h.acc l o hl)⟩
theorem Hm.perm {X S T : St} (h : Hm X S) (k : StP S T) : Hm X T := ⟨fun b x hb => k.box.mem_iff.1 (h.box b x hb), fun l o hl => k.acc.mem_iff.1 (h.acc l o hl)⟩
theorem Hm.has {X T : St} {w0 : W0} {g : Gh} {w : World} (h : Hm X T) (r : Rel w0 g T w) : Has X T := ⟨fun b x hb => lk_of_mem r.nb (h.box b x hb), fun l o hl => lk_of_mem r.na (h.acc l o hl)⟩
def PC (F : List DV → St → Prop) (fr : List DV) (S : St) : Prop := ∃ T, StP T S ∧ F fr T
theorem PC.mono {F G : List DV → St → Prop} (h : ∀ fr S, F fr S → G fr S) {fr : List DV} {S : St} (k : PC F fr S) : PC G fr S := let ⟨T, a, b⟩ := k; ⟨T, a, h _ _ b⟩
def Clo (K : List DV → St → Prop) : Prop := ∀ fr S T, StP S T → K fr S → K fr T
theorem PC.clo (F : List DV → St → Prop) : Clo (PC F) := fun _ _ _ h ⟨U, a, b⟩ => ⟨U, a.trans h, b⟩
def bodyO (P : Program) (w0 : W0) (S0 : St) (c : Nat) (o : Oper) (fr : List DV) (S : St) (K : List DV → St → Prop) : Prop :=
 (c = 0 ∧ ∃ d, (∀ S', QY P w0 S' o fr d) ∧ K (pt fr o.dst d) S) ∨
 (c = 1 ∧ Hm S0 S ∧ ∃ d, (∀ S', Hm S0 S' → QY P w0 S' o fr d) ∧ K (pt fr o.dst d) S) ∨
 (c = 2 ∧ YieldsE P w0 o (ev fr) S fun d S' => Hm S0 S' ∧ K (pt fr o.dst d) S') ∨
 (c = 3 ∧ YieldsE P w0 o (ev fr) S fun d S' => K (pt fr o.dst d) S') ∨
 (c = 4 ∧ Hm S0 S ∧ ∃ t, o.op = .alloc t ∧ okE (zD P t) = true ∧ ∀ b, nin S.box b → K (pt fr o.dst (.v (.pointer (some ⟨b, 0, none⟩)))) ⟨(b, cd (zD P t)) :: S.box, S.acc⟩)
def tauO (P : Program) (w0 : W0) (S0 : St) (c : Nat) (ops : Array Oper) (o : Oper) (fr : List DV) (S : St) (K : List DV → St → Prop) : Prop :=
 (wantB ops fr o.guard = some true ∧ bodyO P w0 S0 c o fr S K) ∨ (wantB ops fr o.guard = some false ∧ K (pt fr o.dst ud) S)
section
variable {P : Program} {w0 : W0} {S0 : St} {ops : Array Oper} {md : Region.Mode}
theorem bodyO_mono {c : Nat} {o : Oper} {fr : List DV} {S : St} {K K' : List DV → St → Prop} (h : ∀ fr S, K fr S → K' fr S) (b : bodyO P w0 S0 c o fr S K) : bodyO P w0 S0 c o fr S K' := by
 rcases b with ⟨c, d, q, k⟩ | ⟨c, hS, d, q, k⟩ | ⟨c, q⟩ | ⟨c, q⟩ | ⟨c, hS, t, ht, hz, k⟩
 ·exact .inl ⟨c, d, q, h _ _ k⟩
 ·exact .inr (.inl ⟨c, hS, d, q, h _ _ k⟩)
 ·exact .inr (.inr (.inl ⟨c, yields_mono (fun d S hk => ⟨hk.1, h _ _ hk.2⟩) q⟩))
 ·exact .inr (.inr (.inr (.inl ⟨c, yields_mono (fun d S hk => h _ _ hk) q⟩)))
 ·exact .inr (.inr (.inr (.inr ⟨c, hS, t, ht, hz, fun b hb => h _ _ (k b hb)⟩)))
theorem tauO_mono {c : Nat} {o : Oper} {fr : List DV} {S : St} {K K' : List DV → St → Prop} (h : ∀ fr S, K fr S → K' fr S) (b : tauO P w0 S0 c ops o fr S K) : tauO P w0 S0 c ops o fr S K' :=
 b.imp (fun ⟨a, b⟩ => ⟨a, bodyO_mono h b⟩) fun ⟨a, b⟩ => ⟨a, h _ _ b⟩
theorem tauO_clo {c : Nat} {o : Oper} {K : List DV → St → Prop} (hK : Clo K) : Clo fun fr S => tauO P w0 S0 c ops o fr S K := fun fr S T hp h => by
 rcases h with ⟨g, b⟩ | ⟨g, k⟩
 ·refine .inl ⟨g, ?_⟩
  rcases b with ⟨c, d, q, k⟩ | ⟨c, hS, d, q, k⟩ | ⟨c, q⟩ | ⟨c, q⟩ | ⟨c, hS, t, ht, hz, k⟩
  ·exact .inl ⟨c, d, q, hK _ _ _ hp k⟩
  ·exact .inr (.inl ⟨c, hS.perm hp, d, q, hK _ _ _ hp k⟩)
  ·exact .inr (.inr (.inl ⟨c, hp.yields q⟩))
  ·exact .inr (.inr (.inr (.inl ⟨c, hp.yields q⟩)))
  ·exact .inr (.inr (.inr (.inr ⟨c, hS.perm hp, t, ht, hz, fun b hb => hK _ ⟨(b, cd (zD P t)) :: S.box, S.acc⟩ _ ⟨hp.box.cons _, hp.acc⟩ (k b (hp.symm.nin hb))⟩)))
 ·exact .inr ⟨g, hK _ _ _ hp k⟩
theorem bodyO_put {c : Nat} {o : Oper} {fr : List DV} {S : St} {K : List DV → St → Prop} {dst : Option Tmp} {e : DV} (h1 : ∀ t, dst = some t → t ∉ o.looksAt ops) (h2 : ∀ t, dst = some t → o.dst ≠ some t) :
  bodyO P w0 S0 c o (pt fr dst e) S K ↔ bodyO P w0 S0 c o fr S fun fr' S' => K (pt fr' dst e) S' := by
 have hq : ∀ S d, QY P w0 S o (pt fr dst e) d ↔ QY P w0 S o fr d := fun S d =>
  ⟨yields_congr (fun x hx => ev_put (ops := ops) h1 x hx), yields_congr (fun x hx => (ev_put (ops := ops) h1 x hx).symm)⟩
 have hc : ∀ d, pt (pt fr dst e) o.dst d = pt (pt fr o.dst d) dst e := fun d => pt_comm fr e d h2
 have hy : ∀ K, YieldsE P w0 o (ev (pt fr dst e)) S K ↔ YieldsE P w0 o (ev fr) S K := fun K =>
  ⟨yields_congr (fun x hx => ev_put (ops := ops) h1 x hx), yields_congr (fun x hx => (ev_put (ops := ops) h1 x hx).symm)⟩
 unfold bodyO
 simp only [hq, hc, hy]
theorem tauO_put {c : Nat} {o : Oper} {fr : List DV} {S : St} {K : List DV → St → Prop} {dst : Option Tmp} {e : DV} (h1 : ∀ t, dst = some t → t ∉ o.looksAt ops) (h2 : ∀ t, dst = some t → o.dst ≠ some t) :
  tauO P w0 S0 c ops o (pt fr dst e) S K ↔ tauO P w0 S0 c ops o fr S fun fr' S' => K (pt fr' dst e) S' := by
 unfold tauO
 rw [want_put h1, bodyO_put h1 h2, pt_comm fr e ud h2]
theorem bodyO_monoP {c : Nat} {o : Oper} {fr : List DV} {S : St} {K K' : List DV → St → Prop} (h : ∀ e S, K (pt fr o.dst e) S → K' (pt fr o.dst e) S) (b : bodyO P w0 S0 c o fr S K) : bodyO P w0 S0 c o fr S K' := by
 rcases b with ⟨c, d, q, k⟩ | ⟨c, hS, d, q, k⟩ | ⟨c, q⟩ | ⟨c, q⟩ | ⟨c, hS, t, ht, hz, k⟩
 ·exact .inl ⟨c, d, q, h _ _ k⟩
 ·exact .inr (.inl ⟨c, hS, d, q, h _ _ k⟩)
 ·exact .inr (.inr (.inl ⟨c, yields_mono (fun d S hk => ⟨hk.1, h _ _ hk.2⟩) q⟩))
 ·exact .inr (.inr (.inr (.inl ⟨c, yields_mono (fun d S hk => h _ _ hk) q⟩)))
 ·exact .inr (.inr (.inr (.inr ⟨c, hS, t, ht, hz, fun b hb => h _ _ (k b hb)⟩)))
theorem tauO_monoP {c : Nat} {o : Oper} {fr : List DV} {S : St} {K K' : List DV → St → Prop} (h : ∀ e S, K (pt fr o.dst e) S → K' (pt fr o.dst e) S) (b : tauO P w0 S0 c ops o fr S K) : tauO P w0 S0 c ops o fr S K' :=
 b.imp (fun ⟨a, b⟩ => ⟨a, bodyO_monoP h b⟩) fun ⟨a, b⟩ => ⟨a, h _ _ b⟩
theorem Hm.cons {X S : St} (h : Hm X S) {b : Nat} (v : List DV) : Hm X ⟨(b, v) :: S.box, S.acc⟩ := ⟨fun c x hc => List.mem_cons_of_mem _ (h.box c x hc), fun l o hl => h.acc l o hl⟩
theorem tauO_comm0 {cx cy : Nat} {x y : Oper} (hap : x.apart ops y = true) (hk : okP cx cy = true) {fr : List DV} {S : St} {K : List DV → St → Prop} (hK : Clo K) (h : tauO P w0 S0 cx ops x fr S fun fr S => tauO P w0 S0 cy ops y fr S K) :
  tauO P w0 S0 cy ops y fr S fun fr S => tauO P w0 S0 cx ops x fr S K := by
 obtain ⟨b1, b2, b3⟩ := Oper.apart_spec hap
 have hw : ∀ e, wantB ops (pt fr y.dst e) x.guard = wantB ops fr x.guard := fun e => want_put b3
 have hq : ∀ {S d e}, QY P w0 S x fr d → QY P w0 S x (pt fr y.dst e) d := fun {S d e} q => yields_congr (fun z hz => (ev_put (ops := ops) b3 z hz).symm) q
 rcases h with ⟨hg, hb⟩ | ⟨hg, hb⟩
 ·rcases hb with ⟨c, d, q, k⟩ | ⟨c, hS, d, q, k⟩ | ⟨c, -⟩ | ⟨c, -⟩ | ⟨c, hS, t, ht, hz, k⟩
  ·rw [tauO_put b1 b2] at k
   exact tauO_monoP (fun e S' hk => .inl ⟨by rw [hw]; exact hg, .inl ⟨c, d, fun S'' => hq (q S''), hk⟩⟩) k
  ·rw [tauO_put b1 b2] at k
   rcases k with ⟨g2, k⟩ | ⟨g2, k⟩
   ·rcases k with ⟨c2, d2, q2, k⟩ | ⟨c2, hS2, d2, q2, k⟩ | ⟨c2, q2⟩ | ⟨c2, -⟩ | ⟨c2, hS2, t2, ht2, hz2, k2⟩
    ·exact .inl ⟨g2, .inl ⟨c2, d2, q2, .inl ⟨by rw [hw]; exact hg, .inr (.inl ⟨c, hS, d, fun S' h' => hq (q S' h'), k⟩)⟩⟩⟩
    ·exact .inl ⟨g2, .inr (.inl ⟨c2, hS2, d2, q2, .inl ⟨by rw [hw]; exact hg, .inr (.inl ⟨c, hS, d, fun S' h' => hq (q S' h'), k⟩)⟩⟩)⟩
    ·exact .inl ⟨g2, .inr (.inr (.inl ⟨c2, yields_mono (fun e S' h' => ⟨h'.1, .inl ⟨by rw [hw]; exact hg, .inr (.inl ⟨c, h'.1, d, fun S'' h'' => hq (q S'' h''), h'.2⟩)⟩⟩) q2⟩))⟩
    ·rw [c, c2] at hk; exact absurd hk (by decide)
    ·exact .inl ⟨g2, .inr (.inr (.inr (.inr ⟨c2, hS2, t2, ht2, hz2, fun b hb => .inl ⟨by rw [hw]; exact hg, .inr (.inl ⟨c, Hm.cons hS _, d, fun S'' h'' => hq (q S'' h''), k2 b hb⟩)⟩⟩)))⟩
   ·exact .inr ⟨g2, .inl ⟨by rw [hw]; exact hg, .inr (.inl ⟨c, hS, d, fun S' h' => hq (q S' h'), k⟩)⟩⟩
  ·rw [c] at hk; simp [okP] at hk
  ·rw [c] at hk; simp [okP] at hk
  ·have hc2 : cy = 4 := by rw [c] at hk; simpa [okP] using hk
   subst hc2
   rcases Classical.em (wantB ops fr y.guard = some true) with g2 | g2
   ·refine .inl ⟨g2, .inr (.inr (.inr (.inr ⟨rfl, hS, ?_⟩)))⟩
    obtain ⟨a0, ha0⟩ := nin_ex S.box
    have k0 : tauO P w0 S0 4 ops y (pt fr x.dst (.v (.pointer (some ⟨a0, 0, none⟩)))) ⟨(a0, cd (zD P t)) :: S.box, S.acc⟩ K := k a0 ha0
    rw [tauO_put b1 b2] at k0
    have gen : ∀ a, nin S.box a → ∃ t2, y.op = .alloc t2 ∧ okE (zD P t2) = true ∧ ∀ b, nin ((a, cd (zD P t)) :: S.box) b → K (pt (pt fr y.dst (.v (.pointer (some ⟨b, 0, none⟩)))) x.dst (.v (.pointer (some ⟨a, 0, none⟩)))) ⟨(b, cd (zD P t2)) :: (a, cd (zD P t)) :: S.box, S.acc⟩ := fun a ha => by
     have k1 : tauO P w0 S0 4 ops y (pt fr x.dst (.v (.pointer (some ⟨a, 0, none⟩)))) ⟨(a, cd (zD P t)) :: S.box, S.acc⟩ K := k a ha
     rw [tauO_put b1 b2] at k1
     rcases k1 with ⟨-, b⟩ | ⟨g3, -⟩
     ·rcases b with ⟨c2, -⟩ | ⟨c2, -⟩ | ⟨c2, -⟩ | ⟨c2, -⟩ | ⟨c2, -, t2, ht2, hz2, k2⟩
      ·cases c2
      ·cases c2
      ·cases c2
      ·cases c2
      ·exact ⟨t2, ht2, hz2, fun b hb => k2 b hb⟩
     ·rw [g2] at g3; cases g3
    obtain ⟨t2, ht2, hz2, -⟩ := gen a0 ha0
    refine ⟨t2, ht2, hz2, fun b hb => .inl ⟨by rw [hw]; exact hg, .inr (.inr (.inr (.inr ⟨c, Hm.cons hS _, t, ht, hz, fun a ha => ?_⟩)))⟩⟩
    obtain ⟨t3, ht3, -, k3⟩ := gen a ha.2.2
    rw [ht2] at ht3; cases ht3
    exact hK _ ⟨(b, cd (zD P t2)) :: (a, cd (zD P t)) :: S.box, S.acc⟩ _ ⟨.swap _ _ _, .refl _⟩ (k3 b ⟨fun e => ha.2.1 e, fun e => ha.1 e, hb⟩)
   ·obtain ⟨a0, ha0⟩ := nin_ex S.box
    have k0 : tauO P w0 S0 4 ops y (pt fr x.dst (.v (.pointer (some ⟨a0, 0, none⟩)))) ⟨(a0, cd (zD P t)) :: S.box, S.acc⟩ K := k a0 ha0
    rw [tauO_put b1 b2] at k0
    rcases k0 with ⟨g3, -⟩ | ⟨g3, -⟩
    ·exact absurd g3 g2
    ·refine .inr ⟨g3, .inl ⟨by rw [hw]; exact hg, .inr (.inr (.inr (.inr ⟨c, hS, t, ht, hz, fun a ha => ?_⟩)))⟩⟩
     have k1 : tauO P w0 S0 4 ops y (pt fr x.dst (.v (.pointer (some ⟨a, 0, none⟩)))) ⟨(a, cd (zD P t)) :: S.box, S.acc⟩ K := k a ha
     rw [tauO_put b1 b2] at k1
     rcases k1 with ⟨g4, -⟩ | ⟨g4, k1⟩
     ·exact absurd g4 g2
     ·exact k1
 ·rw [tauO_put b1 b2] at hb
  exact tauO_monoP (fun e S' hk => .inr ⟨by rw [hw]; exact hg, hk⟩) hb
theorem tauO_comm {cx cy : Nat} {x y : Oper} (hap : x.apart ops y = true) (hk : okP cx cy = true) {fr : List DV} {S : St} {K : List DV → St → Prop} (h : tauO P w0 S0 cx ops x fr S (PC fun fr S => tauO P w0 S0 cy ops y fr S (PC K))) :
  tauO P w0 S0 cy ops y fr S (PC fun fr S => tauO P w0 S0 cx ops x fr S (PC K)) :=
 tauO_mono (fun fr S h => ⟨S, .refl S, h⟩) (tauO_comm0 hap hk (PC.clo K) (tauO_mono (fun fr S ⟨T, hp, h⟩ => tauO_clo (PC.clo K) _ _ _ hp h) h))
def tauI (P : Program) (w0 : W0) (S0 : St) (gs ns : List Nat) (ops : Array Oper) (i : Nat) (fr : List DV) (S : St) (K : List DV → St → Prop) : Prop := match ops[i]? with
 | none => K fr S
 | some o => tauO P w0 S0 (cls gs ns i o.op) ops o fr S K
def wpO (P : Program) (w0 : W0) (S0 : St) (gs ns : List Nat) (md : Region.Mode) (ops : Array Oper) (K : List DV → St → Prop) : Nat → Array Bool → List DV → St → Prop
 | 0, listed, fr, S => Region.ready md ops listed = [] ∧ K fr S
 | fuel + 1, listed, fr, S => (Region.ready md ops listed = [] → K fr S) ∧ ∀ i ∈ Region.ready md ops listed, tauI P w0 S0 gs ns ops i fr S (PC (wpO P w0 S0 gs ns md ops K fuel (listed.setIfInBounds i true)))
theorem wpO_first {gs ns D : List Nat} {K : List DV → St → Prop} {i : Nat} {oi : Oper} (hi : ops[i]? = some oi) :
  ∀ (fuel : Nat) (listed : Array Bool) (fr : List DV) (S : St),
   (∀ j, j ∈ D → listed.getD j true = false ∧ ∃ oj, ops[j]? = some oj ∧ ∃ e ∈ oj.after, Region.binds md e = true ∧ (e.on = i ∨ e.on ∈ D)) →
   (∀ j oj, ops[j]? = some oj → j ≠ i → listed.getD j true = false → j ∉ D → oi.apart ops oj = true ∧ okP (cls gs ns i oi.op) (cls gs ns j oj.op) = true) →
   (∀ l : List Nat, l.Nodup → (∀ k, k ∈ l → listed.getD k true = false) → l.length ≤ fuel + 1) →
   i ∈ Region.ready md ops listed → tauO P w0 S0 (cls gs ns i oi.op) ops oi fr S (PC (wpO P w0 S0 gs ns md ops K fuel (listed.setIfInBounds i true))) → wpO P w0 S0 gs ns md ops K (fuel + 1) listed fr S := by
 intro fuel
 induction fuel with
 | zero =>
  intro listed fr S _ _ hcnt hr H
  refine ⟨fun h => (by rw [h] at hr; cases hr), fun j hj => ?_⟩
  by_cases hji : j = i
  ·subst hji; unfold tauI; simp only [hi]; exact H
  ·exfalso
   have := hcnt [i, j] (by simp [Ne.symm hji]) fun k hk => by
    simp only [List.mem_cons, List.not_mem_nil, or_false] at hk
    rcases hk with rfl | rfl
    ·exact (mem_ready.1 hr).1
    ·exact (mem_ready.1 hj).1
   simp at this
 | succ fuel ih =>
  intro listed fr S hD hfree hcnt hr H
  refine ⟨fun h => (by rw [h] at hr; cases hr), fun j hj => ?_⟩
  by_cases hji : j = i
  ·subst hji; unfold tauI; simp only [hi]; exact H
  ·obtain ⟨hjun, oj, hoj, hall⟩ := mem_ready.1 hj
   have hlis : ∀ e ∈ oj.after, Region.binds md e = true → listed.getD e.on true = false → False := fun e he hb h0 => by
    have h1 := hall e he hb
    rcases Nat.lt_or_ge e.on listed.size with h' | h'
    ·simp [h'] at h0 h1; rw [h0] at h1; cases h1
    ·simp [Array.getElem?_eq_none h'] at h1
   have hjD : j ∉ D := fun hjD => by
    obtain ⟨_, oj', ho, e, he, hb, hor⟩ := hD j hjD
    rw [hoj] at ho; cases ho
    rcases hor with h | h
    ·exact hlis e he hb (by rw [h]; exact (mem_ready.1 hr).1)
    ·exact hlis e he hb (hD _ h).1
   have h1 : tauO P w0 S0 (cls gs ns i oi.op) ops oi fr S (PC fun fr S => tauO P w0 S0 (cls gs ns j oj.op) ops oj fr S (PC (wpO P w0 S0 gs ns md ops K fuel ((listed.setIfInBounds i true).setIfInBounds j true)))) :=
    tauO_mono (fun fr S h => PC.mono (fun fr S h => by
     have := h.2 j (ready_mono hj hji)
     unfold tauI at this; simp only [hoj] at this; exact this) h) H
   have hc := hfree j oj hoj hji hjun hjD
   have h2 := tauO_comm hc.1 hc.2 h1
   have hfree' : ∀ k ok, ops[k]? = some ok → k ≠ i → (listed.setIfInBounds j true).getD k true = false → k ∉ D → oi.apart ops ok = true ∧ okP (cls gs ns i oi.op) (cls gs ns k ok.op) = true := fun k ok hk hki hun hno => by
    refine hfree k ok hk hki ?_ hno
    by_cases hjk : j = k
    ·subst hjk; exact hjun
    ·rw [getD_set_ne true hjk] at hun; exact hun
   have hD' : ∀ k, k ∈ D → (listed.setIfInBounds j true).getD k true = false ∧ ∃ ok, ops[k]? = some ok ∧ ∃ e ∈ ok.after, Region.binds md e = true ∧ (e.on = i ∨ e.on ∈ D) := fun k hk => by
    refine ⟨?_, (hD k hk).2⟩
    rw [getD_set_ne true (show j ≠ k from fun e => hjD (by rw [e]; exact hk))]; exact (hD k hk).1
   unfold tauI
   simp only [hoj]
   have hcnt' : ∀ l : List Nat, l.Nodup → (∀ k, k ∈ l → (listed.setIfInBounds j true).getD k true = false) → l.length ≤ fuel + 1 := by
    intro l hn hl
    have hjs : j < listed.size := by
     rcases Nat.lt_or_ge j listed.size with h | h
     ·exact h
     ·rw [Array.getD_eq_getD_getElem?, Array.getElem?_eq_none h] at hjun; cases hjun
    have hjl : j ∉ l := fun hj => by
     have := hl j hj
     rw [Array.getD_eq_getD_getElem?, Array.getElem?_setIfInBounds] at this
     simp [hjs] at this
    have := hcnt (j :: l) (List.nodup_cons.2 ⟨hjl, hn⟩) fun k hk => by
     rcases List.mem_cons.1 hk with rfl | hk
     ·exact hjun
     ·have := hl k hk
      rw [getD_set_ne true (show j ≠ k from fun e => hjl (e ▸ hk))] at this
      exact this
    simp at this; omega
   refine tauO_mono (fun fr S h => PC.mono (fun fr S h => ih (listed.setIfInBounds j true) fr S hD' hfree' hcnt' (ready_mono hr (Ne.symm hji)) ?_) h) h2
   rw [Array.setIfInBounds_comm _ _ hji]
   exact h
def depO (md : Region.Mode) (ops : Array Oper) (listed : Array Bool) (i : Nat) : List Nat := (List.range ops.size).foldl (fun D j => match ops[j]? with
 | some oj => if !(j == i) && !listed.getD j true && oj.after.any (fun e => Region.binds md e && (e.on == i || D.contains e.on)) then j :: D else D
 | none => D) []
def freeD (gs ns : List Nat) (md : Region.Mode) (ops : Array Oper) (listed : Array Bool) (i : Nat) (D : List Nat) : Bool := (D.all fun j => !listed.getD j true && match ops[j]? with
 | some oj => oj.after.any (fun e => Region.binds md e && (e.on == i || D.contains e.on))
 | none => false) && (List.range ops.size).all fun j => match ops[i]?, ops[j]? with
 | some oi, some oj => j == i || listed.getD j true || D.contains j || (oi.apart ops oj && okP (cls gs ns i oi.op) (cls gs ns j oj.op))
 | _, _ => false
def freeO (gs ns : List Nat) (md : Region.Mode) (ops : Array Oper) (listed : Array Bool) (i : Nat) : Bool := freeD gs ns md ops listed i (depO md ops listed i)
def lexO (gs ns : List Nat) (md : Region.Mode) (ops : Array Oper) : List Nat → Array Bool → Bool
 | [], listed => (Region.ready md ops listed).isEmpty
 | k :: ks, listed => (Region.ready md ops listed).contains k && freeO gs ns md ops listed k && lexO gs ns md ops ks (listed.setIfInBounds k true)
theorem freeD_dep {gs ns D : List Nat} {listed : Array Bool} {i : Nat} (h : freeD gs ns md ops listed i D = true) : ∀ j, j ∈ D → listed.getD j true = false ∧ ∃ oj, ops[j]? = some oj ∧ ∃ e ∈ oj.after, Region.binds md e = true ∧ (e.on = i ∨ e.on ∈ D) := by
 intro j hj
 simp only [freeD, Bool.and_eq_true] at h
 have := List.all_eq_true.1 h.1 j hj
 simp only [Bool.and_eq_true, Bool.not_eq_true'] at this
 refine ⟨this.1, ?_⟩
 obtain ⟨-, h2⟩ := this
 split at h2
 ·rename_i oj ho
  obtain ⟨e, he, h3⟩ := Array.any_eq_true'.1 h2
  simp only [Bool.and_eq_true, Bool.or_eq_true, beq_iff_eq, List.contains_iff_mem] at h3
  exact ⟨oj, ho, e, he, h3⟩
 ·cases h2
theorem freeD_spec {gs ns D : List Nat} {listed : Array Bool} {i : Nat} {oi : Oper} (hi : ops[i]? = some oi) (h : freeD gs ns md ops listed i D = true) : ∀ j oj, ops[j]? = some oj → j ≠ i → listed.getD j true = false → j ∉ D → oi.apart ops oj = true ∧ okP (cls gs ns i oi.op) (cls gs ns j oj.op) = true := by
 intro j oj hj hji hun hno
 simp only [freeD, Bool.and_eq_true] at h
 have hlt : j < ops.size := (Array.getElem?_eq_some_iff.1 hj).1
 have := List.all_eq_true.1 h.2 j (List.mem_range.2 hlt)
 simp only [hi, hj, hun, Bool.or_false, Bool.or_eq_true, beq_iff_eq, Bool.and_eq_true, List.contains_iff_mem] at this
 rcases this with (h | h) | h
 ·exact absurd h hji
 ·exact absurd h hno
 ·exact h
def LO (P : Program) (w0 : W0) (S0 : St) (gs ns : List Nat) (ops : Array Oper) (K : List DV → St → Prop) : List Nat → List DV → St → Prop
 | [], fr, S => K fr S
 | i :: is, fr, S => match ops[i]? with
  | none => False
  | some o => tauO P w0 S0 (cls gs ns i o.op) ops o fr S (LO P w0 S0 gs ns ops K is)
theorem wpO_lex {gs ns : List Nat} {K : List DV → St → Prop} : ∀ (l : List Nat) (listed : Array Bool) (fr : List DV) (S : St),
  (∀ l' : List Nat, l'.Nodup → (∀ k, k ∈ l' → listed.getD k true = false) → l'.length ≤ l.length) →
  lexO gs ns md ops l listed = true → LO P w0 S0 gs ns ops K l fr S → wpO P w0 S0 gs ns md ops K l.length listed fr S
 | [], _, _, _, _, hB, h => ⟨by simpa [lexO] using hB, h⟩
 | k :: l, listed, fr, S, hcnt, hB, h => by
  simp only [List.length_cons, lexO, Bool.and_eq_true] at hB
  obtain ⟨⟨hr, hf⟩, hB'⟩ := hB
  have hr' : k ∈ Region.ready md ops listed := by simpa using hr
  have hun := (mem_ready.1 hr').1
  unfold LO at h
  split at h
  ·exact h.elim
  rename_i o h0
  refine wpO_first h0 l.length listed fr S (freeD_dep hf) (freeD_spec h0 hf) (by simpa using hcnt) hr' ?_
  refine tauO_mono (fun fr S h => ⟨S, .refl S, wpO_lex l _ fr S ?_ hB' h⟩) h
  intro l' hn hl'
  have hks : k < listed.size := by
   rcases Nat.lt_or_ge k listed.size with h | h
   ·exact h
   ·rw [Array.getD_eq_getD_getElem?, Array.getElem?_eq_none h] at hun; cases hun
  have hkl : k ∉ l' := fun hk => by
   have := hl' k hk
   rw [Array.getD_eq_getD_getElem?, Array.getElem?_setIfInBounds] at this
   simp [hks] at this
  have := hcnt (k :: l') (List.nodup_cons.2 ⟨hkl, hn⟩) fun m hm => by
   rcases List.mem_cons.1 hm with rfl | hm
   ·exact hun
   ·have := hl' m hm
    rw [getD_set_ne true (show k ≠ m from fun e => hkl (e ▸ hm))] at this
    exact this
  simp at this; omega
theorem bodyO_yields {c : Nat} {o : Oper} {fr : List DV} {S : St} {K : List DV → St → Prop} (h : bodyO P w0 S0 c o fr S K) : YieldsE P w0 o (ev fr) S fun d S' => K (pt fr o.dst d) S' := by
 rcases h with ⟨c, d, q, k⟩ | ⟨c, hS, d, q, k⟩ | ⟨c, q⟩ | ⟨c, q⟩ | ⟨c, hS, t, ht, hz, k⟩
 ·exact yields_mono (fun d' S' h => by rw [h.1, h.2]; exact k) (q S)
 ·exact yields_mono (fun d' S' h => by rw [h.1, h.2]; exact k) (q S hS)
 ·exact yields_mono (fun d' S' h => h.2) q
 ·exact q
 ·exact y_alloc ht ⟨hz, k⟩
theorem wpAny_of_O {gs ns : List Nat} {ro : Option Nat} {g0 : Gh} {Q : Exit → List DV → St → Prop} : ∀ (fuel : Nat) (listed : Array Bool) (fr : List DV) (S : St) (g : Gh) (a : Act) (w : World), g0.le g → Rel w0 g S w → RepL g fr a.tmps.toList → Dk w0 g.obj a w →
  wpO P w0 S0 gs ns md ops (fun fr S => Q .normal fr S) fuel listed fr S → wpAnyIn (fz ro) 0 P md ops (Good w0 g0 Q) fuel listed a w
 | 0, listed, fr, S, g, a, w, k, h1, h2, h3, h => ⟨h.1, k.kd h3, g, fr, S, k, h1, h2, h.2⟩
 | fuel + 1, listed, fr, S, g, a, w, k, h1, h2, h3, h => by
  refine ⟨fun h0 => ⟨k.kd h3, g, fr, S, k, h1, h2, h.1 h0⟩, fun i hi => ?_⟩
  have hq := h.2 i hi
  unfold tauI at hq
  unfold wpOpIn
  split
  ·rename_i ho; simp only [ho] at hq; obtain ⟨T, hp, hq⟩ := hq; exact wpAny_of_O fuel _ fr T g a w k (hp.symm.rel h1) h2 h3 hq
  ·rename_i o ho
   simp only [ho] at hq
   rcases hq with ⟨hw, hb⟩ | ⟨hw, hk⟩
   ·have hw' := wantB_sound (o := o) h2 hw
    rw [if_pos hw']
    refine wpIn_of_yields (bodyO_yields hb) h1 (fun x _ => rep_ev h2 x) h3 fun g' d' u S' w' k1 k2 k3 k4 k5 => ?_
    obtain ⟨T, hp, k4⟩ := k4
    exact wpAny_of_O fuel _ _ _ g' _ _ (k.trans k1) (hp.symm.rel k2) (repL_put (h2.mono k1) _ k3) (k1.dk k5) k4
   ·have hw' := wantB_sound (o := o) h2 hw
    rw [if_neg (by simp [hw'])]
    obtain ⟨T, hp, hk⟩ := hk; exact ⟨fun _ _ => trivial, wpAny_of_O fuel _ _ _ g _ _ k (hp.symm.rel h1) (repL_put h2 _ (rep_ud g)) (h3.keep (put_defers _ _ _) fun _ _ h _ => h) hk⟩
theorem awp_drawO {id : Nat} {l : List Oper} {gs ns ord : List Nat} {fr : List DV} {S : St} {Q : Exit → List DV → St → Prop} (hm : P.follows .mixedOrders = true) (hB : lexO gs ns .any l.toArray ord (Array.replicate l.length false) = true) (hO : ord.length = l.length) (h : LO P w0 S0 gs ns l.toArray (fun fr S => Q .normal fr S) ord fr S) : AWp P w0 (.region id l.toArray true) fr S Q := by
 intro g a w h1 h2 h3
 refine wpA_region_any hm fun ro => ?_
 have hR : Rel w0 g S { w with drawn := w.drawn + 1 } := h1.grow (below_drew w)
 have hcnt : ∀ l' : List Nat, l'.Nodup → (∀ k, k ∈ l' → (Array.replicate l.length false).getD k true = false) → l'.length ≤ ord.length := by
  intro l' hn hl
  have hsub : ∀ k, k ∈ l' → k ∈ List.range l.length := fun k hk => by
   have := hl k hk
   rw [List.mem_range]
   rcases Nat.lt_or_ge k l.length with h | h
   ·exact h
   ·rw [Array.getD_eq_getD_getElem?, Array.getElem?_eq_none (by simpa using h)] at this; cases this
  have := hn.length_le_of_subset (l₂ := List.range l.length) hsub
  rw [hO]; simpa using this
 have := wpO_lex (P := P) (w0 := w0) (S0 := S0) (md := .any) (ops := l.toArray) ord (Array.replicate l.length false) fr S hcnt hB h
 have := wpAny_of_O (ro := ro) (g0 := g) (Q := Q) _ _ fr S g a _ (.refl g) hR h2 (h3.keep rfl fun _ _ h _ => h) this
 rw [hO] at this
 simpa using this
theorem lookup_has {m : Option (KK × DV)} {S T : St} {x y : DV} {ok : Bool} {K : DV → Prop} (hT : Has S T) (h : vLookup m S x y ok K) : vLookup m T x y ok K := by
 unfold vLookup at *
 cases m with
 | none => exact h.elim
 | some p =>
  obtain ⟨h1, h2⟩ := h
  refine ⟨h1, ?_⟩
  cases hk : kVal y with
  | none => rw [hk] at h2; exact h2.elim
  | some k =>
   rw [hk] at h2
   obtain ⟨h3, h4⟩ := h2
   refine ⟨h3, ?_⟩
   cases x with
   | mp l =>
    simp only at h4 ⊢
    cases hl : lk S.acc l with
    | none => rw [hl] at h4; exact h4.elim
    | some o => rw [hT.acc _ _ hl]; rw [hl] at h4; exact h4
   | v u =>
    cases u with
    | map o => cases o <;> exact h4
    | _ => exact h4
   | _ => exact h4
theorem load_has {k : TK} {S T : St} {x : DV} {K : DV → Prop} (hT : Has S T) (h : vLoad k S x K) : vLoad k T x K := by
 unfold vLoad at *
 split at h
 ·split at h
  ·rename_i ds hb
   simp only [hT.box _ _ hb]
   exact h
  ·exact h.elim
 ·exact h
 ·split at h
  ·rename_i hb
   simp only [hT.acc _ _ hb]
   exact h
  ·rename_i hb
   simp only [hT.acc _ _ hb]
   exact h
  ·exact h.elim
 ·exact h.elim
end
def QO (P : Program) (w0 : W0) (S0 : St) (f : FuncId) (ds : List DV) [K : Cn (DV → Prop)] : Prop := ∃ d, (∀ T, Has S0 T → ACall P w0 f ds T fun d' S' => d' = d ∧ S' = T) ∧ K.k d
def vCallO (P : Program) (w0 : W0) (S0 : St) (cal : DV) (ds : List DV) (K : DV → Prop) : Prop := match cal with
 | .v (.func (.func f) a cap) => a.size = 0 ∧ okF P f = true ∧ cap.toList.all (fun u => u.oneCell') = true ∧ ds.all naccA = true ∧ @QO P w0 S0 f (ds ++ cap.toList.map .v) ⟨K⟩
 | _ => False
def opO (P : Program) (w0 : W0) (S0 : St) (op : Op) (fr : List DV) (S : St) (K : DV → St → Prop) : Prop := match op with
 | .load t x => Has S0 S ∧ vLoad (tk P t) S0 (ev fr x) (K · S)
 | .call ⟨.value cal, args, _⟩ => Has S0 S ∧ vCallO P w0 S0 (ev fr cal) (args.toList.map (ev fr)) (K · S)
 | .alloc t => Has S0 S ∧ okE (zD P t) = true ∧ bxK S (zD P t) K
 | .lookup t x y ok => Has S0 S ∧ vLookup (mpT P t) S0 (ev fr x) (ev fr y) ok (K · S)
 | op => selK (Z.kX op == 0) (opZ P w0 op fr S (K · S)) (vcOp P w0 op fr S K)
def stO (P : Program) (w0 : W0) (S0 : St) (gs ns : List Nat) (i : Nat) (op : Op) (fr : List DV) (S : St) (K : DV → St → Prop) : Prop :=
 selK (gs.contains i) (vcOp P w0 op fr S fun d S' => Has S0 S' ∧ K d S') (selK (ns.contains i) (vcOp P w0 op fr S K) (opO P w0 S0 op fr S K))
def stepO (P : Program) (w0 : W0) (S0 : St) (gs ns : List Nat) (ops : Array Oper) (K : List DV → St → Prop) (oo : Option Oper) (i : Nat) (fr : List DV) (S : St) : Prop := match oo with
 | none => False
 | some o => guardK ops fr o.guard (fun fr => stO P w0 S0 gs ns i o.op fr S fun d S' => K (pt fr o.dst d) S') (fun fr => K (pt fr o.dst ud) S)
def vcLO (P : Program) (w0 : W0) (S0 : St) (gs ns : List Nat) (ops : Array Oper) (K : List DV → St → Prop) : List Nat → List DV → St → Prop
 | [], fr, S => K fr S
 | i :: is, fr, S => stepO P w0 S0 gs ns ops (vcLO P w0 S0 gs ns ops K is) ops[i]? i fr S
section
variable {P : Program} {w0 : W0} {S0 : St} {ops : Array Oper} {md : Region.Mode}
theorem qy_hm {S0 : St} {o : Oper} {fr : List DV} {d : DV} (q : ∀ T, Has S0 T → QY P w0 T o fr d) (T : St) (hT : Hm S0 T) : QY P w0 T o fr d := fun g w ρ r => q T (hT.has r) g w ρ r
theorem stO_sound {gs ns : List Nat} {i : Nat} {o : Oper} {fr : List DV} {S : St} {K : List DV → St → Prop} (hs : okSl o.op = true) (h : stO P w0 S0 gs ns i o.op fr S fun d S' => K (pt fr o.dst d) S') : bodyO P w0 S0 (cls gs ns i o.op) o fr S K := by
 unfold stO at h
 cases hg : gs.contains i with
 | true =>
  rw [hg] at h
  have hc : cls gs ns i o.op = 2 := by unfold cls; rw [if_pos hg]
  rw [hc]
  have h' : vcOp P w0 o.op fr S fun d S' => Has S0 S' ∧ K (pt fr o.dst d) S' := h
  exact .inr (.inr (.inl ⟨rfl, yields_mono (fun d S' hk => ⟨.of hk.1, hk.2⟩) (vcOp_sound hs h')⟩))
 | false =>
  rw [hg] at h
  cases hn : ns.contains i with
  | true =>
   rw [hn] at h
   have hc : cls gs ns i o.op = 3 := by unfold cls; rw [if_neg (by rw [hg]; simp), if_pos hn]
   rw [hc]
   exact .inr (.inr (.inr (.inl ⟨rfl, vcOp_sound hs h⟩)))
  | false =>
   rw [hn] at h
   have hc : cls gs ns i o.op = (match kY o.op with | 0 => 0 | 1 => 1 | 2 => 4 | _ => 3) := by unfold cls; rw [if_neg (by rw [hg]; simp), if_neg (by rw [hn]; simp)]
   rw [hc]
   replace h : opO P w0 S0 o.op fr S fun d S' => K (pt fr o.dst d) S' := h
   have gen : ∀ (h : selK (Z.kX o.op == 0) (opZ P w0 o.op fr S fun d => K (pt fr o.dst d) S) (vcOp P w0 o.op fr S fun d S' => K (pt fr o.dst d) S')), Z.kX o.op = 0 ∨ Z.kX o.op = 3 → kY o.op = Z.kX o.op → bodyO P w0 S0 (match kY o.op with | 0 => 0 | 1 => 1 | 2 => 4 | _ => 3) o fr S K := by
    intro h hk hkk
    rw [hkk]
    rcases hk with hk | hk
    ·rw [hk] at h ⊢
     obtain ⟨d, q1, q2⟩ := Z.pure_detZ hk (show opZ P w0 o.op fr S fun d => K (pt fr o.dst d) S from h)
     exact .inl ⟨rfl, d, fun S' => by
      obtain ⟨d', k1, k2⟩ := opZ_sound hs (q1 S')
      subst k2; exact k1, q2⟩
    ·rw [hk] at h ⊢
     exact .inr (.inr (.inr (.inl ⟨rfl, vcOp_sound hs h⟩)))
   cases hop : o.op with
   | load t x =>
    rw [hop] at h hs
    obtain ⟨hS, h⟩ := h
    obtain ⟨d, q1, q2⟩ := det_load (show vLoad (tk P t) S0 (ev fr x) (fun d => K (pt fr o.dst d) S) from h)
    refine .inr (.inl ⟨rfl, .of hS, d, qy_hm fun T hT => ?_, q2⟩)
    exact vcOp_sound (by rw [hop]; exact hs) (by rw [hop]; simpa [vcOp] using load_has hT q1)
   | alloc t =>
    rw [hop] at h
    exact .inr (.inr (.inr (.inr ⟨rfl, .of h.1, t, hop, h.2.1, h.2.2⟩)))
   | call c =>
    obtain ⟨callee, args, ts⟩ := c
    cases callee with
    | value cal =>
     rw [hop] at h hs
     obtain ⟨hS, h⟩ := h
     simp only [vCallO] at h
     split at h
     ·rename_i f a cap hcal
      obtain ⟨h1, h2, h3, h4, d, h5, h6⟩ := h
      refine .inr (.inl ⟨rfl, .of hS, d, qy_hm fun T hT => ?_, h6⟩)
      exact vcOp_sound (by rw [hop]; exact hs) (by rw [hop]; simp only [vcOp, hcal]; exact vCall_of h1 h3 (by rw [h2, gX_t]; exact callK_id h4 (h5 T hT)))
     ·exact h.elim
    | builtin b =>
     rw [← hop]
     refine gen (by rw [hop] at h ⊢; exact h) ?_ (by rw [hop]; rfl)
     rw [hop]
     cases b <;> first | exact .inl rfl | exact .inr rfl
    | invoke r m =>
     rw [← hop]
     refine gen (by rw [hop] at h ⊢; exact h) ?_ (by rw [hop]; rfl)
     rw [hop]; exact .inr rfl
   | lookup t x y ok =>
    rw [hop] at h hs
    obtain ⟨hS, h⟩ := h
    obtain ⟨d, q1, q2⟩ := det_lookup (show vLookup (mpT P t) S0 (ev fr x) (ev fr y) ok (fun d => K (pt fr o.dst d) S) from h)
    refine .inr (.inl ⟨rfl, .of hS, d, qy_hm fun T hT => ?_, q2⟩)
    exact vcOp_sound (by rw [hop]; exact hs) (by rw [hop]; simpa [vcOp] using lookup_has hT q1)
   | _ => rw [← hop]; refine gen (by rw [hop] at h ⊢; exact h) ?_ (by rw [hop]; rfl); rw [hop]; first | exact .inl rfl | exact .inr rfl
theorem vcLO_sound {gs ns : List Nat} {K : List DV → St → Prop} (hs : ∀ (i : Nat) (o : Oper), ops[i]? = some o → okSl o.op = true) : ∀ (l : List Nat) {fr : List DV} {S : St}, vcLO P w0 S0 gs ns ops K l fr S → LO P w0 S0 gs ns ops K l fr S
 | [], fr, S, h => h
 | i :: is, fr, S, h => by
  unfold vcLO stepO at h
  unfold LO
  cases ho : ops[i]? with
  | none => rw [ho] at h; exact h
  | some o =>
   rw [ho] at h
   simp only at h ⊢
   rcases guardK_want h with ⟨hw, ha⟩ | ⟨hw, hb⟩
   ·exact .inl ⟨hw, bodyO_mono (fun fr S h => vcLO_sound hs is h) (stO_sound (hs i o ho) ha)⟩
   ·exact .inr ⟨hw, vcLO_sound hs is hb⟩
def okO (l : List Oper) (gs ns ord : List Nat) : Bool := l.all (fun o => okSl o.op) && lexO gs ns .any l.toArray ord (Array.replicate l.length false) && (ord.length == l.length)
theorem ordK (gs ns ord : List Nat) {id : Nat} {l : List Oper} {fr : List DV} {S : St} {Q : Exit → List DV → St → Prop} (hm : P.follows .mixedOrders = true) (hB : okO l gs ns ord = true) (h : vcLO P w0 S gs ns l.toArray (fun fr S => normF fr fun fr => Q .normal fr S) ord fr S) : AWp P w0 (.region id l.toArray true) fr S Q := by
 simp only [okO, Bool.and_eq_true, beq_iff_eq] at hB
 refine awp_drawO hm hB.1.2 hB.2 (vcLO_sound (fun i o ho => ?_) ord h)
 have : l[i]? = some o := by simpa using ho
 exact List.all_eq_true.1 hB.1.1 o (List.mem_of_getElem? this)
def inL : List Nat → Nat → Prop
 | [], _ => False
 | a :: L, b => a = b ∨ inL L b
noncomputable def but (L : List Nat) (S : St) : St := ⟨S.box.filter fun p => @decide (¬ inL L p.1) (Classical.propDecidable _), S.acc⟩
end
section
variable {P : Program} {w0 : W0} {S0 : St} {gs ns : List Nat} {ops : Array Oper} {fr : List DV} {S : St} {dst : Option Tmp} {op : Op} {ty : TypeId} {pos : String} {aft : Array Edge}
section
variable {K : List DV → St → Prop}
theorem o_nil : vcLO P w0 S0 gs ns ops K [] fr S = K fr S := rfl
theorem o_cons (i : Nat) (is : List Nat) : vcLO P w0 S0 gs ns ops K (i :: is) fr S = stepO P w0 S0 gs ns ops (vcLO P w0 S0 gs ns ops K is) ops[i]? i fr S := rfl
@[congr] theorem c_stepO {oo oo' : Option Oper} {i : Nat} (h : oo = oo') : stepO P w0 S0 gs ns ops K oo i fr S = stepO P w0 S0 gs ns ops K oo' i fr S := by cases h; rfl
theorem o_none (i : Nat) : stepO P w0 S0 gs ns ops K (some ⟨dst, op, ty, pos, aft, none⟩) i fr S = stO P w0 S0 gs ns i op fr S fun d S' => K (pt fr dst d) S' := rfl
end
variable {K : DV → St → Prop}
theorem o_st (i : Nat) : stO P w0 S0 gs ns i op fr S K = selK (gs.contains i) (vcOp P w0 op fr S fun d S' => Has S0 S' ∧ K d S') (selK (ns.contains i) (vcOp P w0 op fr S K) (opO P w0 S0 op fr S K)) := rfl
theorem o_load (t : TypeId) (x : Operand) : opO P w0 S0 (.load t x) fr S K = (Has S0 S ∧ vLoad (tk P t) S0 (ev fr x) (K · S)) := rfl
@[congr] theorem c_vCallO {cal cal' : DV} {ds ds' : List DV} {K : DV → Prop} (h1 : cal = cal') (h2 : ds = ds') : vCallO P w0 S0 cal ds K = vCallO P w0 S0 cal' ds' K := by cases h1; cases h2; rfl
theorem o_move (x : Operand) : opO P w0 S0 (.move x) fr S K = vcOpQ P w0 (.move x) fr S (K · S) := rfl
theorem o_assign (x : Operand) : opO P w0 S0 (.assign x) fr S K = vcOpQ P w0 (.assign x) fr S (K · S) := rfl
theorem o_fieldAddr (t : TypeId) (x : Operand) (f : Nat) : opO P w0 S0 (.fieldAddr t x f) fr S K = vcOpQ P w0 (.fieldAddr t x f) fr S (K · S) := rfl
theorem o_index (t : TypeId) (x i : Operand) : opO P w0 S0 (.index t x i) fr S K = vcOpQ P w0 (.index t x i) fr S (K · S) := rfl
theorem o_binOp (b : BinOp) (t : TypeId) (x y : Operand) (t' : TypeId) : opO P w0 S0 (.binOp b t x y t') fr S K = vcOpQ P w0 (.binOp b t x y t') fr S (K · S) := rfl
theorem o_convert (s d : TypeId) (x : Operand) : opO P w0 S0 (.convert s d x) fr S K = opZ P w0 (.convert s d x) fr S (K · S) := rfl
theorem o_slice (t : TypeId) (x : Operand) (lo hi mx : Option Operand) : opO P w0 S0 (.slice t x lo hi mx) fr S K = vcOpQ P w0 (.slice t x lo hi mx) fr S (K · S) := rfl
theorem o_buildSlice (t : TypeId) (len : Nat) (parts : Array (Nat × Operand)) : opO P w0 S0 (.buildSlice t len parts) fr S K = vcOpQ P w0 (.buildSlice t len parts) fr S (K · S) := rfl
theorem o_b_len (a : Array Operand) (ts : Array TypeId) : opO P w0 S0 (.call ⟨.builtin .len, a, ts⟩) fr S K = vcOpQ P w0 (.call ⟨.builtin .len, a, ts⟩) fr S (K · S) := rfl
theorem o_b_min (a : Array Operand) (ts : Array TypeId) : opO P w0 S0 (.call ⟨.builtin .min, a, ts⟩) fr S K = vcOpQ P w0 (.call ⟨.builtin .min, a, ts⟩) fr S (K · S) := rfl
end
attribute [go_sem ↓] o_nil o_cons o_st o_load o_move o_assign o_fieldAddr o_index o_binOp o_convert o_slice o_buildSlice o_b_len o_b_min
attribute [go_sem] o_none
end Aml.Y
namespace Aml
open Go Go.RowKit
section
variable {P : Program} {w0 : W0}
end
end Aml
namespace Aml
open Go Go.RowKit
section
variable {P : Program} {w0 : W0}
end
end Aml
namespace Aml
open Go Go.RowKit
section
variable {P : Program} {F : Fence} {n : Nat} {Q : Exit → Act → World → Prop} {a : Act} {w : World} {b : Frame} {k : List Item} {cs : List Frame}
theorem stepR_scope {c : Code} : step P (lone (b.atR a (.code (.scope c) :: k)) cs w) = .next (lone (b.atR a (.code c :: .inScope c :: k)) cs w) := by
 apply step_lone_go; simp [stepG, stepG.exec, Frame.atR]
theorem stepR_inScope {c : Code} : step P (lone (b.atR a (.inScope c :: k)) cs w) = .next (lone (b.atR a k) cs w) := by
 apply step_lone_go; simp [stepG, stepG.exec, Frame.atR]
def noGA (Q : Exit → Act → World → Prop) : Exit → Act → World → Prop
 | .goto _, _, _ => False
 | e, a, w => Q e a w
theorem wpIn_scope {c : Code} (h : c.wpIn F n P (noGA Q) a w) : (Code.scope c).wpIn F n P Q a w := by
 intro b k cs hro hb hr
 have h0 : (lone (b.atR a (.code (.scope c) :: k)) cs w).fenced P F := fenced_calm hb hr rfl
 obtain ⟨e, a₁, w₁, hq, harr⟩ := h b (.inScope c :: k) cs hro hb hr
 cases e with
 | normal => exact ⟨.normal, a₁, w₁, hq, .head h0 stepR_scope (StepsIn.trans harr (.one (fenced_calm hb hr rfl) stepR_inScope))⟩
 | exit id =>
  have hx : exitTo id (.inScope c :: k) = exitTo id k := by simp [exitTo]
  exact ⟨.exit id, a₁, w₁, hq, fun k' hk => .head h0 stepR_scope (harr.1 k' (by rw [hx]; exact hk)),
   fun hr' hk => let ⟨k₁, h1, h2⟩ := harr.2 hr' (by rw [hx]; exact hk); ⟨k₁, h1, .head h0 stepR_scope h2⟩⟩
 | goto l => exact hq.elim
 | ret => exact ⟨_, a₁, w₁, hq, .of_steps (.one h0 stepR_scope) harr⟩
 | panic ch => exact ⟨_, a₁, w₁, hq, .of_steps (.one h0 stepR_scope) harr⟩
 | outgrown => exact ⟨_, a₁, w₁, hq, .of_steps (.one h0 stepR_scope) harr⟩
end
section
variable {P : Program} {w0 : W0}
def noG (Q : Exit → List DV → St → Prop) : Exit → List DV → St → Prop
 | .goto _, _, _ => False
 | e, a, w => Q e a w
theorem noG_ret (Q : Exit → List DV → St → Prop) (fr : List DV) (S : St) : noG Q .ret fr S = Q .ret fr S := rfl
attribute [go_sem] noG_ret
theorem awp_scope {c : Code} {fr : List DV} {S : St} {Q : Exit → List DV → St → Prop} (h : AWp P w0 c fr S (noG Q)) : AWp P w0 (.scope c) fr S Q := by
 intro g a w h1 h2 h3 ro hr
 refine wpIn_scope (wpIn_mono (h g a w h1 h2 h3 ro (hr.imp id fun h => h)) ?_)
 rintro e a w ⟨hd, g', fr, S, k1, k2, k3, k4⟩
 cases e with
 | goto l => exact k4.elim
 | _ => exact ⟨hd, g', fr, S, k1, k2, k3, k4⟩
end
end Aml
namespace Aml
open Go Go.RowKit
variable {P : Program} {w0 : W0}
end Aml
