/-
  A value laid over pages: what the program computes is the reference's; A tree laid on pages: what the reference computes; A value, and a cell, laid on pages: what the reference computes; Values laid on pages: what the program computes is the reference's; Keys looked for; sizes of a node's cells; the kid that has a key: what the program computes; Keys looked for; nodes parted and put together: what the program computes; A kid parted, two neighbours put together, a branch mended: what the program computes; A branch mended: what the program computes; Keys put and found: what the program computes; Keys found and deleted: what the program computes; Elements of an own row deleted: what the library computes; A key deleted: what the program computes; A key deleted, whole; where there is nothing: what the program computes; Where a name stands among a view's trees: what the program computes; A named tree set into an own row: what the library computes; A view's changes, plain; what the program computes; A view's tree changed, plain; what the program computes; A cursor settles: what the program computes; A cursor is set ahead of a key: what the program computes; A cursor's next entry; some entries of a tree by name: what the program computes; Some entries of a view's tree: what the program computes; Views stay views; what one name holds: plain laws; What a view holds at one name: plain laws; The law's steps on a view: what the program computes; The law's example on views: what the program computes; ViewApart: what the program computes; From an argument that reads as a datum to an abstract value; from a walked call to the row's own words; ViewApart; A view's trees as the law has them: what the program computes; A tree's entries: what the reference computes (in a view's words); What a view's names are; what was put is got: plain laws; Whether a tree may be: what the program computes; A tree laid on pages: what the reference computes; Trees marked as laid, and as the program has them; walked; Trees of the program, and the iterator over their nodes; DERIVED: THE SHELF's CONTRACTS AT THIS DUMP, IN PLAIN WORDS (tools/lay-plain.mjs out of 'TryzShelf.lean', which tools/lay-shelf.mjs wrote): THE SAME DECLARATIONS UNDER THE SAME NAMES: 'import', 'namespace', 'open', 'def', 'theorem' AND NOTHING ELSE: no command of the shelf's: FOR A HAND-IN. Each laying: the table of numbers ('.._ren') and one theorem, a field a fact of the dump's own or the kernel's comparison; each contract: ONE APPLICATION; The library's sort of ints, as the walk speaks; How many pages a tree takes, and which it has: the program; Which pages a tree has lost: the program; Trees as the program has them; the laws of marked ones; What the functions of pools compute; Rows of pages; rooms; what is the same; Numbers put together, in order; Numbers in order, as the document has them; the plain laws of order; What the reference tells of a tree's pages; What the reference tells of a tree's pages, and of lost ones. By an AI agent.
-/
import Derived.Test.YtpcmnebpnpgcmaaGreatDoorML5
import Derived.Test.YtpcmnebpnpgcmaaGreatDoorRows
import Derived.Test.YtpcmnebpnpgcmaaGreatDoorML3
import Derived.ProofKit
import Derived.OpenShut
import Derived.JoinedCond
import Derived.Carry
import Derived.Test.YtpcmnebpnpgcmaaGreatDoorML4
import Derived.Shelf.Small.Bits
import Derived.Shelf.Strconv.Itoa0
import Derived.Shelf.Sort.Plain
import Derived.Ground.Names2Prog
import Derived.Shelf.Slices.SearchI
import Derived.Shelf.Slices.In.SortNone
import Derived.Test.YtpcmnebpnpgcmaaGreatDoorProg
import Derived.Test.YtpcmnebpnpgcmaaGreatDoorML2
import Derived.Sort.Grow
set_option linter.unusedVariables false
set_option linter.unusedSimpArgs false
set_option maxRecDepth 100000
set_option maxHeartbeats 16000000
namespace Go.Proofs.YtpcmnebpnpgcmaaGreatDoor
open Aml Go
theorem cloneIA (w0 : W0) (l : List Int) (S : St) (h : l.length ≤ 1048576) : ACall Tryz.prog w0 26 [dL l] S (fun d S' => ∃ r : FN S.acc, d = .acc r.n l.length ∧ S' = ⟨S.box, (r.n, .arr 1 (l.map dI)) :: S.acc⟩) := by
 have hm8 : maxLen = 9223372036854775807 := rfl
 cases l with
 | nil =>
  refine acall_nil (K' := fun d S' => (d = .sl 0 true [] ∧ S' = S) ∨ ∃ r : FN S.acc, d = .acc r.n 0 ∧ S' = ⟨S.box, (r.n, .arr 1 []) :: S.acc⟩) ?_ 1 (by omega) ?_
  ·refine fnO [] mx Tryz.func26 rfl rfl (by kernel_rfl) ?_; (refine @goW _ ?_; refine goS1 @Tryz.ntmps26 ?_)
   exact ⟨by omega, fun r => ⟨r, rfl, rfl⟩⟩
  ·rintro d S' (⟨rfl, rfl⟩ | h)
   ·exact .inr ⟨⟨0, rfl⟩, fun l hl => ⟨⟨l, hl⟩, rfl, rfl⟩⟩
   ·exact .inl h
 | cons a t =>
  simp only [List.length_cons] at h
  refine fnO [] mx Tryz.func26 rfl rfl (by kernel_rfl) ?_; (refine @goW _ ?_; refine goS1 @Tryz.ntmps26 ?_)
  exact ⟨by omega, by omega, fun r => ⟨r, rfl, rfl⟩⟩
theorem chunkP (w0 : W0) (v : ByteArray) (S : St) : ACall Tryz.prog w0 121 [dB8 v, dI 119] S (fun d S' => ∃ (b : FN S.box) (c : FN ((b.n, [dB8 v]) :: S.box)), d = .v (.func (.func 152) #[] #[.pointer (some ⟨b.n, 0, none⟩), .pointer (some ⟨c.n, 0, none⟩)]) ∧ S' = ⟨(c.n, [dI 119]) :: (b.n, [dB8 v]) :: S.box, S.acc⟩) := by
 refine fnO [] mx Tryz.func121 rfl rfl (by kernel_rfl) ?_; (refine @goW _ ?_; refine goS1 @Tryz.ntmps121 ?_)
 exact fun b c => ⟨b, c, rfl, rfl⟩
def pr9 (v : ByteArray) (k : Nat) : DV := .sl 1 true (bY (v.extract (119 * k) (119 * k + partI v.size k)))
theorem chunkI (w0 : W0) (l b c : Nat) (v : ByteArray) (n : Nat) (X : List Nat → St) (hn : 119 * n < v.size + 119 ∧ v.size ≤ 119 * n) (hv : v.size ≤ 1048576) (hb : ∀ pre, lk (X pre).box b = some [dB8 v]) (hc : ∀ pre, lk (X pre).box c = some [dI 119])
  (hy : YK Tryz.prog w0 l X (fun x => [pr9 v (x - 1)]) (Vr n)) : ∀ T, Has (X []) T → ACall Tryz.prog w0 152 [.v (.func (.yield l) #[] #[]), .v (.pointer (some ⟨b, 0, none⟩)), .v (.pointer (some ⟨c, 0, none⟩))] T (fun _ T' => Has (X (Vr n)) T') := by
 intro T hT
 have t0 : lk T.box b = some [dB8 v] := hT.box _ _ (hb _)
 have t1 : lk T.box c = some [dI 119] := hT.box _ _ (hc _)
 have hs : (bY v).length = v.size := bY_len v
 refine fnP [] mx Tryz.func152 rfl rfl (by kernel_rfl) ?_; simp only [Tryz.ntmps152, List.length_cons, List.length_nil, Nat.reduceAdd, Nat.reduceSub, List.reduceReplicate, List.cons_append, List.nil_append]; (refine @goW _ ?_; refine goS3 @Tryz.ntmps152 @t0 @t1 ?_)
 refine loopK [] [0, 1, 2, 4] (fun s : St × Nat => [(4, dI (119 * s.2 : Nat))]) (fun s => s.1) (fun s => s.2 ≤ n ∧ Has (X (Vr s.2)) s.1) (fun s => n - s.2) (T, 0) mx (by kernel_rfl) ?_ ?_
 ·(refine @goW _ ?_; refine goS ?_)
  exact ⟨Nat.zero_le _, hT⟩
 ·rintro ⟨T, k⟩ ⟨hk, hT'⟩
  simp only at hk hT'
  have t0 : lk T.box b = some [dB8 v] := hT'.box _ _ (hb _)
  have t1 : lk T.box c = some [dI 119] := hT'.box _ _ (hc _)
  (refine @goW _ ?_; refine goS3 @t0 @t1 @hs ?_)
  have ec : (((119 * k : Nat) : Int) + if ((v.size - 119 * k : Nat) : Int) < 119 then ((v.size - 119 * k : Nat) : Int) else 119) = ((119 * k + partI v.size k : Nat) : Int) := by
   unfold partI
   split <;> omega
  have hp : partI v.size k ≤ 119 ∧ (119 * k ≤ v.size → 119 * k + partI v.size k ≤ v.size) := by unfold partI; omega
  rw [ec, w64 (by omega) (by omega), Int.toNat_natCast]
  refine ⟨fun hlt => ⟨by omega, by omega, by have := hp.2 (by omega); omega, ?_⟩, fun hge => ?_⟩
  ·have ee : ((bY v).take (119 * k + partI v.size k)).drop (119 * k) = bY (v.extract (119 * k) (119 * k + partI v.size k)) := by
    unfold bY
    rw [ByteArray.data_extract, Array.toList_extract, List.extract_eq_take_drop, List.map_take, List.map_drop, List.drop_take]
   rw [ee]
   refine useY (hy (Vr k) (k + 1) T (by rw [← Vr_succ]; exact Vr_pre (by omega)) hT') ?_
   rintro d T2 ⟨rfl, hT2, hK⟩
   have t2 : lk T2.box c = some [dI 119] := hT2.box _ _ (hc _)
   have e3 : IntKind.i64.wrap (((119 * k : Nat) : Int) + 119) = ((119 * (k + 1) : Nat) : Int) := by rw [w64 (by omega) (by omega)]; omega
   (refine @goW _ ?_; refine goS1 @t2 ?_)
   exact ⟨(T2, k + 1), ⟨by omega, by show Has (X (Vr (k + 1))) T2; rw [Vr_succ]; exact hT2⟩, by show n - (k + 1) < n - k; omega, e3, .refl _⟩
  ·have : n = k := by omega
   rw [this]
   refine ⟨_, T, .refl _, .refl _, ?_⟩
   exact hT'
theorem acall_has {P : Program} {w0 : W0} {f : FuncId} {args : List DV} {S : St} {K : DV → Prop} (h : ACall P w0 f args S fun d T => K d ∧ Has S T) : ACall P w0 f args S fun d S' => K d ∧ S' = S := by
 intro g vs w h1 h2
 refine (h g vs w h1 h2).mono ?_
 rintro e w' ⟨r, g', d, T, q1, q2, q3, q4, hk, hs⟩
 exact ⟨r, g', d, S, q1, q2, q3.has hs h1.nb h1.na, q4, hk, rfl⟩
theorem fn_ne {α : Type} {l : List (Nat × α)} (b : FN l) {c : Nat} {x : α} (h : lk l c = some x) : b.n ≠ c := fun e => by rw [← e, fn_lk b] at h; cases h
theorem lk_fn {α : Type} {l : List (Nat × α)} (b : FN l) {c : Nat} {x : α} (v : α) (h : lk l c = some x) : lk ((b.n, v) :: l) c = some x := by simp only [lk]; rw [if_neg (fn_ne b h)]; exact h
theorem lk_cons_ne {α : Type} {l : List (Nat × α)} {b c : Nat} {v : α} (h : b ≠ c) : lk ((b, v) :: l) c = lk l c := by simp only [lk]; rw [if_neg h]
theorem ordS {P : Program} {w0 : W0} (S0 : St) (gs ns ord : List Nat) {id : Nat} {l : List Oper} {fr : List DV} {S : St} {Q : Exit → List DV → St → Prop} (hm : P.follows .mixedOrders = true) (hB : Y.okO l gs ns ord = true) (h : Y.vcLO P w0 S0 gs ns l.toArray (fun fr S => normF fr fun fr => Q .normal fr S) ord fr S) : AWp P w0 (.region id l.toArray true) fr S Q := by
 simp only [Y.okO, Bool.and_eq_true, beq_iff_eq] at hB
 refine Y.awp_drawO hm hB.1.2 hB.2 (Y.vcLO_sound (fun i o ho => ?_) ord h)
 have : l[i]? = some o := by simpa using ho
 exact List.all_eq_true.1 hB.1.1 o (List.mem_of_getElem? this)
theorem has1 {b : Nat} {x : List DV} {U : St} (h : lk U.box b = some x) : Has ⟨[(b, x)], []⟩ U := by
 constructor
 ·intro c y hc
  simp only [lk] at hc
  split at hc
  ·rename_i e; subst e; rw [h]; exact hc
  ·cases hc
 ·intro c y hc
  simp only [lk] at hc
  cases hc
theorem has3 {X X' T T' : St} {b c l : Nat} (hX : ∀ d x, lk X'.box d = some x → d ≠ b → d ≠ c → lk X.box d = some x) (hA : ∀ d x, lk X'.acc d = some x → d ≠ l → lk X.acc d = some x) (h : Has X T)
  (hb : ∀ x, lk X'.box b = some x → lk T'.box b = some x) (hc : ∀ x, lk X'.box c = some x → lk T'.box c = some x) (hl : ∀ x, lk X'.acc l = some x → lk T'.acc l = some x)
  (hT : ∀ d, d ≠ b → d ≠ c → lk T'.box d = lk T.box d) (hU : ∀ d, d ≠ l → lk T'.acc d = lk T.acc d) : Has X' T' := ⟨fun d x hx => by
 by_cases e1 : d = b
 ·subst e1; exact hb x hx
 by_cases e2 : d = c
 ·subst e2; exact hc x hx
 rw [hT d e1 e2]; exact h.box d x (hX d x hx e1 e2), fun d x hx => by
 by_cases e1 : d = l
 ·subst e1; exact hl x hx
 rw [hU d e1]; exact h.acc d x (hA d x hx e1)⟩
theorem kp3 {X T T' : St} {b c l : Nat} (hb : lk X.box b ≠ none) (hc : lk X.box c ≠ none) (hl : lk X.acc l ≠ none) (hT : ∀ d, d ≠ b → d ≠ c → lk T'.box d = lk T.box d) (hU : ∀ d, d ≠ l → lk T'.acc d = lk T.acc d) : Kp X T T' := ⟨fun d x hd hx => by
 rw [hT d (fun e => hb (e ▸ hd)) (fun e => hc (e ▸ hd))]; exact hx, fun d x hd hx => by
 rw [hU d (fun e => hl (e ▸ hd))]; exact hx⟩
def nx9 (at_ : List Int) : List Int := at_.drop 1 ++ [0]
theorem put9H (w0 : W0) (hg : GlobC w0) (v : ByteArray) (at_ : List Int) (S : St) (hv : v.size ≤ 400) (hn : need (v.size : Int) = at_.length) (h0 : at_ ≠ []) (hr : ∀ x, x ∈ at_ → 2 ≤ x ∧ x ≤ 999) (hd : at_.Nodup) :
  ACall Tryz.prog w0 79 [dS v, dL at_] S (fun d S' => d = .tup [.sl 1 false ((chainS v at_).map dB8), dI 0] ∧ Has S S') := by
 have hpos := List.length_pos_iff.2 h0
 have hneed : 16 < v.size ∧ 119 * (at_.length - 1) < v.size ∧ v.size ≤ 119 * at_.length ∧ at_.length ≤ 4 := by
  unfold need at hn
  split at hn
  ·omega
  ·omega
 have hcl : (chainS v at_).length = at_.length := by unfold chainS; rw [List.length_map, List.length_range]
 refine fnO [2, 6, 11, 12] mx Tryz.func79 rfl rfl (by kernel_rfl) ?_; (refine @goW _ ?_; refine goS1 @Tryz.ntmps79 ?_)
 intro b1 b2 m b3 b6
 refine awp_growB b3.n 0 1 (by omega) (ds := [.sl 0 true [], .mp m.n]) (by (refine @goW _ ?_; exact goT)) rfl fun la => ?_
 refine shrK [6, 11, 12] [] mx (by kernel_rfl) ?_
 (refine @goW _ ?_; refine goS ?_)
 refine ⟨fun h => absurd h (by omega), fun _ => ?_⟩
 refine use1 (needP w0 _ _) ?_
 (refine @goW _ ?_; refine goS1 @hn ?_)
 have hne : ¬ la.n = m.n := by (refine @goW _ ?_; exact goT)
 refine useK (containsP9 w0 (b6 := b6.n) (bp := b3.n) (la := la.n) (m := m.n) at_ (by (refine @goW _ ?_; exact goT)) ⟨by (refine @goW _ ?_; exact goT), by (refine @goW _ ?_; exact goT), [], 0, by (refine @goW _ ?_; exact goT), fun x => rfl⟩ (by omega) hr hd hne (by (refine @goW _ ?_; exact goT))) ?_
 rintro _ T ⟨rfl, hF⟩
 have hST : Has S T := ⟨fun c x hx => by
  have h1 := lk_fn b1 [.sl 0 true []] hx
  have h2 := lk_fn b2 [dI 0] h1
  have h3 := lk_fn b3 [.acc la.n 0, .mp m.n] h2
  have h4 := (lk_cons_ne (v := [pt9 b3.n]) (fn_ne b6 (lk_fn b3 [.sl 0 true [], .mp m.n] h2))).trans h3
  exact hF.b c x (fun e => fn_ne b3 h2 e.symm) h4, fun c x hx => by
  have h1 := lk_fn m (.xo (.mp (.int .i64) [] 0)) hx
  have h2 := lk_fn la (.arr 1 []) h1
  exact hF.a c x (fun e => fn_ne la h1 e.symm) (fun e => fn_ne m hx e.symm) h2⟩
 have tb1 : lk T.box b1.n = some [.sl 0 true []] := hF.b _ _ (by (refine @goW _ ?_; exact goT)) (by (refine @goW _ ?_; exact goT))
 have tb2 : lk T.box b2.n = some [dI 0] := hF.b _ _ (by (refine @goW _ ?_; exact goT)) (by (refine @goW _ ?_; exact goT))
 clear hF
 (refine @goW _ ?_; refine goS ?_)
 refine ⟨by omega, ?_⟩
 refine useK (cloneIA w0 (at_.drop 1) _ (by rw [List.length_drop]; omega)) ?_
 rintro _ _ ⟨r, rfl, rfl⟩
 have hdl : (at_.drop 1).length = at_.length - 1 := List.length_drop ..
 have hm8 : maxLen = 9223372036854775807 := rfl
 (refine @goW _ ?_; refine goS ?_)
 refine ⟨by omega, by omega, fun b7 b8 => ?_⟩
 refine awp_growB b8.n 0 1 (by omega) (ds := [.sl 0 true []]) (by (refine @goW _ ?_; exact goT)) rfl fun lo => ?_
 (refine @goW _ ?_; refine goS ?_)
 have hnl : (nx9 at_).length = at_.length := by unfold nx9; simp; omega
 refine shrB b7.n 0 (l := r.n) (s := 1) (xs := (nx9 at_).map dI) (ds := [.acc r.n (at_.length - 1 + 1)]) (by simp (maxDischargeDepth := 12) (maxSteps := 1000000) -implicitDefEqProofs only [go_sem, Nat.reduceAdd, Nat.reduceSub, Nat.reduceMul, Nat.reduceLeDiff, Nat.reduceEqDiff, Nat.reduceGT, Nat.reduceBEq, reduceCtorEq, ↓reduceIte, Int.reduceToNat, Int.reduceLE, Int.reduceLT, Int.reduceNe, Int.reduceEq]) (by rw [List.length_map, hnl]; simp; omega) (by unfold nx9; simp (maxDischargeDepth := 12) (maxSteps := 1000000) -implicitDefEqProofs only [go_sem, Nat.reduceAdd, Nat.reduceSub, Nat.reduceMul, Nat.reduceLeDiff, Nat.reduceEqDiff, Nat.reduceGT, Nat.reduceBEq, reduceCtorEq, ↓reduceIte, Int.reduceToNat, Int.reduceLE, Int.reduceLT, Int.reduceNe, Int.reduceEq, List.map_append]) ?_
 (refine @goW _ ?_; refine goS ?_)
 refine shrK [11, 12] [] mx (by kernel_rfl) ?_
 (refine @goW _ ?_; refine goS ?_)
 have hsv := bY_len v
 unfold bY at hsv
 refine ⟨by omega, useK (chunkP w0 v _) ?_⟩
 rintro _ _ ⟨bv, bn, rfl, rfl⟩
 (refine @goW _ ?_; refine goS ?_)
 have hU : ∀ k, k < at_.length → (nx9 at_).drop k = (at_[k + 1]?).getD 0 :: (nx9 at_).drop (k + 1) := fun k hk => by
  rw [List.drop_eq_getElem_cons (by omega)]
  congr 1
  unfold nx9
  rw [List.getElem_append]
  split
  ·rename_i h; rw [List.getElem?_eq_getElem (by omega), Option.getD_some, List.getElem_drop]
   congr 1; omega
  ·rename_i h; rw [List.getElem?_eq_none (by omega), Option.getD_none]; simp
 have n1 : ¬ bv.n = b8.n := fn_ne bv (x := [.acc lo.n 0]) (by simp [lk])
 have n6 : ¬ b8.n = b7.n := fn_ne b8 (x := [.acc r.n (at_.length - 1 + 1)]) (by simp [lk])
 have n2 : ¬ bv.n = b7.n := fn_ne bv (x := [.sl 1 false ((nx9 at_).map dI)]) (by simp [lk, n6])
 have n3 : ¬ bn.n = bv.n := fn_ne bn (x := [dB8 v]) (by simp [lk])
 have n4 : ¬ bn.n = b8.n := fn_ne bn (x := [.acc lo.n 0]) (by simp [lk, n1])
 have n5 : ¬ bn.n = b7.n := fn_ne bn (x := [.sl 1 false ((nx9 at_).map dI)]) (by simp [lk, n6, n2])
 have hy9 : ∀ i : Nat, 0 ≤ (at_[i]?).getD 0 ∧ (at_[i]?).getD 0 ≤ 999 := fun i => by
  cases q : at_[i]? with
  | none => exact ⟨by decide, by decide⟩
  | some x => have := hr x (List.mem_of_getElem? q); exact ⟨by show 0 ≤ x; omega, this.2⟩
 refine rangeK [11] (fun pre : List Nat => ⟨(bn.n, [dI 119]) :: (bv.n, [dB8 v]) :: (b8.n, [.acc lo.n pre.length]) :: (b7.n, [.sl 1 false (((nx9 at_).drop pre.length).map dI)]) :: T.box, (lo.n, .arr 1 (((chainS v at_).take pre.length).map dB8)) :: (r.n, .tl 1 ((nx9 at_).map dI)) :: T.acc⟩) (fun x : Nat => [pr9 v (x - 1)]) (Vr at_.length) mx (by kernel_rfl) rfl rfl rfl (fun _ => rfl) (fun _ => rfl) (fun _ => rfl) ?_ ?_ ?_
 ·intro ly w1 hy U hU
  exact chunkI w1 ly bv.n bn.n v at_.length _ ⟨by omega, by omega⟩ (by omega) (fun _ => by simp [lk, n1, n2, n3, n4, n5, n6]) (fun _ => by simp [lk, n1, n2, n3, n4, n5, n6]) hy U hU
 ·intro pre x U hp hU2
  obtain ⟨rfl, hlt⟩ := Vr_of hp
  have t7 : lk U.box b7.n = some [.sl 1 false (((nx9 at_).drop pre.length).map dI)] := hU2.box _ _ (by simp [lk, n1, n2, n3, n4, n5, n6])
  have t8 : lk U.box b8.n = some [.acc lo.n pre.length] := hU2.box _ _ (by simp [lk, n1, n2, n3, n4, n5, n6])
  have tl : lk U.acc lo.n = some (.arr 1 (((chainS v at_).take pre.length).map dB8)) := hU2.acc _ _ (by (refine @goW _ ?_; exact goT))
  rw [hU _ hlt] at t7
  simp only [setPs]
  (refine @goW _ ?_; refine goS3 @t7 @t8 @tl ?_)
  have hy0 := hy9 (pre.length + 1)
  have hc0 : chCell v at_ pre.length = numS 2 (IntKind.u64.wrap ((at_[pre.length + 1]?).getD 0)) ++ v.extract (119 * pre.length) (119 * pre.length + partI v.size pre.length) := rfl
  have hcs := chCell_size (v := v) (at_ := at_) (i := pre.length) (by omega)
  have hpl : partI v.size pre.length ≤ 119 := by unfold partI; omega
  have hpk := fun S => packP w0 hg 3 [chCell v at_ pre.length] S (by decide) (by decide) (by decide) (by simp only [sizS, List.map_cons, List.map_nil, List.sum_cons, List.sum_nil]; omega)
  have htk : (chainS v at_).take (pre.length + 1) = (chainS v at_).take pre.length ++ [packS 3 [chCell v at_ pre.length]] := by
   rw [List.take_add_one]; unfold chainS; rw [List.getElem?_map, List.getElem?_range hlt]; rfl
  have hes : (v.extract (119 * pre.length) (119 * pre.length + partI v.size pre.length)).size ≤ 119 := by rw [ByteArray.size_extract]; omega
  have hew : IntKind.u64.wrap ((at_[pre.length + 1]?).getD 0) = (at_[pre.length + 1]?).getD 0 := wu64 (by omega) (by omega)
  generalize packS 3 [chCell v at_ pre.length] = PK at *
  rw [hew] at hc0 ⊢
  refine ⟨by omega, use1 (numP w0 _ 2 _ (by decide) (by decide) hy0.1 (by omega)) ?_⟩
  (refine @goW _ ?_; refine goS ?_)
  refine use1 (concatP w0 (numS 2 ((at_[pre.length + 1]?).getD 0)) (v.extract (119 * pre.length) (119 * pre.length + partI v.size pre.length)) _ (by rw [numS_size]; omega)) ?_ (.cons ((Wk.full _ _ _).trans (Wk.sl (.cons (.refl _) (.cons (Wk.full _ _ _) .nil)))) .nil)
  rw [← hc0]
  (refine @goW _ ?_; refine goS ?_)
  refine use1 (hpk _) ?_ (.cons (.refl _) (.cons (Wk.full _ _ _) .nil))
  (refine @goW _ ?_; refine goS ?_)
  rw [List.map_cons] at t7
  generalize dI ((at_[pre.length + 1]?).getD 0) = y at t7
  refine ordS ⟨[(b7.n, [.sl 1 false (y :: ((nx9 at_).drop (pre.length + 1)).map dI)])], []⟩ [0, 3, 6] [7] [1, 2, 4, 5, 0, 3, 6, 7] mx (by kernel_rfl) ?_
  have em : min pre.length (chainS v at_).length = pre.length := by omega
  have et : ((nx9 at_).drop (pre.length + 1)).take ((nx9 at_).length - (pre.length + 1)) = (nx9 at_).drop (pre.length + 1) := List.take_of_length_le (by rw [List.length_drop]; omega)
  have hT : ∀ (u w : List DV) d, d ≠ b8.n → d ≠ b7.n → lk (up (up U.box b8.n u) b7.n w) d = lk U.box d := fun u w d q1 q2 => by rw [lk_up_ne (fun e => q2 e.symm), lk_up_ne (fun e => q1 e.symm)]
  have hA : ∀ (u : Ob) d, d ≠ lo.n → lk (up U.acc lo.n u) d = lk U.acc d := fun u d q => lk_up_ne (fun e => q e.symm) ..
  have n6' : ¬ b7.n = b8.n := fun e => n6 e.symm
  have hfin : Has ⟨(bn.n, [dI 119]) :: (bv.n, [dB8 v]) :: (b8.n, [.acc lo.n (pre.length + 1)]) :: (b7.n, [.sl 1 false (((nx9 at_).drop (pre.length + 1)).map dI)]) :: T.box, (lo.n, .arr 1 (((chainS v at_).take (pre.length + 1)).map dB8)) :: (r.n, .tl 1 ((nx9 at_).map dI)) :: T.acc⟩ ⟨up (up U.box b8.n [.acc lo.n (pre.length + 1)]) b7.n [.sl 1 false (((nx9 at_).drop (pre.length + 1)).map dI)], up U.acc lo.n (.arr 1 (((chainS v at_).take pre.length).map dB8 ++ [dB8 PK]))⟩ := by
   refine has3 (b := b8.n) (c := b7.n) (l := lo.n) (fun d x hx q1 q2 => ?_) (fun d x hx q1 => ?_) hU2 (fun x hx => ?_) (fun x hx => ?_) (fun x hx => ?_) (hT _ _) (hA _)
   ·simpa [lk, q1.symm, q2.symm] using hx
   ·simpa [lk, q1.symm] using hx
   ·show lk (up (up U.box b8.n _) b7.n _) b8.n = _
    rw [lk_up_ne n6', lk_up_same, t8]
    simpa [lk, n1, n4] using hx
   ·show lk (up (up U.box b8.n _) b7.n _) b7.n = _
    rw [lk_up_same, lk_up_ne n6, t7]
    simpa [lk, n2, n5, n6] using hx
   ·show lk (up U.acc lo.n _) lo.n = _
    rw [lk_up_same, tl]
    rw [htk, List.map_append] at hx
    simpa [lk] using hx
  have hkp := kp3 (X := ⟨(bn.n, [dI 119]) :: (bv.n, [dB8 v]) :: (b8.n, [.acc lo.n pre.length]) :: (b7.n, [.sl 1 false (((nx9 at_).drop pre.length).map dI)]) :: T.box, (lo.n, .arr 1 (((chainS v at_).take pre.length).map dB8)) :: (r.n, .tl 1 ((nx9 at_).map dI)) :: T.acc⟩) (T := U) (T' := ⟨up (up U.box b8.n [.acc lo.n (pre.length + 1)]) b7.n [.sl 1 false (((nx9 at_).drop (pre.length + 1)).map dI)], up U.acc lo.n (.arr 1 (((chainS v at_).take pre.length).map dB8 ++ [dB8 PK]))⟩) (b := b8.n) (c := b7.n) (l := lo.n) (by simp [lk, n1, n4]) (by simp [lk, n2, n5, n6]) (by simp [lk]) (hT _ _) (hA _)
  (refine @goW _ ?_; refine goS3 @t8 @tl @t7 ?_)
  rw [em, et]
  exact ⟨has1 t7, by omega, has1 t7, rfl, by omega, by omega, has1 t7, has1 (by show lk (up U.box b8.n _) b7.n = _; rw [lk_up_ne n6]; exact t7), hfin, hkp⟩
 ·rw [Vr_len, List.take_of_length_le (by omega)]
  have hbs : ∀ (c : Nat) x, lk T.box c = some x → b7.n ≠ c ∧ b8.n ≠ c ∧ bv.n ≠ c ∧ bn.n ≠ c := fun c x hx => by
   have m7 := fn_ne b7 hx
   have m8 := fn_ne b8 (lk_fn b7 [.acc r.n (at_.length - 1 + 1)] hx)
   have mv := fn_ne bv (c := c) (x := x) (by simp [lk, m7, m8, hx])
   exact ⟨m7, m8, mv, fn_ne bn (c := c) (x := x) (by simp [lk, m7, m8, mv, hx])⟩
  have u1 : lk ((bn.n, [dI 119]) :: (bv.n, [dB8 v]) :: (b8.n, [.acc lo.n at_.length]) :: (b7.n, [.sl 1 false (((nx9 at_).drop at_.length).map dI)]) :: T.box) b8.n = some [.acc lo.n at_.length] := by simp [lk, n1, n4]
  have u2 : ∀ c x, lk T.box c = some x → lk ((bn.n, [dI 119]) :: (bv.n, [dB8 v]) :: (b8.n, [.acc lo.n at_.length]) :: (b7.n, [.sl 1 false (((nx9 at_).drop at_.length).map dI)]) :: T.box) c = some x := fun c x hx => by
   obtain ⟨q1, q2, q3, q4⟩ := hbs c x hx
   simp [lk, q1, q2, q3, q4, hx]
  generalize ((bn.n, [dI 119]) :: (bv.n, [dB8 v]) :: (b8.n, [.acc lo.n at_.length]) :: (b7.n, [.sl 1 false (((nx9 at_).drop at_.length).map dI)]) :: T.box) = B at *
  have v1 := u2 _ _ tb1
  have v2 := u2 _ _ tb2
  have n12 : ¬ b2.n = b1.n := fn_ne b2 (x := [.sl 0 true []]) (by simp [lk])
  refine shrB b8.n 0 (l := lo.n) (s := 1) (xs := (chainS v at_).map dB8) (ds := [.acc lo.n at_.length]) u1 (by rw [List.length_map, hcl]; rfl) (by simp [lk]) ?_
  have e0 : [DV.acc lo.n at_.length].set 0 (.sl 1 false ((chainS v at_).map dB8)) = [.sl 1 false ((chainS v at_).map dB8)] := rfl
  rw [e0]
  have hA2 : ∀ c x, lk T.acc c = some x → lk (up ((lo.n, .arr 1 ((chainS v at_).map dB8)) :: (r.n, .tl 1 ((nx9 at_).map dI)) :: T.acc) lo.n (.tl 1 ((chainS v at_).map dB8))) c = some x := fun c x hx => by
   have q1 := fn_ne r hx
   have q2 := fn_ne lo (c := c) (x := x) (by simp [lk, q1, hx])
   rw [lk_up_ne q2]
   simp [lk, q1, q2, hx]
  have m1 := (hbs _ _ tb1).2.1
  have m2 := (hbs _ _ tb2).2.1
  have w1 : lk (up B b8.n [.sl 1 false ((chainS v at_).map dB8)]) b1.n = some [.sl 0 true []] := by rw [lk_up_ne m1]; exact v1
  have w2 : lk (up B b8.n [.sl 1 false ((chainS v at_).map dB8)]) b2.n = some [dI 0] := by rw [lk_up_ne m2]; exact v2
  have w8 : lk (up B b8.n [.sl 1 false ((chainS v at_).map dB8)]) b8.n = some [.sl 1 false ((chainS v at_).map dB8)] := by rw [lk_up_same, u1]; rfl
  have u3 : ∀ c x, lk S.box c = some x → lk (up B b8.n [.sl 1 false ((chainS v at_).map dB8)]) c = some x := fun c x hx => by
   have q := hST.box c x hx
   rw [lk_up_ne (hbs c x q).2.1]
   exact u2 c x q
  refine shrK [] [] mx (by kernel_rfl) ?_
  simp only []
  generalize up B b8.n [.sl 1 false ((chainS v at_).map dB8)] = B2 at *
  generalize up ((lo.n, .arr 1 ((chainS v at_).map dB8)) :: (r.n, .tl 1 ((nx9 at_).map dI)) :: T.acc) lo.n (.tl 1 ((chainS v at_).map dB8)) = A2 at *
  have hH : ∀ u w, Has S ⟨up (up B2 b1.n u) b2.n w, A2⟩ := fun u w => ⟨fun c x hx => by
   show lk (up (up B2 b1.n u) b2.n w) c = _
   rw [lk_up_ne (fn_ne b2 (lk_fn b1 _ hx)), lk_up_ne (fn_ne b1 hx)]
   exact u3 c x hx, fun c x hx => hA2 c x (hST.acc c x hx)⟩
  (refine @goW _ ?_; refine goS4 @w8 @w1 @w2 @n12 ?_)
  exact hH _ _
theorem put9P (w0 : W0) (hg : GlobC w0) (v : ByteArray) (at_ : List Int) (S : St) (hv : v.size ≤ 400) (hn : need (v.size : Int) = at_.length) (h0 : at_ ≠ []) (hr : ∀ x, x ∈ at_ → 2 ≤ x ∧ x ≤ 999) (hd : at_.Nodup) :
  ACall Tryz.prog w0 79 [dS v, dL at_] S (fun d S' => d = .tup [.sl 1 false ((chainS v at_).map dB8), dI 0] ∧ S' = S) :=
 acall_has (K := fun d => d = .tup [.sl 1 false ((chainS v at_).map dB8), dI 0]) (put9H w0 hg v at_ S hv hn h0 hr hd)
@[go_sem] def dWr (w : Int × ByteArray) : DV := .agg [dI w.1, dS w.2]
def layS (S : St) (bs lw : Nat) (left : List Int) (ws : List (Int × ByteArray)) : St := ⟨up S.box bs [.acc lw ws.length, .sl 1 false (left.map dI)], up S.acc lw (.arr 2 (ws.map dWr))⟩
structure LayI (S : St) (bs lw : Nat) (left : List Int) (ws : List (Int × ByteArray)) : Prop where
 box : lk S.box bs = some [.acc lw ws.length, .sl 1 false (left.map dI)]
 acc : lk S.acc lw = some (.arr 2 (ws.map dWr))
theorem lay_self {α : Type} {b : Nat} {x : α} : ∀ {l : List (Nat × α)}, lk l b = some x → up l b x = l
 | [], h => rfl
 | (k, y) :: l, h => by
  unfold lk at h
  unfold up
  split
  ·rename_i e; rw [if_pos e] at h; cases h; rw [e]
  ·rename_i e; rw [if_neg e] at h; rw [lay_self h]
theorem someR (w0 : W0) (bs lw : Nat) (left : List Int) (ws : List (Int × ByteArray)) (n : Nat) (S : St) (h : LayI S bs lw left ws) (hn : n ≤ left.length) (hl : left.length ≤ 1048576) :
  ACall Tryz.prog w0 53 [.v (.pointer (some ⟨bs, 0, none⟩)), dI n] S (fun d S' => d = dL (left.take n) ∧ S' = layS S bs lw (left.drop n) ws) := by
 have hb := h.box
 have ha := h.acc
 refine fnO [] mx Tryz.func53 rfl rfl (by kernel_rfl) ?_; (refine @goW _ ?_; refine goS3 @Tryz.ntmps53 @hb @ha ?_)
 refine ⟨hn, hn, ?_⟩
 unfold layS
 rw [lay_self ha]
theorem writeR (w0 : W0) (bs lw : Nat) (left : List Int) (ws : List (Int × ByteArray)) (p : Int) (b : ByteArray) (S : St) (h : LayI S bs lw left ws) (hl : ws.length ≤ 1048576) :
  ACall Tryz.prog w0 55 [.v (.pointer (some ⟨bs, 0, none⟩)), dI p, dS b] S (fun d S' => S' = layS S bs lw left (ws ++ [(p, b)])) := by
 have hb := h.box
 have ha := h.acc
 refine fnO [] mx Tryz.func55 rfl rfl (by kernel_rfl) ?_; (refine @goW _ ?_; refine goS3 @Tryz.ntmps55 @hb @ha ?_)
 refine ⟨by omega, by unfold maxLen; omega, ?_⟩
 unfold layS
 rw [List.length_append, List.map_append]; rfl
abbrev LS := List Int × List (Int × ByteArray)
def layV (d : ByteArray) (ps : List Int) (q : LS) : List Int × LS :=
 if need (d.size : Int) = 0 ∨ ps ≠ [] then (ps, q) else (q.1.take (need (d.size : Int)), (q.1.drop (need (d.size : Int)), q.2 ++ (q.1.take (need (d.size : Int))).zip (chainS d (q.1.take (need (d.size : Int))))))
theorem lay_id {S : St} {bs lw : Nat} {left : List Int} {ws : List (Int × ByteArray)} (h : LayI S bs lw left ws) : layS S bs lw left ws = S := by
 unfold layS
 rw [lay_self h.box, lay_self h.acc]
def entE (b : Bool) (c : C) : E8 := if b then (if c.pages = [] then ⟨c.key, c.data, false, 0, 0⟩ else ⟨c.key, noS, true, c.data.size, c.pages.headD 0⟩) else ⟨c.key, noS, false, 0, (kid0 c).page⟩
theorem cell19R (w0 : W0) (b : Bool) (c : C) (S : St) (h : b = false → ∃ k, c.kid = [k]) : ACall Tryz.prog w0 52 [dB b, dC c] S (fun d S' => d = dE8 (entE b c) ∧ S' = S) := by
 cases b with
 | false =>
  obtain ⟨k, hk⟩ := h rfl
  have e : entE false c = ⟨c.key, noS, false, 0, k.page⟩ := by unfold entE; rw [kid0_eq hk]; rfl
  rw [e, dC_eq]
  refine fnS [] mx Tryz.func52 rfl rfl (by kernel_rfl) ?_; (refine @goW _ ?_; refine goS2 @Tryz.ntmps52 @hk ?_)
  intro b1 b2 b3
  exact .refl _
 | true =>
  rw [dC_eq]
  refine fnS [] mx Tryz.func52 rfl rfl (by kernel_rfl) ?_; (refine @goW _ ?_; refine goS1 @Tryz.ntmps52 ?_)
  intro b1 b2 b3
  refine ⟨fun hp => ?_, fun hp => ?_⟩
  ·refine ⟨by omega, fun a ha => ?_⟩
   have e : entE true c = ⟨c.key, noS, true, c.data.size, a⟩ := by
    unfold entE
    cases hps : c.pages with
    | nil => rw [hps] at ha; cases ha
    | cons x r => rw [hps] at ha; cases ha; rfl
   rw [e]
   exact .refl _
  ·have e : entE true c = ⟨c.key, c.data, false, 0, 0⟩ := by
    unfold entE; rw [if_pos rfl, if_pos (List.eq_nil_of_length_eq_zero (by omega))]
   rw [e]
   exact .refl _
theorem value19R (w0 : W0) (bs lw : Nat) (d : ByteArray) (ps : List Int) (q : LS) (S : St) (h : LayI S bs lw q.1 q.2) (hd : d.size ≤ 400) (hp : ps.length ≤ 1048576) (hq : q.1.length ≤ 65536) (hw : q.2.length ≤ 65536) (hn : need (d.size : Int) ≤ q.1.length ∨ ps ≠ []) (hr : ∀ x, x ∈ q.1 → 2 ≤ x ∧ x ≤ 999) (hu : q.1.Nodup) :
  ACall Tryz.prog w0 51 [.v (.pointer (some ⟨bs, 0, none⟩)), .agg [dS d, dL ps]] S (fun e S' => e = .agg [dS d, dL (layV d ps q).1] ∧ S' = layS S bs lw (layV d ps q).2.1 (layV d ps q).2.2) := by
 obtain ⟨left, ws⟩ := q
 simp only at h hq hw hn hr hu
 have hb := h.box
 have ha := h.acc
 have q1 : need (d.size : Int) = 0 → layV d ps (left, ws) = (ps, (left, ws)) := fun e => by unfold layV; rw [if_pos (.inl e)]
 have q2 : ps ≠ [] → layV d ps (left, ws) = (ps, (left, ws)) := fun e => by unfold layV; rw [if_pos (.inr e)]
 have q3 : need (d.size : Int) ≠ 0 → ps = [] → layV d ps (left, ws) = (left.take (need (d.size : Int)), (left.drop (need (d.size : Int)), ws ++ (left.take (need (d.size : Int))).zip (chainS d (left.take (need (d.size : Int)))))) := fun e f => by unfold layV; rw [if_neg (by simp [e, f])]
 generalize layV d ps (left, ws) = R at *
 refine fnP [5,9] mx Tryz.func51 rfl rfl (by kernel_rfl) ?_; (refine @goW _ ?_; refine goS1 @Tryz.ntmps51 ?_)
 intro b b1
 refine use1 (needR w0 _ _) ?_
 have fin : ∀ B : List (Nat × List DV), Aml.Sub (layS S bs lw left ws) ⟨S.box, S.acc⟩ := fun _ => by rw [lay_id h]; exact .refl _
 (refine @goW _ ?_; refine goS ?_)
 refine ⟨fun hz => ?_, fun hz => ⟨fun hp0 => ?_, fun hp0 => ?_⟩⟩
 ·rw [q1 (by omega)]
  refine ⟨_, _, .refl _, ?_, rfl, rfl⟩
  rw [lay_id h]
  exact ⟨(List.sublist_cons_self _ _).trans (List.sublist_cons_self _ _), List.Sublist.refl _⟩
 ·rw [q2 fun e => by rw [e] at hp0; simp at hp0]
  refine ⟨_, _, .refl _, ?_, rfl, rfl⟩
  rw [lay_id h]
  exact ⟨(List.sublist_cons_self _ _).trans (List.sublist_cons_self _ _), List.Sublist.refl _⟩
 ·have hps : ps = [] := List.eq_nil_of_length_eq_zero (by omega)
  have hne : need (d.size : Int) ≤ left.length := hn.resolve_right fun e => e hps
  rw [q3 (by omega) hps]
  have hI : LayI (⟨(b1.n, [dS ByteArray.empty, .sl 0 true []]) :: (b.n, [dS d, .sl 1 false (ps.map dI)]) :: S.box, S.acc⟩ : St) bs lw left ws := ⟨by (refine @goW _ ?_; exact goT1 @hb), ha⟩
  refine useK (someR w0 bs lw left ws (need (d.size : Int)) _ hI hne (by omega)) ?_
  rintro e S' ⟨rfl, rfl⟩
  have hTl : (left.take (need (d.size : Int))).length = need (d.size : Int) := by rw [List.length_take]; omega
  have hT0 : left.take (need (d.size : Int)) ≠ [] := fun e => by rw [e] at hTl; simp at hTl; omega
  have hTr : ∀ x, x ∈ left.take (need (d.size : Int)) → 2 ≤ x ∧ x ≤ 999 := fun x hx => hr x (List.mem_of_mem_take hx)
  have hTu : (left.take (need (d.size : Int))).Nodup := hu.sublist (List.take_sublist _ _)
  have hput := fun S => put9R w0 d (left.take (need (d.size : Int))) S hd hTl.symm hT0 hTr hTu
  have hcl : (chainS d (left.take (need (d.size : Int)))).length = (left.take (need (d.size : Int))).length := by unfold chainS; rw [List.length_map, List.length_range]
  have hnl := need_le (d.size : Int)
  simp (maxDischargeDepth := 12) (maxSteps := 1000000) -implicitDefEqProofs only [go_sem, Nat.reduceAdd, Nat.reduceSub, Nat.reduceMul, Nat.reduceLeDiff, Nat.reduceEqDiff, Nat.reduceGT, Nat.reduceBEq, reduceCtorEq, ↓reduceIte, Int.reduceToNat, Int.reduceLE, Int.reduceLT, Int.reduceNe, Int.reduceEq, layS, hb]
  generalize left.take (need (d.size : Int)) = T at *
  generalize left.drop (need (d.size : Int)) = L at *
  generalize need (d.size : Int) = nd at *
  generalize hC : chainS d T = Ch at *
  refine shrK [9] [] mx (by kernel_rfl) ?_
  (refine @goW _ ?_; refine goS1 @hb ?_)
  refine use1 (hput _) ?_
  (refine @goW _ ?_; refine goS1 @hb ?_)
  refine loopN [9] T.length [0, 3, 4, 6, 7, 9] (fun k => [(9, dI k)]) (fun k => ⟨(b1.n, [dS ByteArray.empty, .sl 0 true []]) :: (b.n, [dS d, .sl 1 false (ps.map dI)]) :: up S.box bs [.acc lw (ws.length + k), .sl 1 false (L.map dI)], up S.acc lw (.arr 2 ((ws ++ (T.zip Ch).take k).map dWr))⟩) (fun _ => True) mx (by kernel_rfl) ?_ ?_
  ·(refine @goW _ ?_; refine goS ?_)
   exact .refl _
  ·intro k hk' _
   (refine @goW _ ?_; refine goS1 @hb ?_)
   refine ⟨fun hlt => ?_, fun hge => ?_⟩
   ·refine Y.ordK [] [9] [0, 1, 2, 3, 5, 6, 7, 4, 8, 9] mx (by kernel_rfl) ?_
    (refine @goW _ ?_; refine goS1 @hb ?_)
    refine ⟨by omega, fun x hx => ⟨hlt, fun c hc => ?_⟩⟩
    have hzk : (T.zip Ch)[k]? = some (x, c) := List.getElem?_zip_eq_some.2 ⟨hx, hc⟩
    have hzl : ((T.zip Ch).take k).length = k := by rw [List.length_take, List.length_zip]; omega
    have hz1 : (T.zip Ch).take (k + 1) = (T.zip Ch).take k ++ [(x, c)] := by rw [List.take_add_one, hzk]; rfl
    have hwl : (ws ++ (T.zip Ch).take k).length = ws.length + k := by rw [List.length_append, hzl]
    have hI2 : LayI (⟨(b1.n, [dS ByteArray.empty, .sl 0 true []]) :: (b.n, [dS d, .sl 1 false (ps.map dI)]) :: up S.box bs [.acc lw (ws.length + k), .sl 1 false (L.map dI)], up S.acc lw (.arr 2 ((ws ++ (T.zip Ch).take k).map dWr))⟩ : St) bs lw L (ws ++ (T.zip Ch).take k) := ⟨by
      have e : lk (up S.box bs [.acc lw (ws.length + k), .sl 1 false (L.map dI)]) bs = some [.acc lw (ws ++ (T.zip Ch).take k).length, .sl 1 false (L.map dI)] := by rw [lk_up_same, hb, hwl]; rfl
      (refine @goW _ ?_; exact goT2 @hb @e), by show lk (up S.acc lw _) lw = _; rw [lk_up_same, ha]; rfl⟩
    have hwr := writeR w0 bs lw L (ws ++ (T.zip Ch).take k) x c _ hI2 (by omega)
    have hwl2 : (ws ++ (T.zip Ch).take k ++ [(x, c)]).length = ws.length + (k + 1) := by rw [List.length_append, hwl]; rfl
    unfold layS at hwr
    rw [hwl2] at hwr
    rw [List.append_assoc, ← hz1] at hwr
    refine useK hwr ?_
    rintro e S' rfl
    (refine @goW _ ?_; refine goS1 @hb ?_)
    exact ⟨by omega, by rw [w64 (by omega) (by omega)]; rfl⟩
   ·have hkl : k = T.length := by omega
    have hzt : (T.zip Ch).take k = T.zip Ch := List.take_of_length_le (by rw [List.length_zip]; omega)
    rw [hzt]
    refine ⟨_, _, .refl _, ?_, rfl, rfl⟩
    have hwl : (ws ++ T.zip Ch).length = ws.length + k := by rw [List.length_append, List.length_zip]; omega
    unfold layS
    rw [hwl]
    exact ⟨(List.sublist_cons_self _ _).trans (List.sublist_cons_self _ _), List.Sublist.refl _⟩
@[go_sem] def dWb (w : Int × ByteArray) : DV := .agg [dI w.1, dB8 w.2]
def layB (S : St) (bs lw : Nat) (left : List Int) (ws : List (Int × ByteArray)) : St := ⟨up S.box bs [.acc lw ws.length, .sl 1 false (left.map dI)], up S.acc lw (.arr 2 (ws.map dWb))⟩
structure LayP (S : St) (bs lw : Nat) (left : List Int) (ws : List (Int × ByteArray)) : Prop where
 box : lk S.box bs = some [.acc lw ws.length, .sl 1 false (left.map dI)]
 acc : lk S.acc lw = some (.arr 2 (ws.map dWb))
theorem layB_id {S : St} {bs lw : Nat} {left : List Int} {ws : List (Int × ByteArray)} (h : LayP S bs lw left ws) : layB S bs lw left ws = S := by
 unfold layB
 rw [lay_self h.box, lay_self h.acc]
theorem someP (w0 : W0) (bs lw : Nat) (left : List Int) (ws : List (Int × ByteArray)) (n : Nat) (S : St) (h : LayP S bs lw left ws) (hn : n ≤ left.length) (hl : left.length ≤ 1048576) :
  ACall Tryz.prog w0 47 [.v (.pointer (some ⟨bs, 0, none⟩)), dI n] S (fun d S' => d = dL (left.take n) ∧ S' = layB S bs lw (left.drop n) ws) := by
 have hb := h.box
 have ha := h.acc
 refine fnP [] mx Tryz.func47 rfl rfl (by kernel_rfl) ?_; (refine @goW _ ?_; refine goS3 @Tryz.ntmps47 @hb @ha ?_)
 refine ⟨hn, hn, ⟨_, _, Wk.full _ _ _, .refl _, rfl, ?_⟩⟩
 unfold layB
 rw [lay_self ha]
theorem valueP (w0 : W0) (hg : GlobC w0) (bs lw : Nat) (d : ByteArray) (ps : List Int) (q : LS) (S : St) (h : LayP S bs lw q.1 q.2) (hd : d.size ≤ 400) (hp : ps.length ≤ 1048576) (hq : q.1.length ≤ 65536) (hw : q.2.length ≤ 65536) (hn : need (d.size : Int) ≤ q.1.length ∨ ps ≠ []) (hr : ∀ x, x ∈ q.1 → 2 ≤ x ∧ x ≤ 999) (hu : q.1.Nodup) :
  ACall Tryz.prog w0 46 [.v (.pointer (some ⟨bs, 0, none⟩)), .agg [dS d, dL ps]] S (fun e S' => e = .agg [dS d, dL (layV d ps q).1] ∧ S' = layB S bs lw (layV d ps q).2.1 (layV d ps q).2.2) := by
 obtain ⟨left, ws⟩ := q
 simp only at h hq hw hn hr hu
 have hb := h.box
 have ha := h.acc
 have q1 : need (d.size : Int) = 0 → layV d ps (left, ws) = (ps, (left, ws)) := fun e => by unfold layV; rw [if_pos (.inl e)]
 have q2 : ps ≠ [] → layV d ps (left, ws) = (ps, (left, ws)) := fun e => by unfold layV; rw [if_pos (.inr e)]
 have q3 : need (d.size : Int) ≠ 0 → ps = [] → layV d ps (left, ws) = (left.take (need (d.size : Int)), (left.drop (need (d.size : Int)), ws ++ (left.take (need (d.size : Int))).zip (chainS d (left.take (need (d.size : Int)))))) := fun e f => by unfold layV; rw [if_neg (by simp [e, f])]
 generalize layV d ps (left, ws) = R at *
 refine fnP [5, 9] mx Tryz.func46 rfl rfl (by kernel_rfl) ?_; (refine @goW _ ?_; refine goS1 @Tryz.ntmps46 ?_)
 intro b b1
 refine use1 (needP w0 _ _) ?_
 (refine @goW _ ?_; refine goS ?_)
 refine ⟨fun hz => ?_, fun hz => ⟨fun hp0 => ?_, fun hp0 => ?_⟩⟩
 ·rw [q1 (by omega)]
  refine ⟨_, _, .refl _, ?_, rfl, rfl⟩
  rw [layB_id h]
  exact ⟨(List.sublist_cons_self _ _).trans (List.sublist_cons_self _ _), List.Sublist.refl _⟩
 ·rw [q2 fun e => by rw [e] at hp0; simp at hp0]
  refine ⟨_, _, .refl _, ?_, rfl, rfl⟩
  rw [layB_id h]
  exact ⟨(List.sublist_cons_self _ _).trans (List.sublist_cons_self _ _), List.Sublist.refl _⟩
 ·have hps : ps = [] := List.eq_nil_of_length_eq_zero (by omega)
  have hne : need (d.size : Int) ≤ left.length := hn.resolve_right fun e => e hps
  rw [q3 (by omega) hps]
  have hI : LayP (⟨(b1.n, [dS ByteArray.empty, .sl 0 true []]) :: (b.n, [dS d, .sl 1 false (ps.map dI)]) :: S.box, S.acc⟩ : St) bs lw left ws := ⟨by (refine @goW _ ?_; exact goT1 @hb), ha⟩
  refine useK (someP w0 bs lw left ws (need (d.size : Int)) _ hI hne (by omega)) ?_
  rintro e S' ⟨rfl, rfl⟩
  have hTl : (left.take (need (d.size : Int))).length = need (d.size : Int) := by rw [List.length_take]; omega
  have hT0 : left.take (need (d.size : Int)) ≠ [] := fun e => by rw [e] at hTl; simp at hTl; omega
  have hTr : ∀ x, x ∈ left.take (need (d.size : Int)) → 2 ≤ x ∧ x ≤ 999 := fun x hx => hr x (List.mem_of_mem_take hx)
  have hTu : (left.take (need (d.size : Int))).Nodup := hu.sublist (List.take_sublist _ _)
  have hput := fun S => put9P w0 hg d (left.take (need (d.size : Int))) S hd hTl.symm hT0 hTr hTu
  have hcl : (chainS d (left.take (need (d.size : Int)))).length = (left.take (need (d.size : Int))).length := by unfold chainS; rw [List.length_map, List.length_range]
  have hnl := need_le (d.size : Int)
  simp (maxDischargeDepth := 12) (maxSteps := 1000000) -implicitDefEqProofs only [go_sem, Nat.reduceAdd, Nat.reduceSub, Nat.reduceMul, Nat.reduceLeDiff, Nat.reduceEqDiff, Nat.reduceGT, Nat.reduceBEq, reduceCtorEq, ↓reduceIte, Int.reduceToNat, Int.reduceLE, Int.reduceLT, Int.reduceNe, Int.reduceEq, layB, hb]
  generalize left.take (need (d.size : Int)) = T at *
  generalize left.drop (need (d.size : Int)) = L at *
  generalize need (d.size : Int) = nd at *
  generalize hC : chainS d T = Ch at *
  refine shrK [9] [] mx (by kernel_rfl) ?_
  (refine @goW _ ?_; refine goS1 @hb ?_)
  refine use1 (hput _) ?_
  (refine @goW _ ?_; refine goS1 @hb ?_)
  refine loopN [9] T.length [0, 3, 4, 35, 36, 37] (fun k => [(37, dI k)]) (fun k => ⟨(b1.n, [dS ByteArray.empty, .sl 0 true []]) :: (b.n, [dS d, .sl 1 false (T.map dI)]) :: up S.box bs [.acc lw (ws.length + k), .sl 1 false (L.map dI)], up S.acc lw (.arr 2 ((ws ++ (T.zip Ch).take k).map dWb))⟩) (fun _ => True) mx (by kernel_rfl) ?_ ?_
  ·(refine @goW _ ?_; refine goS ?_)
   exact .refl _
  ·intro k hk' _
   (refine @goW _ ?_; refine goS1 @hb ?_)
   refine ⟨fun hlt => ?_, fun hge => ?_⟩
   ·refine ⟨by omega, fun c hc => ?_⟩
    refine Y.ordK [] [13, 16] [0, 1, 2, 3, 5, 7, 10, 4, 6, 8, 9, 11, 12, 13, 14, 15, 16] mx (by kernel_rfl) ?_
    have hm8 : maxLen = 9223372036854775807 := rfl
    have hzl : ((T.zip Ch).take k).length = k := by rw [List.length_take, List.length_zip]; omega
    have hwl : (ws ++ (T.zip Ch).take k).length = ws.length + k := by rw [List.length_append, hzl]
    have e : lk (up S.box bs [.acc lw (ws.length + k), .sl 1 false (L.map dI)]) bs = some [.acc lw (ws.length + k), .sl 1 false (L.map dI)] := by rw [lk_up_same, hb]; rfl
    have e2 : lk (up S.acc lw (.arr 2 ((ws ++ (T.zip Ch).take k).map dWb))) lw = some (.arr 2 ((ws ++ (T.zip Ch).take k).map dWb)) := by rw [lk_up_same, ha]; rfl
    have em : min k (T.zip Ch).length = k := by rw [List.length_zip]; omega
    (refine @goW _ ?_; refine goS3 @hb @e @e2 ?_)
    rw [em]
    refine ⟨by omega, fun x hx => ⟨rfl, by omega, by omega, by omega, by rw [w64 (by omega) (by omega)]; rfl, ?_⟩⟩
    have hzk : (T.zip Ch)[k]? = some (x, c) := List.getElem?_zip_eq_some.2 ⟨hx, hc⟩
    have hz1 : (T.zip Ch).take (k + 1) = (T.zip Ch).take k ++ [(x, c)] := by rw [List.take_add_one, hzk]; rfl
    rw [hz1, ← List.append_assoc, List.map_append]
    exact .refl _
   ·have hkl : k = T.length := by omega
    have hzt : (T.zip Ch).take k = T.zip Ch := List.take_of_length_le (by rw [List.length_zip]; omega)
    rw [hzt]
    refine ⟨_, _, .refl _, ?_, rfl, rfl⟩
    have hwl : (ws ++ T.zip Ch).length = ws.length + k := by rw [List.length_append, List.length_zip]; omega
    unfold layB
    rw [hwl]
    exact ⟨(List.sublist_cons_self _ _).trans (List.sublist_cons_self _ _), List.Sublist.refl _⟩
theorem eqS_refl (a : ByteArray) : eqS a a = true := by simp [eqS]
theorem nanCS (w0 : W0) (a : ByteArray) (S : St) : ACall Tryz.prog w0 140 [dS a] S (fun d S' => d = dB false ∧ S' = S) := by
 refine fnS [] mx Tryz.func140 rfl rfl (by kernel_rfl) ?_; (refine @goW _ ?_; exact goT2 @Tryz.ntmps140 @eqS_refl)
theorem nanSS (w0 : W0) (a : ByteArray) (S : St) : ACall Tryz.prog w0 97 [dS a] S (fun d S' => d = dB false ∧ S' = S) := by
 refine fnS [] mx Tryz.func97 rfl rfl (by kernel_rfl) ?_; (refine @goW _ ?_; exact goT2 @Tryz.ntmps97 @eqS_refl)
theorem lessCS (w0 : W0) (a b : ByteArray) (S : St) : ACall Tryz.prog w0 96 [dS a, dS b] S (fun d S' => d = dB (ltS a b) ∧ S' = S) := by
 refine fnS [] mx Tryz.func96 rfl rfl (by kernel_rfl) ?_; (refine @goW _ ?_; refine goS1 @Tryz.ntmps96 ?_)
 refine use1 (nanCS w0 a S) ?_
 (refine @goW _ ?_; exact goT)
theorem wayP (w0 : W0) (n : N) (key : ByteArray) (S : St) (ht : n.l.length ≤ 1048576) (hn : n.l ≠ []) : ACall Tryz.prog w0 59 [eT n, dS key] S (fun d S' => d = dI (way n.l key) ∧ S' = S) := by
 refine fnS [] mx Tryz.func59 rfl rfl (by kernel_rfl) ?_; (refine @goW _ ?_; refine goS1 @Tryz.ntmps59 ?_)
 have h0 := List.length_pos_iff.2 hn
 intro b
 refine loopN [] (n.l.length - 1) [1, 2, 5] (fun k => [(5, dI ((n.l.length - 1 - k : Nat) : Int))]) (fun _ => ⟨(b.n, cT n) :: S.box, S.acc⟩) (fun k => way n.l key = wayF n.l key (n.l.length - 1 - k)) mx (by kernel_rfl) ?_ ?_
 ·simp (maxDischargeDepth := 12) (maxSteps := 1000000) -implicitDefEqProofs only [go_sem, Nat.reduceAdd, Nat.reduceSub, Nat.reduceMul, Nat.reduceLeDiff, Nat.reduceEqDiff, Nat.reduceGT, Nat.reduceBEq, reduceCtorEq, ↓reduceIte, Int.reduceToNat, Int.reduceLE, Int.reduceLT, Int.reduceNe, Int.reduceEq, cT]
  exact ⟨rfl, by rw [w64 (by omega) (by omega)]; omega⟩
 ·intro k hk hw
  simp (maxDischargeDepth := 12) (maxSteps := 1000000) -implicitDefEqProofs only [go_sem, Nat.reduceAdd, Nat.reduceSub, Nat.reduceMul, Nat.reduceLeDiff, Nat.reduceEqDiff, Nat.reduceGT, Nat.reduceBEq, reduceCtorEq, ↓reduceIte, Int.reduceToNat, Int.reduceLE, Int.reduceLT, Int.reduceNe, Int.reduceEq, cT]
  refine ⟨fun hg => ?_, fun hg => ?_⟩
  ·obtain ⟨i, hi⟩ : ∃ i, n.l.length - 1 - k = i + 1 := ⟨n.l.length - 1 - k - 1, by omega⟩
   have hi' : n.l.length - 1 - (k + 1) = i := by omega
   rw [hi] at hw ⊢
   rw [hi']
   refine ⟨by omega, fun a ha => ⟨fun hle => ?_, fun hle => ⟨by omega, ?_, ?_⟩⟩⟩
   ·rw [hw]; simp only [wayF, ha, hle]; rfl
   ·rw [hw]; simp only [wayF, ha, hle]; rfl
   ·rw [w64 (by omega) (by omega)]; omega
  ·have : n.l.length - 1 - k = 0 := by omega
   rw [hw, this]; rfl
theorem sizesP (w0 : W0) (n : N) (S : St) (h : smN n) (ht : n.l.length ≤ 1048576) : ACall Tryz.prog w0 57 [eT n] S (fun d S' => d = dL (sizesN n) ∧ S' = S) := by
 refine fnS [] mx Tryz.func57 rfl rfl (by kernel_rfl) ?_; (refine @goW _ ?_; refine goS1 @Tryz.ntmps57 ?_)
 intro b
 refine growK 3 1 rfl (by omega) fun lb => ?_
 refine loopN [] n.l.length [1, 3, 9, 10, 11] (fun k => [(3, .acc lb.n k), (11, dI k)]) (fun k => ⟨(b.n, cT n) :: S.box, (lb.n, .arr 1 (((sizesN n).take k).map dI)) :: S.acc⟩) (fun _ => True) mx (by kernel_rfl) ?_ ?_
 ·simp (maxDischargeDepth := 12) (maxSteps := 1000000) -implicitDefEqProofs only [go_sem, Nat.reduceAdd, Nat.reduceSub, Nat.reduceMul, Nat.reduceLeDiff, Nat.reduceEqDiff, Nat.reduceGT, Nat.reduceBEq, reduceCtorEq, ↓reduceIte, Int.reduceToNat, Int.reduceLE, Int.reduceLT, Int.reduceNe, Int.reduceEq, cT]
 ·intro k hk _
  have hl : (sizesN n).length = n.l.length := by unfold sizesN; rw [List.length_map]
  have hmin : min k (sizesN n).length = k := by omega
  simp (maxDischargeDepth := 12) (maxSteps := 1000000) -implicitDefEqProofs only [go_sem, Nat.reduceAdd, Nat.reduceSub, Nat.reduceMul, Nat.reduceLeDiff, Nat.reduceEqDiff, Nat.reduceGT, Nat.reduceBEq, reduceCtorEq, ↓reduceIte, Int.reduceToNat, Int.reduceLE, Int.reduceLT, Int.reduceNe, Int.reduceEq, hmin, cT]
  have e2 : k < n.l.length → IntKind.i64.wrap ((k : Int) + 1) = ((k + 1 : Nat) : Int) := fun h => i_oneV k (by omega)
  refine ⟨fun hlt => ⟨hlt, fun a ha => ?_⟩, fun hge => by rw [List.take_of_length_le (by omega)]; exact .full _ _ _⟩
  have hb := (smC_iff a).1 ((smN_iff n).1 h a (List.mem_of_getElem? ha))
  have hs : (sizesN n).take (k + 1) = (sizesN n).take k ++ [sizeC n.leaf a] := by
   rw [List.take_add_one]; unfold sizesN; rw [List.getElem?_map, ha]; rfl
  have e1 : IntKind.i64.wrap (4 + (a.key.size : Int)) = 4 + a.key.size := w64 (by omega) (by omega)
  have fin : ∀ (B : List (Nat × List DV)) (z : Int), z = sizeC n.leaf a → Aml.Sub ⟨B, (lb.n, .arr 1 (((sizesN n).take (k + 1)).map dI)) :: S.acc⟩ ⟨B, (lb.n, .arr 1 (((sizesN n).take k).map dI ++ [.v (.int .i64 z)])) :: S.acc⟩ := fun B z e => by
   rw [hs, List.map_append, e]; exact .refl _
  have hm : k + 1 ≤ maxLen := by unfold maxLen; omega
  have h8 : (k + 1) * 8 ≤ 140737488355328 := by omega
  refine ⟨fun hlf => ?_, fun hlf => ⟨h8, hm, hlt, e2 hlt, fin _ _ ?_⟩⟩
  ·rw [if_pos hlf]
   refine ⟨hlt, fun a3 ha3 => ?_⟩
   cases getE ha ha3
   refine use1 (needP w0 _ _) ?_
   (refine @goW _ ?_; refine goS1 @hmin ?_)
   refine ⟨fun hn => ⟨h8, hm, hlt, e2 hlt, fin _ _ ?_⟩, fun hn => ⟨fun h4 => ?_, fun h4 => ⟨h8, hm, hlt, e2 hlt, fin _ _ ?_⟩⟩⟩
   ·unfold sizeC; rw [if_pos hlf, if_pos (.inl (by omega))]; exact w64 (by omega) (by omega)
   ·omega
   ·unfold sizeC; rw [if_pos hlf, if_neg (by omega), w64 (n := 3 + (a.data.size : Int)) (by omega) (by omega), w64 (by omega) (by omega)]; omega
  ·unfold sizeC; rw [if_neg (by rw [hlf]; simp)]; exact e1
def hasN (l : List C) (key : ByteArray) : Bool := match l[idxN l key]? with
 | some c => eqS c.key key
 | none => false
theorem takeW_len {α : Type} {p : α → Bool} : ∀ {l : List α} {i : Nat}, i ≤ l.length → (∀ (x : Nat) c, x < i → l[x]? = some c → p c = true) → (∀ c, l[i]? = some c → p c = false) → (l.takeWhile p).length = i
 | [], i, h, _, _ => by simp at h; subst h; rfl
 | a :: l, 0, _, _, h2 => by
  have := h2 a rfl
  simp [List.takeWhile_cons, this]
 | a :: l, i + 1, h, h1, h2 => by
  have ha := h1 0 a (by omega) rfl
  have ih := takeW_len (p := p) (l := l) (i := i) (by simpa using h) (fun x c hx hc => h1 (x + 1) c (by omega) (by simpa using hc)) (fun c hc => h2 c (by simpa using hc))
  simp [List.takeWhile_cons, ha, ih]
theorem rise_mono {l : List C} (h : Rise l) (key : ByteArray) : ∀ (i j : Nat) (a b : C), i ≤ j → l[i]? = some a → l[j]? = some b → ltS b.key key = true → ltS a.key key = true := fun i j a b hij ha hb hk => by
 rcases Nat.lt_or_ge i j with q | q
 ·obtain ⟨h1, rfl⟩ := List.getElem?_eq_some_iff.1 ha
  obtain ⟨h2, rfl⟩ := List.getElem?_eq_some_iff.1 hb
  exact ltS_trans (List.pairwise_iff_getElem.1 h i j h1 h2 q) hk
 ·have : i = j := by omega
  subst this; cases getE ha hb; exact hk
theorem searchS (w0 : W0) (l : List C) (key : ByteArray) (S : St) (hl : ∀ (i j : Nat) (a b : C), i ≤ j → l[i]? = some a → l[j]? = some b → ltS b.key key = true → ltS a.key key = true) (hb : l.length ≤ 1073741824) :
  ACall Tryz.prog w0 61 [.sl 1 false (l.map fun c => dS c.key), dS key] S (fun d S' => d = .tup [dI (idxN l key), dB (hasN l key)] ∧ S' = S) := by
 refine fnS [] mx Tryz.func61 rfl rfl (by kernel_rfl) ?_; (refine @goW _ ?_; refine goS1 @Tryz.ntmps61 ?_)
 refine loopK [] [0, 1, 6, 7, 8] (fun s : Nat × Nat => [(7, dI s.1), (8, dI s.2)]) (fun _ => S) (fun s => s.1 ≤ s.2 ∧ s.2 ≤ l.length ∧ (∀ (i : Nat) a, i < s.1 → l[i]? = some a → ltS a.key key = true) ∧ ∀ (i : Nat) a, s.2 ≤ i → l[i]? = some a → ltS a.key key = false) (fun s => s.2 - s.1) (0, l.length) mx (by kernel_rfl) ?_ ?_
 ·(refine @goW _ ?_; refine goS ?_)
  exact ⟨Nat.zero_le _, fun i a h => absurd h (by omega), fun i a h e => absurd (List.getElem?_eq_some_iff.1 e).1 (by omega)⟩
 ·rintro ⟨i, j⟩ ⟨h1, h2, h3, h4⟩
  simp only at h1 h2 h3 h4
  have eh : IntKind.i64.wrap ((IntKind.u64.wrap (IntKind.i64.wrap ((i : Int) + j))).fdiv (2 ^ min 1 64)) = (((i + j) / 2 : Nat) : Int) := by
   rw [w64 (n := (i : Int) + j) (by omega) (by omega), wu64 (by omega) (by omega), Int.fdiv_eq_ediv_of_nonneg _ (by decide)]
   simp only [show min 1 64 = 1 from rfl, Int.pow_one]
   rw [w64 (by omega) (by omega)]
   omega
  (refine @goW _ ?_; refine goS1 @eh ?_)
  refine ⟨fun hlt => ⟨by omega, fun a ha => use1 (lessCS w0 a.key key S) ?_⟩, fun hge => ?_⟩
  ·(refine @goW _ ?_; refine goS1 @eh ?_)
   refine ⟨fun hap => ⟨((i + j) / 2 + 1, j), ⟨by simp only; omega, h2, fun x c hx hc => ?_, h4⟩, by simp only; omega, by rw [w64 (by omega) (by omega)]; rfl, rfl⟩, fun hap => ⟨(i, (i + j) / 2), ⟨by simp only; omega, by simp only; omega, h3, fun x c hx hc => ?_⟩, by simp only; omega, rfl, rfl⟩⟩
   ·simp only at hx
    exact hl x ((i + j) / 2) c a (by omega) hc ha hap
   ·simp only at hx
    refine Bool.eq_false_iff.2 fun hc' => ?_
    rw [hl ((i + j) / 2) x a c hx ha hc hc'] at hap; cases hap
  ·have hij : i = j := by omega
   subst hij
   have hi : idxN l key = i := takeW_len h2 h3 fun c hc => h4 i c (Nat.le_refl _) hc
   refine ⟨fun hlt => ⟨hlt, fun a ha => ⟨fun he => Wk.tup (.cons (.eq ?_) (.cons (.eq ?_) .nil)), fun he => ⟨hlt, fun c hc => use1 (nanSS w0 c.key S) ?_⟩⟩⟩, fun hn => Wk.tup (.cons (.eq ?_) (.cons (.eq ?_) .nil))⟩
   ·rw [hi]
   ·unfold hasN; rw [hi, ha]; simp only [he]
   ·(refine @goW _ ?_; refine goS ?_)
    unfold hasN; rw [hi, ha]
    simp only [he]
    exact Wk.tup (.cons (.refl _) (.cons (.refl _) .nil))
   ·rw [hi]
   ·unfold hasN; rw [hi, List.getElem?_eq_none (by omega)]
def dK (l : List C) : List DV := l.map fun c => dT (kid0 c)
@[go_sem] theorem dK_len (l : List C) : (dK l).length = l.length := by unfold dK; rw [List.length_map]
@[go_sem] theorem dK_take (l : List C) (i : Nat) : (dK l).take i = dK (l.take i) := by unfold dK; rw [List.map_take]
@[go_sem] theorem dK_drop (l : List C) (i : Nat) : (dK l).drop i = dK (l.drop i) := by unfold dK; rw [List.map_drop]
@[go_sem] theorem el_dK (l : List C) (i : Nat) (F : DV → Prop) : elK (dK l) i F = ∀ c, l[i]? = some c → F (eT (kid0 c)) := by
 unfold dK
 rw [q_el_map]
 exact propext ⟨fun h c hc => by have := (h c hc).2; rwa [dT_eq] at this, fun h c hc => ⟨by rw [dT_eq]; rfl, by rw [dT_eq]; exact h c hc⟩⟩
@[go_sem] theorem ex_dK (l : List C) (i : Nat) (F : DV → Prop) : exK (dK l) i F = (i < l.length ∧ ∀ c, l[i]? = some c → F (eT (kid0 c))) := by
 unfold dK
 rw [q_ex_map]
 exact propext ⟨fun h => ⟨h.1, fun c hc => by have := (h.2 c hc).2; rwa [dT_eq] at this⟩, fun h => ⟨h.1, fun c hc => ⟨by rw [dT_eq]; rfl, by rw [dT_eq]; exact h.2 c hc⟩⟩⟩
theorem dK_app (l m : List C) : dK (l ++ m) = dK l ++ dK m := by unfold dK; rw [List.map_append]
def brT (p : Int) (l : List C) : DV := .agg [dI p, dB false, .sl 1 false (l.map fun c => dS c.key), .sl 2 false [], .sl 5 false (dK l)]
theorem eT_br {n : N} (hl : n.leaf = false) (h : ∀ c, c ∈ n.l → ∃ k, c.kid = [k]) : eT n = brT n.page n.l := by
 unfold eT brT kidsOf
 rw [hl]
 simp only [Bool.false_eq_true, if_false, List.map_nil, kids_map h, List.map_map]
 rfl
theorem eT_leaf {n : N} (hl : n.leaf = true) : eT n = .agg [dI n.page, dB true, .sl 1 false (n.l.map fun c => dS c.key), .sl 2 false (n.l.map dV2), .sl 5 false []] := by
 unfold eT kidsOf
 rw [hl]; rfl
theorem wk_leaf (p : Int) (l : List C) : Wk (.agg [dI p, dB true, .sl 1 false (l.map fun c => dS c.key), .sl 2 false (l.map dV2), .sl 0 true []]) (eT (.mk p true l)) := by
 rw [eT_leaf rfl]
 exact .agg (.cons (.refl _) (.cons (.refl _) (.cons (.refl _) (.cons (.refl _) (.cons (.nil _ _ _) .nil)))))
theorem wk_br (p : Int) (l : List C) (h : ∀ c, c ∈ l → ∃ k, c.kid = [k]) : Wk (.agg [dI p, dB false, .sl 1 false (l.map fun c => dS c.key), .sl 0 true [], .sl 5 false (dK l)]) (eT (.mk p false l)) := by
 rw [eT_br (n := .mk p false l) rfl h]
 exact .agg (.cons (.refl _) (.cons (.refl _) (.cons (.refl _) (.cons (.nil _ _ _) (.cons (.refl _) .nil)))))
theorem keyOf_get {l : List C} {a : C} (h : l[0]? = some a) : keyOf l = a.key := by
 cases l with
 | nil => cases h
 | cons b l => cases h; rfl
theorem keys_set (key : ByteArray) (l : List C) : (l.map fun c => dS c.key).set 0 (dS key) = (setKey key l).map fun c => dS c.key := by cases l <;> rfl
theorem kids_set {key : ByteArray} {l : List C} (h : ∀ c, c ∈ l → ∃ k, c.kid = [k]) : ∀ c, c ∈ setKey key l → ∃ k, c.kid = [k] := by
 cases l with
 | nil => exact h
 | cons b l =>
  intro c hc
  rcases List.mem_cons.1 hc with rfl | hc
  ·exact h b List.mem_cons_self
  ·exact h c (List.mem_cons_of_mem _ hc)
theorem dK_set (key : ByteArray) (l : List C) : dK (setKey key l) = dK l := by cases l <;> rfl
theorem wk_br0 (p : Int) (l : List C) (h : ∀ c, c ∈ l → ∃ k, c.kid = [k]) : Wk (.agg [dI p, dB false, .sl 1 false ((l.map fun c => dS c.key).set 0 (.v (.string { data := #[] }))), .sl 0 true [], .sl 5 false (dK l)]) (eT (.mk p false (setKey noS l))) := by
 have e : DV.v (Value.string { data := #[] }) = dS noS := rfl
 rw [e, keys_set, ← dK_set noS]
 exact wk_br p _ (kids_set h)
theorem partP (w0 : W0) (n : N) (i : Nat) (S : St) (hn : n.leaf = false → ∀ c, c ∈ n.l → ∃ k, c.kid = [k]) (hi : 0 < i) (hi2 : i < n.l.length) (h0 : n.l.length ≤ 524288) :
  ACall Tryz.prog w0 137 [eT n, dI i] S (fun d S' => d = .tup [eT (.mk 0 n.leaf (n.l.take i)), eT (.mk 0 n.leaf (if n.leaf then n.l.drop i else setKey noS (n.l.drop i))), dS (keyOf (n.l.drop i))] ∧ S' = S) := by
 cases hl : n.leaf with
 | true =>
  rw [eT_leaf hl]
  refine fnS [1, 8] mx Tryz.func137 rfl rfl (by kernel_rfl) ?_; (refine @goW _ ?_; refine goS1 @Tryz.ntmps137 ?_)
  intro b b1 b2
  refine Y.ordK [8] [] [0, 3, 1, 2, 4, 5, 6, 7, 8, 9] mx (by kernel_rfl) ?_
  (refine @goW _ ?_; refine goS ?_)
  intro b3 b4
  refine ⟨by omega, useQ (cloneQS w0 ((n.l.take i).map fun c => dS c.key) _ (by rw [List.length_map, List.length_take]; omega)) ?_⟩
  (refine @goW _ ?_; refine goS ?_)
  refine ⟨by omega, useQ (cloneQS w0 ((n.l.drop i).map fun c => dS c.key) _ (by rw [List.length_map, List.length_drop]; omega)) ?_⟩
  (refine @goW _ ?_; refine goS ?_)
  refine ⟨by omega, fun a ha => ⟨by omega, useQ (cloneQV w0 ((n.l.take i).map dV2) _ (by rw [List.length_map, List.length_take]; omega)) ?_⟩⟩
  (refine @goW _ ?_; refine goS ?_)
  refine ⟨by omega, useQ (cloneQV w0 ((n.l.drop i).map dV2) _ (by rw [List.length_map, List.length_drop]; omega)) ?_⟩
  (refine @goW _ ?_; refine goS ?_)
  refine Y.ordB [b1.n, b2.n] [3, 4] [] [2, 0, 1, 3, 4, 5] mx (by kernel_rfl) ?_
  (refine @goW _ ?_; refine goS ?_)
  rw [keyOf_get ha]
  exact .tup (.cons (wk_leaf 0 _) (.cons (wk_leaf 0 _) (.cons (.refl _) .nil)))
 | false =>
  rw [eT_br hl (hn hl)]
  unfold brT
  refine fnS [1, 2, 8] mx Tryz.func137 rfl rfl (by kernel_rfl) ?_; (refine @goW _ ?_; refine goS1 @Tryz.ntmps137 ?_)
  intro b b1 b2
  refine Y.ordK [8] [] [0, 3, 1, 2, 4, 5, 6, 7, 8, 9] mx (by kernel_rfl) ?_
  (refine @goW _ ?_; refine goS ?_)
  intro b3 b4
  refine Y.ordK [4, 9] [] [0, 2, 5, 7, 1, 3, 6, 8, 4, 10, 9, 11, 12, 13] mx (by kernel_rfl) ?_
  (refine @goW _ ?_; refine goS ?_)
  refine ⟨by omega, by omega, useK (cloneS w0 ((n.l.take i).map fun c => dS c.key) _ (by rw [List.length_map, List.length_take]; omega)) ?_⟩
  rintro d S' ⟨l1, rfl, rfl⟩
  (refine @goW _ ?_; refine goS ?_)
  refine useK (cloneS w0 ((n.l.drop i).map fun c => dS c.key) _ (by rw [List.length_map, List.length_drop]; omega)) ?_
  rintro d S' ⟨l2, rfl, rfl⟩
  (refine @goW _ ?_; refine goS ?_)
  refine ⟨by omega, by omega, fun a ha => ⟨by omega, useQ (cloneQT w0 (dK (n.l.take i)) _ (by rw [dK_len, List.length_take]; omega)) ?_⟩⟩
  (refine @goW _ ?_; refine goS ?_)
  refine ⟨by omega, useQ (cloneQT w0 (dK (n.l.drop i)) _ (by rw [dK_len, List.length_drop]; omega)) ?_⟩
  (refine @goW _ ?_; refine goS ?_)
  refine ⟨by omega, by omega, fun a' ha' => ?_⟩
  refine Y.ordB [b1.n, b2.n] [3, 4] [] [2, 0, 1, 3, 4, 5] mx (by kernel_rfl) ?_
  (refine @goW _ ?_; refine goS ?_)
  rw [keyOf_get ha]
  exact .tup (.cons (wk_br 0 _ fun c hc => hn hl c (List.mem_of_mem_take hc)) (.cons (wk_br0 0 _ fun c hc => hn hl c (List.mem_of_mem_drop hc)) (.cons (.refl _) .nil)))
theorem wk_form {p : Int} {l : List C} {K D : List DV} (h : ∀ c, c ∈ l → ∃ k, c.kid = [k]) (hK : K = l.map fun c => dS c.key) (hD : D = dK l) : Wk (.agg [dI p, dB false, .sl 1 false K, .sl 0 true [], .sl 5 false D]) (eT (.mk p false l)) := by
 subst hK; subst hD; exact wk_br p l h
theorem keys_with {l : List C} {k : Nat} {c : C} (h : l[k]? = some c) (q : ByteArray) (a b : N) : ((l.take (k + 1)).map fun c => dS c.key) ++ [dS q] ++ ((l.drop (k + 1)).map fun c => dS c.key) = (withC l k [cellN c.key a, cellN q b]).map fun c => dS c.key := by
 unfold withC
 rw [List.map_append, List.map_append, List.take_add_one, h]
 simp [cellN, C.key]
theorem kids_with (l : List C) (k : Nat) (x y : ByteArray) (a b : N) : dK (l.take k) ++ [eT a, eT b] ++ dK (l.drop (k + 1)) = dK (withC l k [cellN x a, cellN y b]) := by
 unfold withC
 rw [dK_app, dK_app, ← dT_eq, ← dT_eq]
 rfl
theorem keys_with1 {l : List C} {k : Nat} {c : C} (h : l[k]? = some c) (a : N) : (l.map fun c => dS c.key) = (withC l k [cellN c.key a]).map fun c => dS c.key := by
 obtain ⟨hi, rfl⟩ := List.getElem?_eq_some_iff.1 h
 have e : l.map (fun c => dS c.key) = (l.take k ++ l[k] :: l.drop (k + 1)).map fun c => dS c.key := by rw [← List.drop_eq_getElem_cons hi, List.take_append_drop]
 unfold withC
 rw [e, List.map_append, List.map_append, List.map_append, List.map_cons, List.append_assoc]
 rfl
theorem kids_with1 (l : List C) (k : Nat) (x : ByteArray) (a : N) : dK (l.take k) ++ [eT a] ++ dK (l.drop (k + 1)) = dK (withC l k [cellN x a]) := by
 unfold withC
 rw [dK_app, dK_app, ← dT_eq]
 rfl
theorem one_with {l m : List C} {k : Nat} (h : ∀ c, c ∈ l → ∃ k, c.kid = [k]) (hm : ∀ c, c ∈ m → ∃ k, c.kid = [k]) : ∀ c, c ∈ withC l k m → ∃ k, c.kid = [k] := fun c hc => by
 rcases mem_withC hc with hc | hc
 ·exact h c hc
 ·exact hm c hc
theorem one_cells2 (x y : ByteArray) (a b : N) : ∀ c, c ∈ [cellN x a, cellN y b] → ∃ k, c.kid = [k] := fun c hc => by
 simp only [List.mem_cons, List.not_mem_nil, or_false] at hc
 rcases hc with rfl | rfl
 ·exact ⟨a, rfl⟩
 ·exact ⟨b, rfl⟩
theorem one_cells1 (x : ByteArray) (a : N) : ∀ c, c ∈ [cellN x a] → ∃ k, c.kid = [k] := fun c hc => by
 simp only [List.mem_singleton] at hc
 subst hc; exact ⟨a, rfl⟩
theorem nd_one {d : Nat} {n : N} (h : Nd d n) : n.leaf = false → ∀ c, c ∈ n.l → ∃ k, c.kid = [k] := by
 cases d with
 | zero => intro hl; rw [h.1] at hl; cases hl
 | succ d => intro _ c hc; obtain ⟨_, k, hk, _⟩ := h.2.2 c hc; exact ⟨k, hk⟩
theorem splitP (w0 : W0) (d : Nat) (n kid : N) (c : C) (k : Nat) (S : St) (hn : Nd (d + 1) n) (hlen : n.l.length ≤ 262144) (hc : n.l[k]? = some c) (hk : c.kid = [kid]) (hkl : kid.l.length ≤ 524288) :
  ACall Tryz.prog w0 91 [eT n, dI k] S (fun d S' => d = .tup [eT (partedN n kid k c.key).1, dB (partedN n kid k c.key).2] ∧ S' = S) := by
 have hone := nd_one hn hn.1
 have hlt := (List.getElem?_eq_some_iff.1 hc).1
 obtain ⟨kid', hk', hkn⟩ : ∃ k', c.kid = [k'] ∧ Nd d k' := (hn.2.2 c (List.mem_of_getElem? hc)).2
 rw [hk] at hk'; cases hk'
 have hsm := nd_sm hkn
 generalize hp : partedN n kid k c.key = p
 rw [eT_br hn.1 hone]
 refine fnS [] mx Tryz.func91 rfl rfl (by kernel_rfl) ?_; (refine @goW _ ?_; refine goS1 @Tryz.ntmps91 ?_)
 unfold brT
 (refine @goW _ ?_; refine goS ?_)
 intro b b1
 refine ⟨hlt, fun a ha => ?_⟩
 cases getE hc ha
 rw [kid0_eq hk]
 refine use1 (sizesP w0 kid _ hsm (by omega)) ?_
 (refine @goW _ ?_; refine goS ?_)
 refine use1 (atP w0 _ _ (sizes_bd kid hsm (by omega))) ?_
 (refine @goW _ ?_; refine goS ?_)
 refine ⟨fun h0 => ?_, fun h0 => ?_⟩
 ·have e : p = (n, false) := by rw [← hp]; unfold partedN; simp only; rw [if_pos (by omega)]
  subst e
  exact .tup (.cons (.eq (eT_br hn.1 hone).symm) (.cons (.refl _) .nil))
 ·have hat := atR_lt (sizesN kid) (by omega)
  have hsl : (sizesN kid).length = kid.l.length := by unfold sizesN; rw [List.length_map]
  obtain ⟨A, B, q, e, hpart⟩ : ∃ A B q, p = (.mk 0 false (withC n.l k [cellN c.key A, cellN q B]), true) ∧ ∀ S, ACall Tryz.prog w0 137 [eT kid, dI (atR (sizesN kid))] S (fun d S' => d = .tup [eT A, eT B, dS q] ∧ S' = S) :=
   ⟨_, _, _, by rw [← hp]; unfold partedN; simp only; rw [if_neg (by omega)], fun S => partP w0 kid (atR (sizesN kid)) S (nd_one hkn) (by omega) (by omega) hkl⟩
  refine ⟨hlt, fun a ha => ?_⟩
  cases getE hc ha
  rw [kid0_eq hk]
  refine use1 (hpart _) ?_
  (refine @goW _ ?_; refine goS ?_)
  intro b2 b3
  have ew : IntKind.i64.wrap ((k : Int) + 1) = ((k + 1 : Nat) : Int) := i_oneV k (by omega)
  rw [ew]
  refine useQ (swapS w0 (n.l.map fun c => dS c.key) [dS q] (k + 1) 0 _ _ (by rw [List.length_map]; omega) (by rw [List.length_map]; omega) (by simp)) ?_
  (refine @goW _ ?_; refine goS ?_)
  refine useQ (swapT w0 (dK n.l) [eT A, eT B] k 1 _ _ (by rw [dK_len]; omega) (by rw [dK_len]; omega) (by simp)) ?_
  (refine @goW _ ?_; refine goS ?_)
  subst e
  exact .tup (.cons (wk_form (one_with hone (one_cells2 _ _ _ _)) (keys_with hc _ A B) (kids_with _ _ _ _ _ _)) (.cons (.refl _) .nil))
theorem joinP (w0 : W0) (d : Nat) (a b : N) (key : ByteArray) (S : St) (ha : Nd d a) (hb : Nd d b) (h0 : a.l.length ≤ 262144) (h1 : b.l.length ≤ 262144) (hbn : b.leaf = false → b.l ≠ []) :
  ACall Tryz.prog w0 94 [eT a, eT b, dS key] S (fun d S' => d = eT (bothN a b key) ∧ S' = S) := by
 have hle := nd_leaf_eq ha hb
 generalize hp : bothN a b key = p
 cases hl : a.leaf with
 | true =>
  rw [hl] at hle
  rw [eT_leaf hl, eT_leaf hle.symm]
  refine fnS [] mx Tryz.func94 rfl rfl (by kernel_rfl) ?_; (refine @goW _ ?_; refine goS1 @Tryz.ntmps94 ?_)
  intro b1 b2 b3
  refine use1 (cloneQS w0 (b.l.map fun c => dS c.key) _ (by rw [List.length_map]; omega)) ?_
  (refine @goW _ ?_; refine goS ?_)
  refine useQ (concatS w0 [a.l.map (fun c => dS c.key), b.l.map fun c => dS c.key] _ (by simp) (by simp [fl]; omega)) ?_ ⟨.full _ _ _, trivial⟩
  (refine @goW _ ?_; refine goS ?_)
  refine useQ (concatV w0 [a.l.map dV2, b.l.map dV2] _ (by simp) (by simp [fl]; omega)) ?_ ⟨.full _ _ _, trivial⟩
  (refine @goW _ ?_; refine goS ?_)
  refine useQ (concatT w0 [[], []] _ (by simp) (by simp [fl])) ?_ ⟨.full _ _ _, trivial⟩
  (refine @goW _ ?_; refine goS ?_)
  have e : eT p = .agg [dI 0, dB true, .sl 1 false (fl [a.l.map fun c => dS c.key, b.l.map fun c => dS c.key]), .sl 2 false (fl [a.l.map dV2, b.l.map dV2]), .sl 5 false (fl [[], []])] := by
   rw [← hp]; unfold bothN; rw [if_pos hle.symm, hl, eT_leaf rfl]; simp [fl, N.l, N.page]
  exact .eq e.symm
 | false =>
  rw [hl] at hle
  rw [eT_br hl (nd_one ha hl), eT_br hle.symm (nd_one hb hle.symm)]
  unfold brT
  refine fnS [4] mx Tryz.func94 rfl rfl (by kernel_rfl) ?_; (refine @goW _ ?_; refine goS1 @Tryz.ntmps94 ?_)
  intro b1 b2 b3
  refine useK (cloneS w0 (b.l.map fun c => dS c.key) _ (by rw [List.length_map]; omega)) ?_
  rintro d S' ⟨l1, rfl, rfl⟩
  (refine @goW _ ?_; refine goS ?_)
  have hpos := List.length_pos_iff.2 (hbn hle.symm)
  refine ⟨by omega, hpos, fun c hc => ?_⟩
  refine shrK [] [7] mx (by kernel_rfl) ?_
  (refine @goW _ ?_; refine goS ?_)
  refine useQ (concatS w0 [a.l.map (fun c => dS c.key), (b.l.map fun c => dS c.key).set 0 (dS key)] _ (by simp) (by simp [fl]; omega)) ?_ ⟨.full _ _ _, trivial⟩
  (refine @goW _ ?_; refine goS ?_)
  refine useQ (concatV w0 [[], []] _ (by simp) (by simp [fl])) ?_ ⟨.full _ _ _, trivial⟩
  (refine @goW _ ?_; refine goS ?_)
  refine useQ (concatT w0 [dK a.l, dK b.l] _ (by simp) (by simp [fl, dK_len]; omega)) ?_ ⟨.full _ _ _, trivial⟩
  (refine @goW _ ?_; refine goS ?_)
  have e : eT p = .agg [dI 0, dB false, .sl 1 false (fl [a.l.map fun c => dS c.key, (b.l.map fun c => dS c.key).set 0 (dS key)]), .sl 2 false (fl [[], []]), .sl 5 false (fl [dK a.l, dK b.l])] := by
   rw [← hp]; unfold bothN; rw [if_neg (by rw [← hle]; simp), hl, keys_set, ← dK_set key b.l, eT_br rfl]
   ·unfold brT; simp [fl, N.l, N.page, dK_app]
   ·intro c hc
    rcases List.mem_append.1 hc with hc | hc
    ·exact nd_one ha hl c hc
    ·exact kids_set (nd_one hb hle.symm) c hc
  exact .eq e.symm
theorem withC_both {l m : List C} {j : Nat} (h : j + 1 < l.length) : withC (withC l (j + 1) []) j m = l.take j ++ m ++ l.drop (j + 1 + 1) := by
 unfold withC
 have e1 : (l.take (j + 1)).length = j + 1 := by rw [List.length_take]; omega
 rw [List.append_nil, List.take_append_of_le_length (by omega), List.take_take, show min j (j + 1) = j by omega, List.drop_append, e1, List.drop_eq_nil_of_le (by omega)]
 simp
theorem keys_both {l : List C} {j : Nat} {c : C} (hj : j + 1 < l.length) (h : l[j]? = some c) (b : N) : ((l.take (j + 1)).map fun c => dS c.key) ++ ((l.drop (j + 1 + 1)).map fun c => dS c.key) = (withC (withC l (j + 1) []) j [cellN c.key b]).map fun c => dS c.key := by
 rw [withC_both hj, List.map_append, List.map_append, List.take_add_one, h]
 simp [cellN, C.key]
theorem kids_both {l : List C} {j : Nat} (hj : j + 1 < l.length) (x : ByteArray) (b : N) : dK (l.take j) ++ [eT b] ++ dK (l.drop (j + 2)) = dK (withC (withC l (j + 1) []) j [cellN x b]) := by
 rw [withC_both hj, dK_app, dK_app, ← dT_eq]
 rfl
theorem mendP (w0 : W0) (d : Nat) (n : N) (k : Nat) (S : St) (hn : Nd (d + 1) n) (ht : totN n ≤ 131072) (hk : k < n.l.length) : ACall Tryz.prog w0 58 [eT n, dI k] S (fun e S' => e = eT (mendN n k) ∧ S' = S) := by
 have hlen := tot_len n
 have hone := nd_one hn hn.1
 obtain ⟨c, kid, hc, e1, e2, hkid, hkey, hnd⟩ := nd_kid hn hk
 have hkt := tot_kid (List.mem_of_getElem? hc) hkid
 have hkl := tot_len kid
 have hsm := nd_sm hnd
 have hm0 : mendN n k = mendN n k := rfl
 conv at hm0 => rhs; unfold mendN
 simp only [e1, e2] at hm0
 generalize hp : partedN n kid k c.key = p at hm0
 generalize mendN n k = m at hm0
 rw [eT_br hn.1 hone]
 refine fnS [7, 8] mx Tryz.func58 rfl rfl (by kernel_rfl) ?_; (refine @goW _ ?_; refine goS1 @Tryz.ntmps58 ?_)
 unfold brT
 (refine @goW _ ?_; refine goS ?_)
 intro b b1
 refine use1 (splitP w0 d n kid c k _ hn (by omega) hc hkid (by omega)) ?_ ⟨.eq (eT_br hn.1 hone).symm, .refl _, trivial⟩
 rw [hp]
 (refine @goW _ ?_; refine goS ?_)
 intro b2
 refine ⟨fun h2 => ?_, fun h2 => ⟨hk, fun a ha => ?_⟩⟩
 ·rw [if_pos h2] at hm0
  subst hm0
  (refine @goW _ ?_; exact goT)
 ·cases getE hc ha
  rw [if_neg (by rw [h2]; simp)] at hm0
  rw [e2]
  refine use1 (sizesP w0 kid _ hsm (by omega)) ?_
  (refine @goW _ ?_; refine goS ?_)
  refine use1 (lowP w0 _ _ (sizes_bd kid hsm (by omega))) ?_
  (refine @goW _ ?_; refine goS ?_)
  refine ⟨fun hlo => ?_, fun hlo => ⟨fun hl2 => ?_, fun hl2 => ?_⟩⟩
  ·rw [if_pos (by rw [hlo]; rfl)] at hm0
   subst hm0
   exact .eq (eT_br hn.1 hone).symm
  ·rw [if_pos (by rw [hlo, decide_eq_true (by omega)]; rfl)] at hm0
   subst hm0
   exact .eq (eT_br hn.1 hone).symm
  ·rw [if_neg (by rw [hlo, decide_eq_false (by omega)]; simp)] at hm0
   refine use1 (nbP w0 n.l.length k _ (by omega) (by omega) (by omega) (by omega)) ?_
   obtain ⟨j, hj, hnb, hj1⟩ : ∃ j : Nat, (if k + 1 < n.l.length then k else k - 1) = j ∧ (if nbR (n.l.length : Int) k < (k : Int) then nbR (n.l.length : Int) k else (k : Int)) = (j : Int) ∧ j + 1 < n.l.length := by
    refine ⟨_, rfl, ?_, ?_⟩
    ·unfold nbR
     split <;> split <;> split <;> omega
    ·split <;> omega
   rw [hj] at hm0
   (refine @goW _ ?_; refine goS1 @hnb ?_)
   obtain ⟨c0, k0, hc0, f1, f2, hk0, hkey0, hnd0⟩ := nd_kid hn (k := j) (by omega)
   obtain ⟨c1, k1, hc1, g1, g2, hk1, hkey1, hnd1⟩ := nd_kid hn hj1
   simp only [f1, f2, g1, g2] at hm0
   have ht0 := tot_kid (List.mem_of_getElem? hc0) hk0
   have ht1 := tot_kid (List.mem_of_getElem? hc1) hk1
   have hl0 := tot_len k0
   have hl1 := tot_len k1
   have ew : IntKind.i64.wrap ((j : Int) + 1) = ((j + 1 : Nat) : Int) := i_oneV j (by omega)
   refine Y.ordK [] [] [0, 2, 5, 7, 8, 11, 13, 14, 1, 3, 4, 6, 9, 10, 12, 15, 16, 17, 18, 19] mx (by kernel_rfl) ?_
   (refine @goW _ ?_; refine goS1 @ew ?_)
   refine ⟨by omega, fun x hx => ⟨hj1, fun y hy => ⟨hj1, fun z hz => ?_⟩⟩⟩
   cases getE hc0 hx; cases getE hc1 hy; cases getE hc1 hz
   rw [f2, g2]
   have hbn : k1.leaf = false → k1.l ≠ [] := fun hl => by
    cases d with
    | zero => rw [hnd1.1] at hl; cases hl
    | succ d => exact hnd1.2.1
   refine Y.useO (fun T hT => joinP w0 d k0 k1 c1.key T hnd0 hnd1 (by omega) (by omega) hbn) ?_
   have hbo := nd_both hnd0 hnd1 hkey1
   have hbl : (bothN k0 k1 c1.key).l.length ≤ 524288 := by
    unfold bothN
    simp only [N.l_mk, List.length_append]
    split
    ·omega
    ·rw [setKey_len]; omega
   generalize bothN k0 k1 c1.key = bo at *
   have hw1 : Nd (d + 1) (.mk 0 false (withC n.l (j + 1) [])) := nd_with hn hj1 0 (.inl (by omega)) (fun c hc => by cases hc)
   have hwl := withC_len (m := []) hj1
   simp only [List.length_nil] at hwl
   have hw2 := nd_with hw1 (i := j) (by simp only [N.l_mk]; omega) 0 (m := [cellN c0.key bo]) (.inr (by simp)) fun c hc => by
    rw [List.mem_singleton] at hc; subst hc; exact cell_ok hkey0 hbo
   have hwc : (withC (withC n.l (j + 1) []) j [cellN c0.key bo])[j]? = some (cellN c0.key bo) := withC_at (by omega)
   have hwn := withC_len (l := withC n.l (j + 1) []) (i := j) (m := [cellN c0.key bo]) (by omega)
   simp only [List.length_cons, List.length_nil] at hwn
   simp only [N.l_mk] at hw2
   have hwk : Wk (.agg [dI 0, dB false, .sl 1 false (((n.l.take (j + 1)).map fun c => dS c.key) ++ ((n.l.drop (j + 1 + 1)).map fun c => dS c.key)), .sl 0 true [], .sl 5 false (dK (n.l.take j) ++ [eT bo] ++ dK (n.l.drop (j + 2)))]) (eT (.mk 0 false (withC (withC n.l (j + 1) []) j [cellN c0.key bo]))) :=
    wk_form (one_with (one_with hone (fun c hc => by cases hc)) (one_cells1 _ _)) (keys_both hj1 hc0 bo) (kids_both hj1 c0.key bo)
   have hsp : ∀ T, ACall Tryz.prog w0 91 [eT (.mk 0 false (withC (withC n.l (j + 1) []) j [cellN c0.key bo])), dI j] T (fun d S' => d = .tup [eT m, dB (partedN (.mk 0 false (withC (withC n.l (j + 1) []) j [cellN c0.key bo])) bo j c0.key).2] ∧ S' = T) := fun T => by
    rw [hm0]
    exact splitP w0 d (.mk 0 false (withC (withC n.l (j + 1) []) j [cellN c0.key bo])) bo (cellN c0.key bo) j T hw2 (by simp only [N.l_mk]; omega) hwc rfl hbl
   generalize (partedN (.mk 0 false (withC (withC n.l (j + 1) []) j [cellN c0.key bo])) bo j c0.key).2 = pb at hsp
   generalize N.mk 0 false (withC (withC n.l (j + 1) []) j [cellN c0.key bo]) = M at hwk hsp
   clear hm0 hw2 hwc hwn hwl hw1
   (refine @goW _ ?_; refine goS ?_)
   intro b3
   refine Y.ordK [] [] [0, 2, 3, 5, 7, 12, 1, 4, 6, 8, 9, 10, 11, 13, 14, 15, 16, 17, 18, 19] mx (by kernel_rfl) ?_
   (refine @goW _ ?_; refine goS1 @ew ?_)
   refine Y.useO (fun T hT => swapS w0 (n.l.map fun c => dS c.key) [] (j + 1) 1 false T (by rw [List.length_map]; omega) (by rw [List.length_map]; omega) (by simp)) ?_ ⟨.refl _, .refl _, .refl _, .nil _ _ _, trivial⟩
   (refine @goW _ ?_; refine goS ?_)
   refine Y.useO (fun T hT => swapT w0 (dK n.l) [eT bo] j 2 true T (by rw [dK_len]; omega) (by rw [dK_len]; omega) (by simp)) ?_
   (refine @goW _ ?_; refine goS ?_)
   refine Y.useO (fun T hT => hsp T) ?_ ⟨?_, .refl _, trivial⟩
   ·(refine @goW _ ?_; exact goT)
   ·rw [List.map_append]; exact hwk
theorem wk_top {n : N} {x : DV} (h : eT n = x) : Wk (.agg [dI 0, dB false, .sl 1 true [.v (.string { data := #[] })], .sl 0 true [], .sl 5 true [x]]) (brT 0 [cellN noS n]) := by
 have e : brT 0 [cellN noS n] = .agg [dI 0, dB false, .sl 1 false [.v (.string { data := #[] })], .sl 2 false [], .sl 5 false [x]] := by
  rw [← h, ← dT_eq]; rfl
 rw [e]
 exact .agg (.cons (.refl _) (.cons (.refl _) (.cons (.full _ _ _) (.cons (.nil _ _ _) (.cons (.full _ _ _) .nil)))))
theorem topP (w0 : W0) : ∀ (d : Nat) (n : N) (S : St), Nd d n → totN n ≤ 131000 → ACall Tryz.prog w0 33 [eT n] S (fun e S' => e = eT (topN n) ∧ S' = S) := by
 have fin : ∀ (d : Nat) (n : N), Nd d n → totN n ≤ 131000 → atR (sizesN n) ≠ 0 → ∀ T, ACall Tryz.prog w0 58 [brT 0 [cellN noS n], dI 0] T (fun e S' => e = eT (mendN (.mk 0 false [cellN noS n]) 0) ∧ S' = T) := fun d n hn ht h0 T => by
  have hM : Nd (d + 1) (.mk 0 false [cellN noS n]) := ⟨rfl, List.cons_ne_nil _ _, fun c hc => by
   rw [N.l_mk, List.mem_singleton] at hc; subst hc; exact cell_ok (by rw [noS_size]; omega) hn⟩
  have := mendP w0 d (.mk 0 false [cellN noS n]) 0 T hM (by rw [totN_mk, tot_cons, tot_nil, tot_cell]; omega) (Nat.lt_add_one 0)
  rw [eT_br (n := .mk 0 false [cellN noS n]) rfl (one_cells1 _ _)] at this
  exact this
 intro d
 induction d with
 | zero =>
  intro n S hn ht
  have hlen := tot_len n
  have hsm := nd_sm hn
  have e1 := topN_else n (.inl hn.1)
  generalize topN n = m at e1
  have hf := fin 0 n hn ht
  rw [eT_leaf hn.1] at *
  refine fnS [] mx Tryz.func33 rfl rfl (by kernel_rfl) ?_; (refine @goW _ ?_; refine goS1 @Tryz.ntmps33 ?_)
  intro b b1
  refine use1 (sizesP w0 n _ hsm (by omega)) ?_ ⟨.eq (eT_leaf hn.1).symm, trivial⟩
  (refine @goW _ ?_; refine goS ?_)
  refine use1 (atP w0 _ _ (sizes_bd n hsm (by omega))) ?_
  (refine @goW _ ?_; refine goS ?_)
  refine ⟨fun h0 => ?_, fun h0 => ?_⟩
  ·rw [if_pos (by omega)] at e1
   subst e1
   exact .eq (eT_leaf hn.1).symm
  ·rw [if_neg (by omega)] at e1
   subst e1
   refine use1 (hf (by omega) _) ?_ ⟨wk_top (eT_leaf hn.1), .refl _, trivial⟩
   (refine @goW _ ?_; exact goT)
 | succ d ih =>
  intro n S hn ht
  have hlen := tot_len n
  have hsm := nd_sm hn
  have hone := nd_one hn hn.1
  generalize hm : topN n = m
  have hf := fin (d + 1) n hn ht
  rw [eT_br hn.1 hone] at *
  refine fnS [] mx Tryz.func33 rfl rfl (by kernel_rfl) ?_; (refine @goW _ ?_; refine goS1 @Tryz.ntmps33 ?_)
  unfold brT
  (refine @goW _ ?_; refine goS ?_)
  intro b b1
  refine ⟨fun h1 => ⟨by omega, fun c hc => ?_⟩, fun h1 => ?_⟩
  ·obtain ⟨c', kid, hc', _, e2, hkid, _, hnd⟩ := nd_kid hn (k := 0) (by omega)
   cases getE hc hc'
   have hl : n.l = [c] := by
    cases h : n.l with
    | nil => rw [h] at hc; cases hc
    | cons a r =>
     rw [h] at hc h1
     cases r with
     | nil => cases hc; rfl
     | cons _ _ => simp at h1; omega
   have hkt := tot_kid (List.mem_of_getElem? hc) hkid
   rw [e2]
   refine use1 (ih kid _ hnd (by omega)) ?_
   rw [topN_one n hn.1 hl hkid] at hm
   rw [hm]
   (refine @goW _ ?_; exact goT)
  ·have e1 := topN_else n (.inr (by omega))
   rw [hm] at e1
   refine use1 (sizesP w0 n _ hsm (by omega)) ?_ ⟨.eq (eT_br hn.1 hone).symm, trivial⟩
   (refine @goW _ ?_; refine goS ?_)
   refine use1 (atP w0 _ _ (sizes_bd n hsm (by omega))) ?_
   (refine @goW _ ?_; refine goS ?_)
   refine ⟨fun h0 => ?_, fun h0 => ?_⟩
   ·rw [if_pos (by omega)] at e1
    subst e1
    exact .eq (eT_br hn.1 hone).symm
   ·rw [if_neg (by omega)] at e1
    subst e1
    refine use1 (hf (by omega) _) ?_ ⟨wk_top (eT_br hn.1 hone), .refl _, trivial⟩
    (refine @goW _ ?_; exact goT)
theorem leafPut_yes {l : List C} {key : ByteArray} (h : hasN l key = true) (val : ByteArray) : idxN l key + 1 ≤ l.length ∧ leafPut l key val = l.take (idxN l key) ++ [.mk key val [] []] ++ l.drop (idxN l key + 1) := by
 unfold hasN at h
 unfold leafPut
 split at h
 ·rename_i c hc
  refine ⟨(List.getElem?_eq_some_iff.1 hc).1, ?_⟩
  simp only [hc, h, if_true]; rfl
 ·cases h
theorem leafPut_no {l : List C} {key : ByteArray} (h : hasN l key = false) (val : ByteArray) : leafPut l key val = l.take (idxN l key) ++ [.mk key val [] []] ++ l.drop (idxN l key + 0) := by
 unfold hasN at h
 unfold leafPut
 split at h
 ·rename_i c hc
  simp only [hc, h, Bool.false_eq_true, if_false]; rfl
 ·rename_i hc
  simp only [hc]; rfl
theorem wk_val (key val : ByteArray) : Wk (.sl 2 true [.agg [dS val, .sl 0 true []]]) (.sl 2 true [dV2 (.mk key val [] [])]) := .sl ⟨.agg (.cons (.refl _) (.cons (.nil _ _ _) .nil)), trivial⟩
theorem putP (w0 : W0) (key val : ByteArray) (hk : key.size ≤ 16) (hv : val.size ≤ 400) : ∀ (d : Nat) (n : N) (S : St), Good d n → totN n + d + 8 ≤ 131000 → ACall Tryz.prog w0 34 [eT n, dS key, dS val] S (fun e S' => e = eT (putN key val n) ∧ S' = S) := by
 intro d
 induction d with
 | zero =>
  intro n S hg ht
  have hlen := tot_len n
  rw [putN_leaf key val n hg.1, eT_leaf hg.1, eT_leaf rfl]
  refine fnS [] mx Tryz.func34 rfl rfl (by kernel_rfl) ?_; (refine @goW _ ?_; refine goS1 @Tryz.ntmps34 ?_)
  intro b b1
  refine use1 (searchS w0 n.l key _ (rise_mono hg.2.1 key) (by omega)) ?_
  (refine @goW _ ?_; refine goS ?_)
  refine ⟨fun hy => ?_, fun hno => ?_⟩
  ·obtain ⟨hi, hput⟩ := leafPut_yes hy val
   refine useQ (swapS w0 (n.l.map fun c => dS c.key) [dS key] (idxN n.l key) 1 _ _ (by rw [List.length_map]; omega) (by rw [List.length_map]; omega) (by simp)) ?_
   (refine @goW _ ?_; refine goS ?_)
   refine useQ (swapV w0 (n.l.map dV2) [dV2 (.mk key val [] [])] (idxN n.l key) 1 true _ (by rw [List.length_map]; omega) (by rw [List.length_map]; omega) (by simp)) ?_ ⟨.refl _, .refl _, .refl _, wk_val key val, trivial⟩
   (refine @goW _ ?_; refine goS ?_)
   rw [hput]
   simp only [List.map_append, List.map_cons, List.map_nil]
   exact .agg (.cons (.refl _) (.cons (.refl _) (.cons (.refl _) (.cons (.refl _) (.cons (.nil _ _ _) .nil)))))
  ·have hi := idx_le n.l key
   refine useQ (swapS w0 (n.l.map fun c => dS c.key) [dS key] (idxN n.l key) 0 _ _ (by rw [List.length_map]; omega) (by rw [List.length_map]; omega) (by simp)) ?_
   (refine @goW _ ?_; refine goS ?_)
   refine useQ (swapV w0 (n.l.map dV2) [dV2 (.mk key val [] [])] (idxN n.l key) 0 true _ (by rw [List.length_map]; omega) (by rw [List.length_map]; omega) (by simp)) ?_ ⟨.refl _, .refl _, .refl _, wk_val key val, trivial⟩
   (refine @goW _ ?_; refine goS ?_)
   rw [leafPut_no hno]
   simp only [List.map_append, List.map_cons, List.map_nil]
   exact .agg (.cons (.refl _) (.cons (.refl _) (.cons (.refl _) (.cons (.refl _) (.cons (.nil _ _ _) .nil)))))
 | succ d ih =>
  intro n S hg ht
  have hn := good_nd hg
  have hlen := tot_len n
  have hone := nd_one hn hn.1
  have hlt := way_lt hg.2.1 key
  obtain ⟨c, kid, hc, e1, e2, hkid, hkey, hnd⟩ := nd_kid hn (k := way n.l key) hlt
  obtain ⟨-, -, kid', hkid', hgk, -⟩ := hg.2.2.cell c (List.mem_of_getElem? hc)
  rw [hkid] at hkid'; cases hkid'
  have hkt := tot_kid (List.mem_of_getElem? hc) hkid
  have hw := wayP w0 n key
  rw [putN_br key val n hg.1 hc hkid]
  have hpt := tot_put hk hv hnd
  have hpn := nd_put hk hv hnd
  have ihk := ih kid
  generalize putN key val kid = pk at hpt hpn ihk ⊢
  have hM := nd_with hn hlt 0 (m := [cellN c.key pk]) (.inr (by simp)) fun c hc => by
   rw [List.mem_singleton] at hc; subst hc; exact cell_ok hkey hpn
  have hMt : totN (.mk 0 false (withC n.l (way n.l key) [cellN c.key pk])) ≤ 131072 := by
   have := tot_withC (m := [cellN c.key pk]) hc
   rw [totN_mk]
   rw [tot_cons, tot_nil, tot_cell, totC_kid hkid, ← totN_tot n] at this
   omega
  have hmend := fun T => mendP w0 d _ (way n.l key) T hM hMt (by rw [N.l_mk]; have := withC_len (m := [cellN c.key pk]) hlt; simp at this; omega)
  have hwk : Wk (.agg [dI 0, dB false, .sl 1 false (n.l.map fun c => dS c.key), .sl 0 true [], .sl 5 false (dK (n.l.take (way n.l key)) ++ [eT pk] ++ dK (n.l.drop (way n.l key + 1)))]) (eT (.mk 0 false (withC n.l (way n.l key) [cellN c.key pk]))) :=
   wk_form (one_with hone (one_cells1 _ _)) (keys_with1 hc pk) (kids_with1 n.l _ c.key pk)
  generalize mendN (.mk 0 false (withC n.l (way n.l key) [cellN c.key pk])) (way n.l key) = m at hmend ⊢
  generalize N.mk 0 false (withC n.l (way n.l key) [cellN c.key pk]) = M at hmend hwk
  clear hM hMt
  rw [eT_br hn.1 hone] at hw ⊢
  refine fnS [] mx Tryz.func34 rfl rfl (by kernel_rfl) ?_; (refine @goW _ ?_; refine goS1 @Tryz.ntmps34 ?_)
  unfold brT
  (refine @goW _ ?_; refine goS ?_)
  intro b b1
  refine use1 (hw _ (by omega) hg.2.1) ?_
  (refine @goW _ ?_; refine goS ?_)
  refine ⟨hlt, fun x hx => ?_⟩
  cases getE hc hx
  rw [e2]
  refine useQ (ihk _ hgk (by omega)) ?_
  (refine @goW _ ?_; refine goS ?_)
  refine useQ (swapT w0 (dK n.l) [eT pk] (way n.l key) 1 true _ (by rw [dK_len]; omega) (by rw [dK_len]; omega) (by simp)) ?_
  (refine @goW _ ?_; refine goS ?_)
  refine useQ (hmend _) ?_ ⟨hwk, .refl _, trivial⟩
  (refine @goW _ ?_; exact goT)
theorem PutP (w0 : W0) (key val : ByteArray) (hk : key.size ≤ 16) (hv : val.size ≤ 400) (d : Nat) (n : N) (S : St) (hg : Good d n) (ht : totN n + 2 * d + 16 ≤ 131000) : ACall Tryz.prog w0 20 [eT n, dS key, dS val] S (fun e S' => e = eT (Put key val n) ∧ S' = S) := by
 have h1 := putP w0 key val hk hv d n
 have h2 := tot_put hk hv (good_nd hg)
 have h3 := topP w0 d (putN key val n)
 have h4 := nd_put hk hv (good_nd hg)
 unfold Put
 generalize putN key val n = p at *
 generalize topN p = q at *
 refine fnS [] mx Tryz.func20 rfl rfl (by kernel_rfl) ?_; (refine @goW _ ?_; refine goS1 @Tryz.ntmps20 ?_)
 intro b b1
 refine use1 (h1 _ hg (by omega)) ?_
 (refine @goW _ ?_; refine goS ?_)
 refine use1 (h3 _ h4 (by omega)) ?_
 (refine @goW _ ?_; exact goT)
end Go.Proofs.YtpcmnebpnpgcmaaGreatDoor
namespace Go.Proofs.YtpcmnebpnpgcmaaGreatDoor
open Aml Go
open Aml Go
open Aml Go
end Go.Proofs.YtpcmnebpnpgcmaaGreatDoor
namespace Go.Proofs.YtpcmnebpnpgcmaaGreatDoor
open Aml Go
def emN : N := .mk 0 true []
theorem em_good : Good 0 emN := ⟨rfl, List.Pairwise.nil, fun c hc => by cases hc⟩
theorem em_root : RootG emN := ⟨0, em_good, by decide, .inl rfl⟩
theorem emP (w0 : W0) (S : St) : ACall Tryz.prog w0 21 [] S (fun e S' => e = eT emN ∧ S' = S) := by
 refine fnS [] mx Tryz.func21 rfl rfl (by kernel_rfl) ?_; (refine @goW _ ?_; refine goS1 @Tryz.ntmps21 ?_)
 intro b
 exact .agg (.cons (.refl _) (.cons (.refl _) (.cons (.nil _ _ _) (.cons (.nil _ _ _) (.cons (.nil _ _ _) .nil)))))
theorem one_key {key : ByteArray} {l : List C} (h : Rise l) (ha : ∀ c, c ∈ l → c.key = key) : l.length ≤ 1 := by
 cases l with
 | nil => simp
 | cons a l =>
  cases l with
  | nil => simp
  | cons b l =>
   have h1 : ltS a.key b.key = true := (List.pairwise_cons.1 h).1 b List.mem_cons_self
   rw [ha a List.mem_cons_self, ha b (List.mem_cons_of_mem _ List.mem_cons_self), ltS_irrefl] at h1
   cases h1
theorem del_empty {key : ByteArray} {n : N} (h : RootG n) (hf : (findN key n).isSome = true) (hl : (Del key n).l = []) : Del key n = emN := by
 have hen := (root_del key h).2
 obtain ⟨d, hg, hs, h2⟩ := h
 cases d with
 | zero =>
  unfold Del at hl ⊢
  rw [if_pos hf] at hl ⊢
  rw [withoutN_leaf key n hg.1] at hl ⊢
  have e1 := topN_else (.mk 0 true (n.l.filter fun c => !eqS c.key key)) (.inl rfl)
  split at e1
  ·rw [e1] at hl ⊢
   rw [N.l_mk] at hl
   rw [hl]; rfl
  ·rw [e1] at hl
   have hnd : Nd 0 (.mk 0 true (n.l.filter fun c => !eqS c.key key)) := by
    have := nd_without (key := key) (good_nd hg)
    rwa [withoutN_leaf key n hg.1] at this
   have hM : Nd 1 (.mk 0 false [cellN noS (.mk 0 true (n.l.filter fun c => !eqS c.key key))]) := ⟨rfl, List.cons_ne_nil _ _, fun c hc => by
    rw [N.l_mk, List.mem_singleton] at hc; subst hc; exact cell_ok (by rw [noS_size]; omega) hnd⟩
   have := (nd_mend hM (Nat.lt_add_one 0)).2.1
   exact absurd hl this
 | succ d =>
  exfalso
  rw [enN_eq, hl, List.flatMap_nil] at hen
  have hlen : 2 ≤ n.l.length := h2.resolve_left (by rw [hg.1]; simp)
  have hall : ∀ c, c ∈ enN n → c.key = key := fun c hc => by
   have := List.filter_eq_nil_iff.1 hen.symm c hc
   simp at this
   exact eqS_iff.1 this
  have h1 := one_key (good_rise hg) hall
  rw [enN_eq, hg.1] at h1
  match hn : n.l, hlen with
  | a :: b :: r, _ =>
   obtain ⟨x, hx⟩ := cell_ne (hg.2.2.cell a (by rw [hn]; exact List.mem_cons_self))
   obtain ⟨y, hy⟩ := cell_ne (hg.2.2.cell b (by rw [hn]; exact List.mem_cons_of_mem _ List.mem_cons_self))
   rw [hn, List.flatMap_cons, List.flatMap_cons] at h1
   have p1 := List.length_pos_of_mem hx
   have p2 := List.length_pos_of_mem hy
   simp only [List.length_append] at h1
   omega
def okKey (k : ByteArray) : Bool := decide (0 < k.size) && decide (k.size ≤ 16)
end Go.Proofs.YtpcmnebpnpgcmaaGreatDoor
namespace Go.Proofs.YtpcmnebpnpgcmaaGreatDoor
open Aml Go
end Go.Proofs.YtpcmnebpnpgcmaaGreatDoor
namespace Go.Proofs.YtpcmnebpnpgcmaaGreatDoor
open Aml Go
theorem nd_inj : ∀ {d e : Nat} {n : N}, Nd d n → Nd e n → d = e
 | 0, 0, _, _, _ => rfl
 | 0, e + 1, n, h, k => by have := h.1; rw [k.1] at this; cases this
 | d + 1, 0, n, h, k => by have := h.1; rw [k.1] at this; cases this
 | d + 1, e + 1, n, h, k => by
  obtain ⟨c, hc⟩ := List.exists_mem_of_ne_nil _ h.2.1
  obtain ⟨_, x, hx, h1⟩ := h.2.2 c hc
  obtain ⟨_, y, hy, h2⟩ := k.2.2 c hc
  rw [hx] at hy; cases hy
  rw [nd_inj h1 h2]
def TB (k : Nat) (n : N) : Prop := RootG n ∧ ∃ d, Good d n ∧ d ≤ k ∧ totN n ≤ 120 * k
theorem tb_mono {k m : Nat} {n : N} (h : TB k n) (hm : k ≤ m) : TB m n := let ⟨h1, d, h2, h3, h4⟩ := h; ⟨h1, d, h2, by omega, by omega⟩
theorem tb_put {k : Nat} {n : N} {key val : ByteArray} (h : TB k n) (hk : k ≤ 116) (h0 : key ≠ noS) (h1 : key.size ≤ 16) (h2 : val.size ≤ 400) : TB (k + 1) (Put key val n) := by
 obtain ⟨hr, d, hg, hd, ht⟩ := h
 have hr' := (root_put (val := val) h0 h1 h2 hr).1
 obtain ⟨d', hg', q⟩ := hr'
 obtain ⟨e, he, hn, hT⟩ := nd_Put h1 h2 (good_nd hg)
 have := nd_inj (good_nd hg') hn
 exact ⟨⟨d', hg', q⟩, d', hg', by omega, by omega⟩
theorem tb_del {k : Nat} {n : N} {key : ByteArray} (h : TB k n) (hk : k ≤ 116) : TB (k + 1) (Del key n) := by
 obtain ⟨hr, d, hg, hd, ht⟩ := h
 have hr' := (root_del key hr).1
 obtain ⟨d', hg', q⟩ := hr'
 obtain ⟨e, he, hn, hT⟩ := nd_Del (key := key) (good_nd hg)
 have := nd_inj (good_nd hg') hn
 exact ⟨⟨d', hg', q⟩, d', hg', by omega, by omega⟩
theorem tb_em (k : Nat) : TB k emN := ⟨em_root, 0, em_good, by omega, by show 0 ≤ _; omega⟩
theorem tbPut (w0 : W0) {k : Nat} {n : N} {key val : ByteArray} (h : TB k n) (hk : k ≤ 116) (h1 : key.size ≤ 16) (h2 : val.size ≤ 400) (S : St) : ACall Tryz.prog w0 20 [eT n, dS key, dS val] S (fun e S' => e = eT (Put key val n) ∧ S' = S) := by
 obtain ⟨hr, d, hg, hd, ht⟩ := h
 exact PutP w0 key val h1 h2 d n S hg (by omega)
def nwS : ByteArray := ⟨#[0, 0]⟩
structure VI (k : Nat) (n : N) (l : List C) : Prop where
 dir : TB k n
 rise : Rise l
 cell : ∀ c, c ∈ l → c = cellN c.key (kid0 c) ∧ TB k (kid0 c) ∧ okKey c.key = true
 len : l.length ≤ k
 en : enN n = l.map fun c => .mk c.key nwS [] []
def mkV (name : ByteArray) (n : N) (l : List C) : (N × List C) × Int :=
 if okKey name then (if hasN l name then ((n, l), 38) else ((Put name nwS n, l.take (idxN l name) ++ [cellN name emN] ++ l.drop (idxN l name)), 0)) else ((n, l), 34)
def drV (name : ByteArray) (n : N) (l : List C) : (N × List C) × Int :=
 if hasN l name then ((Del name n, l.take (idxN l name) ++ l.drop (idxN l name + 1)), 0) else ((n, l), 32)
def chV (name : ByteArray) (f : N → N × Int) (n : N) (l : List C) : (N × List C) × Int :=
 if hasN l name then (match l[idxN l name]? with
  | some c => if (f (kid0 c)).2 = 0 then ((Put name nwS n, l.set (idxN l name) (cellN c.key (f (kid0 c)).1)), 0) else ((n, l), (f (kid0 c)).2)
  | none => ((n, l), 32)) else ((n, l), 32)
def puV (name key val : ByteArray) (n : N) (l : List C) : (N × List C) × Int :=
 if okKey key && decide (val.size ≤ 400) then chV name (fun t => (Put key val t, 0)) n l else ((n, l), 34)
def deV (name key : ByteArray) (n : N) (l : List C) : (N × List C) × Int :=
 chV name (fun t => if (findN key t).isSome then (Del key t, 0) else (t, 33)) n l
end Go.Proofs.YtpcmnebpnpgcmaaGreatDoor
namespace Go.Proofs.YtpcmnebpnpgcmaaGreatDoor
open Aml Go
open Aml Go
open Aml Go
open Aml Go
open Aml Go
open Aml Go
end Go.Proofs.YtpcmnebpnpgcmaaGreatDoor
namespace Go.Proofs.YtpcmnebpnpgcmaaGreatDoor
open Aml Go
structure Sv where
 op : Int
 name : ByteArray
 key : ByteArray
 byte : Int
 size : Int
def vaS (s : Sv) : ByteArray := strOfNums (List.replicate s.size.toNat s.byte)
theorem by_rep (n : Nat) (x : Int) : okBy (List.replicate n (.v (.int .u8 x))) = true ∧ byD (List.replicate n (.v (.int .u8 x))) = List.replicate n x := by
 induction n with
 | zero => exact ⟨rfl, rfl⟩
 | succ n ih =>
  rw [List.replicate_succ, List.replicate_succ]
  exact ⟨ih.1, by show x :: byD _ = _; rw [ih.2]⟩
end Go.Proofs.YtpcmnebpnpgcmaaGreatDoor
namespace Go.Proofs.YtpcmnebpnpgcmaaGreatDoor
open Aml Go
end Go.Proofs.YtpcmnebpnpgcmaaGreatDoor
namespace Go.Proofs.YtpcmnebpnpgcmaaGreatDoor
open Aml Go
def stV (s : Sv) (q : N × List C) : (N × List C) × Int :=
 if s.op = 0 then mkV s.name q.1 q.2 else if s.op = 1 then drV s.name q.1 q.2 else if s.op = 2 then puV s.name s.key (vaS s) q.1 q.2 else if s.op = 3 then deV s.name s.key q.1 q.2 else (q, 0)
theorem st1 {s : Sv} {q : N × List C} (h : s.op = 1) : drV s.name q.1 q.2 = stV s q := by unfold stV; rw [if_neg (by omega), if_pos h]
theorem st2 {s : Sv} {q : N × List C} (h : s.op = 2) : puV s.name s.key (vaS s) q.1 q.2 = stV s q := by unfold stV; rw [if_neg (by omega), if_neg (by omega), if_pos h]
end Go.Proofs.YtpcmnebpnpgcmaaGreatDoor
namespace Go.Proofs.YtpcmnebpnpgcmaaGreatDoor
open Aml Go Go.RowKit Go.ChangeShapes
def gW (W : World) : Gh := ⟨fun b i => W.cell? ⟨b, i, none⟩, fun _ _ => none, fun _ => none⟩
theorem rel_startG (w0 : W0) (h : w0.gh.sub (gW w0.w)) : Rel w0 (gW w0.w) ⟨[], []⟩ w0.w :=
 ⟨⟨Bel.refl _ _, fun _ _ h => (by cases h), h⟩, fun _ _ _ h => h, by simp, by simp, fun _ _ _ h => (by cases h), ⟨0, fun _ _ _ => rfl⟩, fun _ _ h => (by cases h), fun _ => none, fun _ _ h => (by cases h), fun _ _ h => (by cases h)⟩
def Rd (P : Program) (W : World) (t : TypeId) {α : Type} (en : α → List DV) (sz : α → Nat) (ok : α → Prop) : Prop :=
 ∀ (H : Type) (enc : TypeId × Value → H) (n : Nat) (cs : List Value) (x : DataW H × List MemPlace), DataW.trod enc P W 0 (fun _ => true) true n t cs = some x →
  ∃ a, ok a ∧ sz a ≤ Rows.uptoBulk x.1 ∧ RepL (gW W) (en a) cs ∧ ∀ u, u ∈ cs → u.oneCell' = true
section
variable {P : Program} {W : World}
theorem Rd.conv {t : TypeId} {α β : Type} {en : α → List DV} {sz : α → Nat} {ok : α → Prop} {en' : β → List DV} {sz' : β → Nat} {ok' : β → Prop} (h : Rd P W t en sz ok) (f : α → β) (he : ∀ a, en a = en' (f a)) (hs : ∀ a, sz' (f a) ≤ sz a) (ho : ∀ a, ok a → ok' (f a)) : Rd P W t en' sz' ok' :=
 fun H enc n cs x hx => let ⟨a, h1, h2, h3, h4⟩ := h H enc n cs x hx; ⟨f a, ho a h1, Nat.le_trans (hs a) h2, by rw [← he]; exact h3, h4⟩
theorem rd_int {t : TypeId} (k : IntKind) (ht : P.underlying t = some (.int k)) : Rd P W t (fun n : Int => [.v (.int k n)]) (fun _ => 1) (fun n => (Lit.int k n).wf = true) := by
 intro H enc n cs x hx
 obtain ⟨m, rfl, rfl, hw⟩ := DataW.trod_int ht hx
 exact ⟨m, hw, by simp [Rows.uptoBulk], RepL.cons (.v _ rfl) (RepL.nil _), by simp [Value.oneCell']⟩
theorem rd_i64 {t : TypeId} (ht : P.underlying t = some (.int .i64)) : Rd P W t (fun n : Int => [dI n]) (fun _ => 1) (fun n => -9223372036854775808 ≤ n ∧ n ≤ 9223372036854775807) :=
 (rd_int .i64 ht).conv id (fun _ => rfl) (fun _ => Nat.le_refl _) fun _ h => bounds_i64 h
theorem rd_bool {t : TypeId} (ht : P.underlying t = some .bool) : Rd P W t (fun b : Bool => [dB b]) (fun _ => 1) (fun _ => True) := by
 intro H enc n cs x hx
 obtain ⟨m, rfl, rfl⟩ := DataW.trod_bool ht hx
 exact ⟨m, trivial, by simp [Rows.uptoBulk], RepL.cons (.v _ rfl) (RepL.nil _), by simp [Value.oneCell']⟩
theorem rd_str {t : TypeId} (ht : P.underlying t = some .string) : Rd P W t (fun s : ByteArray => [dS s]) (fun s => s.size + 1) (fun _ => True) := by
 intro H enc n cs x hx
 obtain ⟨s, rfl, rfl, hs⟩ := DataW.trod_string ht hx
 exact ⟨s, trivial, (show s.size + 1 ≤ s.data.toList.length + 1 by rw [Array.length_toList]; exact Nat.le_refl _), RepL.cons (.v _ rfl) (RepL.nil _), by simp [Value.oneCell']⟩
theorem pick_list {α : Type} {Q : Nat → α → Prop} : ∀ (n : Nat), (∀ i, i < n → ∃ a, Q i a) → ∃ l : List α, l.length = n ∧ ∀ (i : Nat) (a : α), l[i]? = some a → Q i a
 | 0, _ => ⟨[], rfl, by simp⟩
 | n + 1, h => by
  obtain ⟨l, h1, h2⟩ := pick_list n fun i hi => h i (by omega)
  obtain ⟨a, ha⟩ := h n (by omega)
  refine ⟨l ++ [a], by simp [h1], fun i b hb => ?_⟩
  by_cases hi : i < n
  ·rw [List.getElem?_append_left (by omega)] at hb; exact h2 i b hb
  ·have hlt : i < (l ++ [a]).length := (List.getElem?_eq_some_iff.1 hb).1
   have : i = n := by simp at hlt; omega
   subst this
   rw [List.getElem?_append_right (by omega), h1] at hb
   simp at hb; subst hb; exact ha
theorem bulk_sum {H α : Type} {sz : α → Nat} : ∀ {l : List α} {es : List (DataW H)}, l.length = es.length → (∀ (i : Nat) (a : α) (e : DataW H), l[i]? = some a → es[i]? = some e → sz a ≤ Rows.uptoBulk e) → (l.map sz).sum ≤ Rows.uptoBulkAll es
 | [], [], _, _ => by simp [Rows.uptoBulkAll]
 | [], _ :: _, h, _ => by simp at h
 | _ :: _, [], h, _ => by simp at h
 | a :: l, e :: es, h, hs => by
  have h1 := hs 0 a e rfl rfl
  have h2 := bulk_sum (l := l) (es := es) (by simpa using h) fun i a e x y => hs (i + 1) a e (by simpa using x) (by simpa using y)
  simp only [List.map_cons, List.sum_cons, Rows.uptoBulkAll]
  omega
theorem cells_read {a : Addr} {k : Nat} {cs : List Value} (h : W.cells? 0 a k = some cs) : cs.length = k ∧ ∀ j, j < k → W.cell? (a.add j) = cs[j]? := by
 unfold World.cells? at h
 rw [if_pos (Nat.zero_le _)] at h
 exact ⟨by simpa using mapM_some_length h, fun j hj => mapM_some_get h j j (by simp [hj])⟩
theorem rd_sliceG {t e : TypeId} {α : Type} {en : α → List DV} {sz : α → Nat} {ok : α → Prop} (h : Rd P W e en sz ok) (ht : P.underlying t = some (.slice e)) {k : Nat} (hk : P.cellsOf e = k) (hk0 : 0 < k) (enE : α → DV) (mk : List Value → Value)
  (hmk : ∀ a cs, RepL (gW W) (en a) cs → (∀ u, u ∈ cs → u.oneCell' = true) → cs.length = k → Rep (gW W) (enE a) (mk cs) ∧ (mk cs).cells.toList = cs) :
  Rd P W t (fun l : List α => [.sl k false (l.map enE)]) (fun l => (l.map sz).sum + 1) (fun l => ∀ a, a ∈ l → ok a) := by
 intro H enc n cs x hx
 rcases DataW.trod_slice ht hx with ⟨rfl, rfl⟩ | ⟨a, len, cap, elems, rest, n', rfl, rfl, rfl, -, hlc, hcm, hel, hget, -, -⟩
 ·exact ⟨[], by simp, by simp [Rows.uptoBulk], RepL.cons (.nil _ _ _ _ (by simp)) (RepL.nil _), by simp [Value.oneCell']⟩
 ·have hq : ∀ i, i < len → ∃ p : α × List Value, ok p.1 ∧ (∀ y, elems[i]? = some y → sz p.1 ≤ Rows.uptoBulk y.1) ∧ W.cells? 0 (a.add (i * k)) k = some p.2 ∧ RepL (gW W) (en p.1) p.2 ∧ ∀ u, u ∈ p.2 → u.oneCell' = true := by
   intro i hi
   have h1 := hget i hi
   rw [hk] at h1
   have h2 : elems[i]? = some elems[i] := List.getElem?_eq_getElem (by omega)
   rw [h2, Option.bind_eq_some_iff] at h1
   obtain ⟨ci, hc, htr⟩ := h1
   obtain ⟨b, b1, b2, b3, b4⟩ := h H enc n' ci _ htr
   exact ⟨(b, ci), b1, fun y hy => by rw [h2] at hy; cases hy; exact b2, hc, b3, b4⟩
  obtain ⟨ps, hpl, hps⟩ := pick_list len hq
  refine ⟨ps.map (·.1), fun b hb => ?_, ?_, ?_, by simp [Value.oneCell']⟩
  ·obtain ⟨p, hp, rfl⟩ := List.mem_map.1 hb
   obtain ⟨i, hi⟩ := List.getElem?_of_mem hp
   exact (hps i p hi).1
  ·have := bulk_sum (sz := sz) (l := ps.map (·.1)) (es := elems.map (·.1)) (by simp [hpl, hel]) fun i b e x y => by
    rw [List.getElem?_map, Option.map_eq_some_iff] at x y
    obtain ⟨p, hp, rfl⟩ := x
    obtain ⟨y, hy, rfl⟩ := y
    exact (hps i p hp).2.1 y hy
   simp only [Rows.uptoBulk]
   omega
  ·refine RepL.cons ?_ (RepL.nil _)
   by_cases h0 : len = 0
   ·subst h0
    have : ps = [] := List.eq_nil_of_length_eq_zero hpl
    subst this
    exact .nil _ _ _ _ (by simp)
   ·have hspot : a.spot = none := by
     obtain ⟨p, hp⟩ : ∃ p, ps[0]? = some p := ⟨_, List.getElem?_eq_getElem (by omega)⟩
     obtain ⟨hl, hc⟩ := cells_read (hps 0 p hp).2.2.1
     have := hc 0 (by omega)
     rw [List.getElem?_eq_getElem (by omega)] at this
     simp only [Nat.zero_mul, Addr.add, if_true] at this
     unfold World.cell? at this
     split at this
     ·split at this
      ·cases this
      ·rename_i hs; simpa using hs
     ·cases this
    obtain ⟨b, o, sp⟩ := a
    simp only at hspot
    subst hspot
    have hus : (ps.map fun p => mk p.2).length = len := by simp [hpl]
    have hmk' : ∀ (i : Nat) (p : α × List Value), ps[i]? = some p → Rep (gW W) (enE p.1) (mk p.2) ∧ (mk p.2).cells.toList = p.2 ∧ p.2.length = k := fun i p hp => by
     have hc := (cells_read (hps i p hp).2.2.1).1
     have := hmk p.1 p.2 (hps i p hp).2.2.2.1 (hps i p hp).2.2.2.2 hc
     exact ⟨this.1, this.2, hc⟩
    have := Rep.sl (g := gW W) k false ((ps.map (·.1)).map enE) b o cap (ps.map fun p => mk p.2) (by simp) (by simp) (by rw [hus]; exact hlc) hcm
     (fun i d u hd hu => by
      simp only [List.map_map, List.getElem?_map, Option.map_eq_some_iff] at hd hu
      obtain ⟨p, hp, rfl⟩ := hd
      obtain ⟨q, hq, rfl⟩ := hu
      rw [hp] at hq; cases hq
      exact (hmk' i p hp).1)
     (fun i u hu => by
      rw [List.getElem?_map, Option.map_eq_some_iff] at hu
      obtain ⟨p, hp, rfl⟩ := hu
      have := hmk' i p hp
      rw [← Array.length_toList, this.2.1, this.2.2])
     (fun u hu x hx => by
      obtain ⟨p, hp, rfl⟩ := List.mem_map.1 hu
      obtain ⟨i, hi⟩ := List.getElem?_of_mem hp
      rw [(hmk' i p hi).2.1] at hx
      exact (hps i p hi).2.2.2.2 x hx)
     (fun i u j x hu hx => by
      rw [List.getElem?_map, Option.map_eq_some_iff] at hu
      obtain ⟨p, hp, rfl⟩ := hu
      have hm := hmk' i p hp
      have hc := (cells_read (hps i p hp).2.2.1).2
      rw [← Array.getElem?_toList, hm.2.1] at hx
      have hj : j < k := by rw [← hm.2.2]; exact (List.getElem?_eq_some_iff.1 hx).1
      have := hc j hj
      rw [hx] at this
      show W.cell? ⟨b, o + i * k + j, none⟩ = some x
      have e : (Addr.add ⟨b, o, none⟩ (i * k)).add j = ⟨b, o + i * k + j, none⟩ := by
       unfold Addr.add
       split <;> split <;> simp_all
      rw [← e]; exact this)
    rw [hus] at this
    exact this
theorem rd_sliceA {t e : TypeId} {α : Type} {en : α → List DV} {sz : α → Nat} {ok : α → Prop} (h : Rd P W e en sz ok) (ht : P.underlying t = some (.slice e)) {k : Nat} (hk : P.cellsOf e = k) (hk0 : 0 < k) :
  Rd P W t (fun l : List α => [.sl k false (l.map fun a => .agg (en a))]) (fun l => (l.map sz).sum + 1) (fun l => ∀ a, a ∈ l → ok a) :=
 rd_sliceG h ht hk hk0 (fun a => .agg (en a)) (fun cs => .agg cs.toArray) fun a cs hr h1 hl => ⟨.agg _ _ hr.len hr.at_ h1, rfl⟩
def RdF (P : Program) (W : World) (total off : Nat) (fs : List Field) {α : Type} (en : α → List DV) (sz : α → Nat) (ok : α → Prop) : Prop :=
 ∀ (H : Type) (enc : TypeId × Value → H) (n : Nat) (cs : List Value) (xs : List (DataW H × List MemPlace)), cs.length = total → xs.length = fs.length →
  (∀ (i : Nat) (f : Field), fs[i]? = some f → DataW.trod enc P W 0 (fun _ => true) true n f.type ((cs.drop f.offset).take (P.cellsOf f.type)) = xs[i]?) →
  ∃ a, ok a ∧ sz a ≤ Rows.uptoBulkAll (xs.map (·.1)) ∧ RepL (gW W) (en a) (cs.drop off) ∧ ∀ u, u ∈ cs.drop off → u.oneCell' = true
theorem rdF_nil {total : Nat} : RdF P W total total [] (fun _ : Unit => []) (fun _ => 0) (fun _ => True) := by
 intro H enc n cs xs hc hx hg
 refine ⟨(), trivial, Nat.zero_le _, ?_, ?_⟩
 ·rw [List.drop_eq_nil_of_le (by omega)]; exact RepL.nil _
 ·rw [List.drop_eq_nil_of_le (by omega)]; simp
theorem rdF_cons {total off k : Nat} {f : Field} {fs : List Field} {α β : Type} {en : α → List DV} {sz : α → Nat} {ok : α → Prop} {en' : β → List DV} {sz' : β → Nat} {ok' : β → Prop} (h : Rd P W f.type en sz ok) (hf : f.offset = off) (hk : P.cellsOf f.type = k) (h' : RdF P W total (off + k) fs en' sz' ok') :
  RdF P W total off (f :: fs) (fun p : α × β => en p.1 ++ en' p.2) (fun p => sz p.1 + sz' p.2) (fun p => ok p.1 ∧ ok' p.2) := by
 intro H enc n cs xs hc hx hg
 cases xs with
 | nil => simp at hx
 | cons x xs =>
  have h0 := hg 0 f rfl
  rw [hf, hk] at h0
  obtain ⟨a, a1, a2, a3, a4⟩ := h H enc n _ x h0
  obtain ⟨b, b1, b2, b3, b4⟩ := h' H enc n cs xs hc (by simpa using hx) fun i f hf => by have := hg (i + 1) f (by simpa using hf); simpa using this
  have e : cs.drop off = (cs.drop off).take k ++ cs.drop (off + k) := by rw [← List.drop_drop, List.take_append_drop]
  refine ⟨(a, b), ⟨a1, b1⟩, ?_, ?_, ?_⟩
  ·simp only [List.map_cons, Rows.uptoBulkAll]; omega
  ·rw [e]; exact a3.append b3
  ·intro u hu
   rw [e, List.mem_append] at hu
   exact hu.elim (a4 u) (b4 u)
theorem rd_struct {t : TypeId} {fs : Array Field} {α : Type} {en : α → List DV} {sz : α → Nat} {ok : α → Prop} (ht : P.underlying t = some (.struct fs)) {total : Nat} (hc : P.cellsOf t = total) {fl : List Field} (hfl : fs.toList = fl) (h : RdF P W total 0 fl en sz ok) :
  Rd P W t en (fun a => sz a + 1) ok := by
 intro H enc n cs x hx
 subst hfl
 obtain ⟨xs, n', rfl, rfl, h1, h2, h3⟩ := DataW.trod_struct ht hx
 obtain ⟨a, a1, a2, a3, a4⟩ := h H enc n' cs xs (by rw [h1, hc]) (by simpa using h2) fun i f hf => h3 i f (by simpa using hf)
 exact ⟨a, a1, by simp only [Rows.uptoBulk]; omega, by simpa using a3, by simpa using a4⟩
def RdA (P : Program) (W : World) (ts : List TypeId) {α : Type} (en : α → List DV) (sz : α → Nat) (ok : α → Prop) : Prop :=
 ∀ (H : Type) (enc : TypeId × Value → H) (base : Nat) (vs : List Value) (ds : List (DataW H)) (p : List MemPlace), (∀ (j : Nat) t v, ts[j]? = some t → vs[j]? = some v → Value.okWide P W .any base t v) → DataW.TrodAll enc P W 0 (fun _ => true) true ts vs ds p →
  ∃ a, ok a ∧ sz a ≤ Rows.uptoBulkAll ds ∧ RepL (gW W) (en a) vs
theorem rdA_nil : RdA P W [] (fun _ : Unit => []) (fun _ => 0) (fun _ => True) := by
 intro H enc base vs ds p hv h
 obtain ⟨rfl, rfl, rfl⟩ := trodAll_nil h
 exact ⟨(), trivial, Nat.zero_le _, RepL.nil _⟩
def oneT (P : Program) (t : TypeId) : Bool := match P.underlying t with
 | some .bool | some .string | some (.int _) | some (.slice _) => true
 | _ => false
theorem okWide_one {t : TypeId} (ht : oneT P t = true) {base : Nat} {v : Value} (h : Value.okWide P W .any base t v) : v.cells = #[v] ∧ v.oneCell' = true := by
 unfold oneT at ht
 unfold Value.okWide Cell.okWide Cell.ok at h
 split at ht
 ·rename_i hu; rw [hu] at h; cases v <;> simp_all [Value.cells, Value.oneCell']
 ·rename_i hu; rw [hu] at h; cases v <;> simp_all [Value.cells, Value.oneCell']
 ·rename_i hu; rw [hu] at h; cases v <;> simp_all [Value.cells, Value.oneCell']
 ·rename_i hu; rw [hu] at h; cases v <;> simp_all [Value.cells, Value.oneCell']
 ·cases ht
theorem rdA_one {t : TypeId} {ts : List TypeId} {α β : Type} {en : α → DV} {sz : α → Nat} {ok : α → Prop} {en' : β → List DV} {sz' : β → Nat} {ok' : β → Prop} (h : Rd P W t (fun a => [en a]) sz ok) (ht : oneT P t = true) (h' : RdA P W ts en' sz' ok') :
  RdA P W (t :: ts) (fun p : α × β => en p.1 :: en' p.2) (fun p => sz p.1 + sz' p.2) (fun p => ok p.1 ∧ ok' p.2) := by
 intro H enc base vs ds p hv hA
 obtain ⟨v, vs', d, ds', p1, q1, rfl, rfl, rfl, h1, h2⟩ := trodAll_cons hA
 obtain ⟨b, b1, b2, b3⟩ := h' H enc base vs' ds' q1 (fun j t v x y => hv (j + 1) t v (by simpa using x) (by simpa using y)) h2
 obtain ⟨n, hn⟩ := h1
 obtain ⟨a, a1, a2, a3, a4⟩ := h H enc n _ _ hn
 obtain ⟨hc, ho⟩ := okWide_one ht (hv 0 t v rfl rfl)
 rw [hc] at a3
 refine ⟨(a, b), ⟨a1, b1⟩, by simp only [Rows.uptoBulkAll]; simp only at a2; omega, RepL.cons ?_ b3⟩
 obtain ⟨u, us, he, r1, r2⟩ := a3.uncons
 simp only [List.cons.injEq] at he
 rw [he.1]; exact r1
theorem trodAll_stays {H : Type} {enc : TypeId × Value → H} (hl : laidOutB P = true) {W' : World} (hb : Below W.heap.size W W') {sp : Nat → Bool} : ∀ {ts : List TypeId} {vs : List Value} {ds : List (DataW H)} {ps : List MemPlace}, (∀ t, t ∈ ts → P.readableRec t = true ∧ t < P.types.size) →
  DataW.TrodAll enc P W 0 (fun _ => true) true ts vs ds ps → (∀ p, p ∈ ps → p.block < W.heap.size ∧ sp p.block = true) → DataW.TrodAll enc P W' 0 sp true ts vs ds ps
 | [], vs, ds, ps, _, h, _ => by
  obtain ⟨rfl, rfl, rfl⟩ := trodAll_nil h
  exact rfl
 | t :: ts, vs, ds, ps, ht, h, hp => by
  obtain ⟨v, vs', d, ds', p1, q1, rfl, rfl, rfl, h1, h2⟩ := trodAll_cons h
  exact ⟨p1, q1, WideElems.Trod_stays hl (ht t List.mem_cons_self).1 (ht t List.mem_cons_self).2 h1 (fun x hx => hb.same (hp x (List.mem_append_left _ hx)).1) (fun x hx => (hp x (List.mem_append_left _ hx)).2),
   trodAll_stays hl hb (fun t' ht' => ht t' (List.mem_cons_of_mem _ ht')) h2 fun x hx => hp x (List.mem_append_right _ hx), rfl⟩
theorem law_contractG {w0 : W0} (hw0 : w0.w = W) (hg0 : w0.gh.sub (gW W)) {H : Type} (enc : TypeId × Value → H) {f : FuncId} {fn : Func} {s : ChangeSpec} {ts : List TypeId} {α : Type} {en : α → List DV} {sz : α → Nat} {ok : α → Prop} {tb : TypeId} (hr : RdA P W ts en sz ok) (hts : fn.params = ts.toArray) (hres : fn.resultTypes = #[tb]) (htb : P.underlying tb = some .bool) (hvars : s.vars = [])
  (hl : laidOutB P = true) (hT : ∀ t, t ∈ ts → P.readableRec t = true ∧ t < P.types.size) (hspec : ∀ ds : List (DataW H), ds.length = ts.length → s.fn H ds = { results := [.lit (.bool true)], args := ds })
  (hcall : ∀ a, ok a → sz a ≤ 1048576 → ACall P w0 f (en a) ⟨[], []⟩ fun d _ => d = dB true)
  (base : Nat) (args : Array Value) (ds gs : List (DataW H)) (before : List MemPlace) (hval : ∀ (j : Nat) t v, fn.params[j]? = some t → args[j]? = some v → Value.okWide P W .any base t v)
  (hW : DataW.Whole enc P fn.params.toList s.vars false W args.toList ds gs before) (hk : Rows.uptoBulkAll (ds ++ gs) ≤ 1048576) :
  Calls P f args W fun e W' => ∃ v, e = .returned v ∧ s.post enc P fn false true false false W args v W' := by
 have hW' := hW
 obtain ⟨p, q, hA, hV, rfl, hfz, hnd⟩ := hW
 rw [hvars] at hV
 have hgs : gs = [] ∧ q = [] := by
  cases gs with
  | nil => exact ⟨rfl, hV⟩
  | cons g gs => exact hV.elim
 obtain ⟨rfl, rfl⟩ := hgs
 rw [hts] at hA
 simp only [List.append_nil] at hk
 obtain ⟨a, a1, a2, a3⟩ := hr H enc base args.toList ds p (fun j t v x y => hval j t v (by rw [hts]; simpa using x) (by simpa using y)) (by simpa using hA)
 have hc := hcall a a1 (Nat.le_trans a2 hk) (gW W) args W (by have := rel_startG w0 (by rw [hw0]; exact hg0); rw [hw0] at this; exact this) a3
 refine hc.mono ?_
 rintro e W' ⟨r, g', d, S', rfl, hle, hR, hd, rfl⟩
 have hb := hR.below.base.below
 unfold W0.heap at hb
 rw [hw0] at hb
 have hrv : r = .bool true := rep_bool hd
 subst hrv
 have hlen : ds.length = ts.length := by
  have : ∀ {ts : List TypeId} {vs : List Value} {ds : List (DataW H)} {ps : List MemPlace}, DataW.TrodAll enc P W 0 (fun _ => true) true ts vs ds ps → ds.length = ts.length := by
   intro ts
   induction ts with
   | nil => intro vs ds ps h; obtain ⟨rfl, rfl, rfl⟩ := trodAll_nil h; rfl
   | cons t ts ih =>
    intro vs ds ps h
    obtain ⟨v, vs', d, ds', p1, q1, rfl, rfl, rfl, h1, h2⟩ := trodAll_cons h
    simp [ih h2]
  exact this (by simpa using hA)
 have hsp := hspec ds hlen
 have hold : ∀ x, x ∈ p → x.block < W.heap.size := fun x hx => hW'.lt x (by simpa using hx)
 have hres' : ∀ (b : Nat) (sp : Nat → Bool) (hd : Bool), DataW.TrodAll enc P W' b sp hd fn.resultTypes.toList ((Value.bool true).resultList fn.resultTypes.size) (s.fn H (ds ++ [])).results [] := by
  intro b sp hd
  rw [List.append_nil, hsp, hres]
  exact trodAll_cons_mk (shut_bool htb _) trodAll_mk0
 have hargs' : ∀ sp : Nat → Bool, (∀ x, x ∈ p → sp x.block = true) → DataW.TrodAll enc P W' 0 sp true fn.params.toList args.toList (s.fn H (ds ++ [])).args p := by
  intro sp hs
  rw [List.append_nil, hsp, hts]
  exact trodAll_stays hl hb hT (by simpa using hA) fun x hx => ⟨hold x hx, hs x hx⟩
 have hvars' : ∀ sp : Nat → Bool, DataW.TrodVars enc P W' sp s.vars (s.fn H (ds ++ [])).vars [] := by
  intro sp
  rw [List.append_nil, hsp, hvars]
  exact rfl
 refine ⟨.bool true, rfl, ds, [], p ++ [], [], p, [], hW', hres' _ _ _, hargs' _ (fun x hx => by simpa using hold x hx), hvars' _, World.keptBut_mono (fun x hx => ⟨hx, .inr (by simpa using hx)⟩) (hb.frame _), fun _ => ?_⟩
 refine ⟨?_, _, _, ([] ++ p) ++ [], ⟨[] ++ p, [], trodAll_append (hargs' _ (fun _ _ => rfl)) (hres' _ _ _), hvars' _, rfl, ?_, ?_⟩, ?_⟩
 ·exact ok_one hres rfl (okWide_bool_mk htb _)
 ·intro b off hp
  have hp : MemPlace.cell b off ∈ p := by simpa using hp
  rw [hb.frozen (hold _ hp)]
  exact hfz b off (by simpa using hp)
 ·intro ha; cases ha
 ·intro x hx _
  simpa using hx
end
end Go.Proofs.YtpcmnebpnpgcmaaGreatDoor
namespace Go.Proofs.YtpcmnebpnpgcmaaGreatDoor
open Aml Go Go.RowKit Go.ChangeShapes
open Aml Go
end Go.Proofs.YtpcmnebpnpgcmaaGreatDoor
namespace Go.Proofs.YtpcmnebpnpgcmaaGreatDoor
open Aml Go Go.RowKit Go.ChangeShapes
def bareC (c : C) : C := .mk c.key c.data [] []
def entsN (n : N) : List C := (enN n).map bareC
def entC (b : Bool) (c : C) : List C := (enC b c).map bareC
theorem entsN_eq (n : N) : entsN n = n.l.flatMap (entC n.leaf) := by unfold entsN; rw [enN_eq, List.map_flatMap]; rfl
theorem entC_br {c : C} {k : N} (h : c.kid = [k]) : entC false c = entsN k := by unfold entC; rw [enC_br h]; rfl
theorem en_le : ∀ {d : Nat} {n : N}, Nd d n → (enN n).length ≤ totN n
 | 0, n, h => by rw [en_leaf h.1]; exact tot_len n
 | d + 1, n, h => by
  rw [enN_eq, h.1, totN_tot]
  have : ∀ l : List C, (∀ c, c ∈ l → c ∈ n.l) → (l.flatMap (enC false)).length ≤ tot l := by
   intro l
   induction l with
   | nil => intro _; exact Nat.zero_le _
   | cons c l ih =>
    intro hl
    obtain ⟨_, k, hk, hnd⟩ := h.2.2 c (hl c List.mem_cons_self)
    have h1 := ih fun c hc => hl c (List.mem_cons_of_mem _ hc)
    have h2 := en_le hnd
    rw [List.flatMap_cons, List.length_append, tot_cons, totC_kid hk, enC_br hk]; omega
  exact this n.l fun _ h => h
theorem entT_le (b : Bool) (l : List C) (k : Nat) : ((l.take k).flatMap (entC b)).length ≤ (l.flatMap (entC b)).length := by
 have := congrArg (List.flatMap (entC b)) (List.take_append_drop k l)
 have := congrArg List.length this
 simp only [List.flatMap_append, List.length_append] at this
 omega
theorem entT_succ {b : Bool} {l : List C} {k : Nat} {c : C} (h : l[k]? = some c) : (l.take (k + 1)).flatMap (entC b) = (l.take k).flatMap (entC b) ++ entC b c := by
 rw [List.take_add_one, h]; simp
@[go_sem] def nilC (c : C) : DV := .agg [dS c.key, dS c.data, .sl 0 true [], .sl 0 true []]
theorem wk_nilC (c : C) : Wk (nilC c) (dC (bareC c)) := by
 rw [dC_eq]
 exact .agg (.cons (.refl _) (.cons (.refl _) (.cons (.nil _ _ _) (.cons (.nil _ _ _) .nil))))
theorem entriesW (w0 : W0) : ∀ (d : Nat) (n : N) (S : St), Nd d n → totN n ≤ 131072 → ACall Tryz.prog w0 17 [eN n] S (fun e S' => e = .sl 4 false ((entsN n).map dC) ∧ S' = S) := by
 intro d
 induction d with
 | zero =>
  intro n S hn ht
  have hlf := hn.1
  have hl := tot_len n
  have hm8 : maxLen = 9223372036854775807 := rfl
  refine fnS [2] mx Tryz.func17 rfl rfl (by kernel_rfl) ?_; (refine @goW _ ?_; refine goS2 @Tryz.ntmps17 @hlf ?_)
  intro b
  refine growK 3 4 rfl (by omega) fun lp => ?_
  refine shrK [] [] mx (by kernel_rfl) ?_
  (refine @goW _ ?_; refine goS ?_)
  refine loopN [] n.l.length [1, 3, 4] (fun k => [(3, .acc lp.n k), (4, dI k)]) (fun k => ⟨(b.n, [dI n.page, dB true, .sl 4 false (n.l.map dC)]) :: S.box, (lp.n, .arr 4 ((n.l.take k).map nilC)) :: S.acc⟩) (fun _ => True) mx (by kernel_rfl) ?_ ?_
  ·(refine @goW _ ?_; exact goT)
  ·intro k hk _
   have hml : (n.l.take k).length = k := by rw [List.length_take]; omega
   (refine @goW _ ?_; refine goS1 @hml ?_)
   refine ⟨fun hlt => ⟨hlt, fun c hc => ⟨hlt, fun c2 hc2 => ?_⟩⟩, fun hge => ?_⟩
   ·rw [hc] at hc2
    cases hc2
    have ht1 : n.l.take (k + 1) = n.l.take k ++ [c] := by rw [List.take_add_one, hc]; rfl
    refine ⟨by omega, by omega, hlt, by rw [w64 (by omega) (by omega)]; omega, ?_⟩
    rw [ht1, List.map_append]; exact .refl _
   ·rw [List.take_of_length_le (by omega)]
    have he : (entsN n).map dC = n.l.map fun c => dC (bareC c) := by unfold entsN; rw [en_leaf hlf, List.map_map]; rfl
    rw [he]
    exact (Wk.sl (WkL.map wk_nilC n.l))
 | succ d ih =>
  intro n S hn ht
  have hlf := hn.1
  have hl := tot_len n
  have hq := entsN_eq n
  have hle := en_le hn
  have hel : (entsN n).length = (enN n).length := by unfold entsN; rw [List.length_map]
  rw [hlf] at hq
  have hm8 : maxLen = 9223372036854775807 := rfl
  refine fnS [2] mx Tryz.func17 rfl rfl (by kernel_rfl) ?_; (refine @goW _ ?_; refine goS2 @Tryz.ntmps17 @hlf ?_)
  intro b
  refine growK 3 4 rfl (by omega) fun lp => ?_
  refine shrK [] [] mx (by kernel_rfl) ?_
  (refine @goW _ ?_; refine goS ?_)
  refine loopN [] n.l.length [1, 3, 4] (fun k => [(3, .acc lp.n ((n.l.take k).flatMap (entC false)).length), (4, dI k)]) (fun k => ⟨(b.n, [dI n.page, dB false, .sl 4 false (n.l.map dC)]) :: S.box, (lp.n, .arr 4 (((n.l.take k).flatMap (entC false)).map dC)) :: S.acc⟩) (fun _ => True) mx (by kernel_rfl) ?_ ?_
  ·(refine @goW _ ?_; refine goS ?_)
   exact ⟨.refl _, .refl _⟩
  ·intro k hk _
   have h1 := entT_le false n.l k
   have h2 := entT_le false n.l (k + 1)
   rw [← hq] at h1 h2
   (refine @goW _ ?_; refine goS ?_)
   refine ⟨fun hlt => ⟨hlt, fun c hc => ?_⟩, fun hge => ?_⟩
   ·obtain ⟨hs, kid, hkid, hnd⟩ := hn.2.2 c (List.mem_of_getElem? hc)
    have htk := tot_kid (List.mem_of_getElem? hc) hkid
    have hkl : ((n.l.take (k + 1)).flatMap (entC false)) = (n.l.take k).flatMap (entC false) ++ entsN kid := by rw [entT_succ hc, entC_br hkid]
    have hkn := congrArg List.length hkl
    rw [List.length_append] at hkn
    rw [hkid]
    refine ⟨by simp, fun kid2 hkid2 => ?_⟩
    cases hkid2
    refine use1 (ih kid _ hnd (by omega)) ?_
    (refine @goW _ ?_; refine goS ?_)
    refine ⟨by omega, by omega, hlt, ⟨.eq (by rw [hkn]), by rw [w64 (by omega) (by omega)]; omega⟩, ?_⟩
    rw [hkl, List.map_append]
    exact .refl _
   ·rw [List.take_of_length_le (by omega), hq]
    exact .refl _
end Go.Proofs.YtpcmnebpnpgcmaaGreatDoor
namespace Go.Proofs.YtpcmnebpnpgcmaaGreatDoor
open Aml Go
def PZ (n : N) : Prop := n.l = [] → n.page = 0
theorem pz_em : PZ emN := fun _ => rfl
theorem pz_put {key val : ByteArray} {n : N} (h : RootG n) (h0 : key ≠ noS) (h1 : key.size ≤ 16) (h2 : val.size ≤ 400) : PZ (Put key val n) := fun e => by
 have := (root_put (val := val) h0 h1 h2 h).2
 rw [enN_eq, e, List.flatMap_nil] at this
 have := congrArg List.length this
 unfold insE at this
 simp at this
theorem pz_del {key : ByteArray} {n : N} (h : RootG n) (hz : PZ n) : PZ (Del key n) := fun e => by
 cases hf : (findN key n).isSome with
 | true => rw [del_empty h hf e]; rfl
 | false =>
  have : Del key n = n := by unfold Del; rw [if_neg (by rw [hf]; simp)]
  rw [this] at e ⊢
  exact hz e
theorem rise_at {l : List C} (h : Rise l) {i j : Nat} {a b : C} (hij : i < j) (ha : l[i]? = some a) (hb : l[j]? = some b) : ltS a.key b.key = true := by
 obtain ⟨h1, rfl⟩ := List.getElem?_eq_some_iff.1 ha
 obtain ⟨h2, rfl⟩ := List.getElem?_eq_some_iff.1 hb
 exact List.pairwise_iff_getElem.1 h i j h1 h2 hij
def okV (c : C) : Prop := c.data.size ≤ 400 ∧ (c.pages ≠ [] → 16 < c.data.size)
theorem badV (w0 : W0) (c : C) (S : St) (h : okV c) : ACall Tryz.prog w0 150 [dV2 c] S (fun d S' => d = dB false ∧ S' = S) := by
 obtain ⟨h1, h2⟩ := h
 refine fnS [] mx Tryz.func150 rfl rfl (by kernel_rfl) ?_; (refine @goW _ ?_; refine goS1 @Tryz.ntmps150 ?_)
 intro b
 refine ⟨fun h3 => absurd h3 (by omega), fun _ h3 => use1 (needP w0 _ _) ?_⟩
 ·(refine @goW _ ?_; refine goS ?_)
  have : c.pages ≠ [] := fun e => by rw [e] at h3; simp at h3
  have := h2 this
  unfold need
  rw [if_pos (by omega)]
  omega
theorem idxV (w0 : W0) (l : List C) (S : St) (h : ∀ c, c ∈ l → okV c) (hl : l.length ≤ 1048576) : ACall Tryz.prog w0 157 [.sl 2 false (l.map dV2), .v (.func (.func 150) #[] #[])] S (fun d S' => d = dI (-1) ∧ S' = S) := by
 refine fnS [] mx Tryz.func157 rfl rfl (by kernel_rfl) ?_; (refine @goW _ ?_; refine goS1 @Tryz.ntmps157 ?_)
 refine loopN [] l.length [0, 1, 7, 8] (fun k => [(8, dI k)]) (fun _ => S) (fun _ => True) mx (by kernel_rfl) ?_ ?_
 ·(refine @goW _ ?_; exact goT)
 ·intro k hk _
  (refine @goW _ ?_; refine goS ?_)
  refine fun hlt => ⟨hlt, fun c hc => use1 (badV w0 c _ (h c (List.mem_of_getElem? hc))) ?_⟩
  (refine @goW _ ?_; refine goS ?_)
  exact ⟨hlt, i_oneV k (by omega)⟩
theorem anyV (w0 : W0) (l : List C) (S : St) (h : ∀ c, c ∈ l → okV c) (hl : l.length ≤ 1048576) : ACall Tryz.prog w0 149 [.sl 2 false (l.map dV2), .v (.func (.func 150) #[] #[])] S (fun d S' => d = dB false ∧ S' = S) := by
 refine fnS [] mx Tryz.func149 rfl rfl (by kernel_rfl) ?_; (refine @goW _ ?_; refine goS1 @Tryz.ntmps149 ?_)
 refine use1 (idxV w0 l _ h hl) ?_
 (refine @goW _ ?_; refine goS ?_)
 omega
structure FitK (b : Bool) (l : List C) (lo hi : ByteArray) : Prop where
 rise : Rise l
 size : ∀ c, c ∈ l → c.key.size ≤ 16
 first : ∀ (i : Nat) c, l[i]? = some c → (c.key = noS ↔ i = 0 ∧ b = false)
 low : ∀ (i : Nat) c, l[i]? = some c → ¬ (i = 0 ∧ b = false) → leS lo c.key = true
 high : hi ≠ noS → ∀ c, c ∈ l → ltS c.key hi = true
theorem noS_ge {a : ByteArray} (h : ltS a noS = true) : False := by
 have := leS_iff.1 (noS_le a)
 rw [h] at this; cases this
theorem fitK_good : ∀ {d : Nat} {n : N} {lo hi : ByteArray}, Good d n → (∀ x, x ∈ enN n → leS lo x.key = true) → (hi ≠ noS → ∀ x, x ∈ enN n → ltS x.key hi = true) → FitK n.leaf n.l lo hi
 | 0, n, lo, hi, h, h1, h2 => by
  rw [h.1]
  rw [en_leaf h.1] at h1 h2
  exact ⟨h.2.1, fun c hc => (h.2.2 c hc).2.1, fun i c hc => ⟨fun e => absurd e (h.2.2 c (List.mem_of_getElem? hc)).1, fun e => by cases e.2⟩, fun i c hc _ => h1 c (List.mem_of_getElem? hc), fun e c hc => h2 e c hc⟩
 | d + 1, n, lo, hi, h, h1, h2 => by
  obtain ⟨hl, hne, hB⟩ := h
  rw [hl]
  have hr : Rise n.l := hB.pw.imp fun h => h.1
  have hin : ∀ c, c ∈ n.l → ∀ x, x ∈ enC false c → x ∈ enN n := fun c hc x hx => by rw [enN_eq, hl]; exact List.mem_flatMap.2 ⟨c, hc, hx⟩
  have hlt : ∀ (i : Nat) c, n.l[i]? = some c → 0 < i → ∃ x, x ∈ enN n ∧ ltS x.key c.key = true := fun i c hc hi => by
   obtain ⟨j, rfl⟩ : ∃ j, i = j + 1 := ⟨i - 1, by omega⟩
   obtain ⟨hi2, rfl⟩ := List.getElem?_eq_some_iff.1 hc
   have hj : n.l[j]? = some n.l[j] := List.getElem?_eq_getElem (by omega)
   obtain ⟨x, hx⟩ := cell_ne (hB.cell _ (List.mem_of_getElem? hj))
   exact ⟨x, hin _ (List.mem_of_getElem? hj) x hx, (List.pairwise_iff_getElem.1 hB.pw j (j + 1) (by omega) hi2 (by omega)).2 x hx⟩
  refine ⟨hr, fun c hc => (hB.cell c hc).1.1, fun i c hc => ⟨fun e => ⟨?_, rfl⟩, fun e => ?_⟩, fun i c hc hi => ?_, fun e c hc => ?_⟩
  ·refine Nat.eq_zero_of_not_pos fun hp => ?_
   obtain ⟨x, _, hx⟩ := hlt i c hc hp
   rw [e] at hx
   exact noS_ge hx
  ·have := hB.k0
   rw [e.1] at hc
   cases hx : n.l with
   | nil => rw [hx] at hc; cases hc
   | cons a l => rw [hx] at hc this; cases hc; exact this
  ·obtain ⟨x, hx, hxc⟩ := hlt i c hc (Nat.pos_of_ne_zero fun e => hi ⟨e, rfl⟩)
   exact ltS_le (leS_lt (h1 x hx) hxc)
  ·have hcG := hB.cell c hc
   obtain ⟨x, hx⟩ := cell_ne hcG
   exact leS_lt (hcG.2.1 x hx) (h2 e x (hin c hc x hx))
theorem okV_good {n : N} (h : Good 0 n) : ∀ c, c ∈ n.l → okV c := fun c hc => by
 obtain ⟨_, _, h3, h4, _⟩ := h.2.2 c hc
 exact ⟨h3, h4⟩
theorem fitsL (w0 : W0) (n : N) (lo hi : ByteArray) (S : St) (hlf : n.leaf = true) (hk : FitK true n.l lo hi) (hv : ∀ c, c ∈ n.l → okV c) (hl : n.l.length ≤ 1048576) : ACall Tryz.prog w0 117 [eT n, .agg [dS lo, dS hi]] S (fun d S' => d = dB true ∧ S' = S) := by
 have hany := fun S => anyV w0 n.l S hv hl
 rw [eT_leaf hlf]
 refine fnS [6] mx Tryz.func117 rfl rfl (by kernel_rfl) ?_; (refine @goW _ ?_; refine goS1 @Tryz.ntmps117 ?_)
 intro b b1
 refine ⟨fun h => absurd h (by omega), fun _ => ?_⟩
 refine loopN [6] n.l.length [2, 3, 46, 47, 48] (fun k => [(48, dI k)]) (fun k => ⟨(b1.n, [dS lo, dS hi]) :: (b.n, [dI n.page, dB true, .sl 1 false (n.l.map fun c => dS c.key), .sl 2 false (n.l.map dV2), .sl 5 false []]) :: S.box, S.acc⟩) (fun _ => True) mx (by kernel_rfl) ?_ ?_
 ·(refine @goW _ ?_; exact goT)
 ·intro k hk' _
  (refine @goW _ ?_; refine goS ?_)
  refine ⟨fun hlt => ⟨hlt, fun a ha => ?_⟩, fun _ => use1 (hany _) ?_⟩
  ·have hm := List.mem_of_getElem? ha
   have f1 : eqS a.key { data := #[] } = false := eqS_no.2 fun e => (by have := ((hk.first k a ha).1 e).2; cases this)
   have f3 : ltS a.key lo = false := leS_iff.1 (hk.low k a ha fun e => by cases e.2)
   have f2 : ((a.key.size : Int) > 16) = False := eq_false (by have := hk.size a hm; omega)
   have f4 : eqS hi { data := #[] } = false → ltS a.key hi = true := fun e => hk.high (eqS_no.1 e) a hm
   have f5 := i_oneV k (by omega)
   have f4' : eqS hi { data := #[] } = false → ltS a.key hi = false → False := fun e h => by rw [f4 e] at h; cases h
   rcases Nat.eq_zero_or_pos k with h0 | h0
   ·have z1 : ((k : Int) = 0) = True := eq_true (by omega)
    have z2 : ((k : Int) > 0) = False := eq_false (by omega)
    refine rawK [] mx (by kernel_rfl) ?_
    (refine @goW _ ?_; refine goS7 @f1 @f2 @f3 @f5 @z1 @z2 @hlt ?_)
    exact f4'
   ·skip
    have z1 : ((k : Int) = 0) = False := eq_false (by omega)
    have z2 : ((k : Int) > 0) = True := eq_true (by omega)
    have z3 : IntKind.i64.wrap ((k : Int) - 1) = ((k - 1 : Nat) : Int) := by rw [w64 (by omega) (by omega)]; omega
    have z4 : ∀ c, n.l[k - 1]? = some c → leS a.key c.key = false := fun c hc => leS_no.2 (rise_at hk.rise (i := k - 1) (j := k) (by omega) hc ha)
    have z5 : ∀ c, n.l[k - 1]? = some c → leS a.key c.key = true → False := fun c hc h => by rw [z4 c hc] at h; cases h
    refine rawK [] mx (by kernel_rfl) ?_
    (refine @goW _ ?_; refine goS8 @f1 @f2 @f3 @f5 @z1 @z2 @z3 @hlt ?_)
    exact ⟨by omega, fun c hc => ⟨z5 c hc, fun _ => f4'⟩⟩
  ·(refine @goW _ ?_; exact goT)
theorem fitsB (w0 : W0) (n : N) (lo hi : ByteArray) (S : St) (hlf : n.leaf = false) (hk : FitK false n.l lo hi) (hone : ∀ c, c ∈ n.l → ∃ k, c.kid = [k]) (hl : n.l.length ≤ 1048576) : ACall Tryz.prog w0 117 [eT n, .agg [dS lo, dS hi]] S (fun d S' => d = dB true ∧ S' = S) := by
 have hany := fun S => anyV w0 [] S (fun c hc => by cases hc) (by simp)
 rw [eT_br hlf hone]
 unfold brT
 have hdk := dK_len n.l
 generalize dK n.l = K at *
 refine fnS [6] mx Tryz.func117 rfl rfl (by kernel_rfl) ?_; (refine @goW _ ?_; refine goS2 @Tryz.ntmps117 @hdk ?_)
 intro b b1
 refine ⟨fun h => absurd h (by omega), fun _ => ?_⟩
 refine loopN [6] n.l.length [2, 3, 46, 47, 48] (fun k => [(48, dI k)]) (fun k => ⟨(b1.n, [dS lo, dS hi]) :: (b.n, [dI n.page, dB false, .sl 1 false (n.l.map fun c => dS c.key), .sl 2 false [], .sl 5 false K]) :: S.box, S.acc⟩) (fun _ => True) mx (by kernel_rfl) ?_ ?_
 ·(refine @goW _ ?_; exact goT)
 ·intro k hk' _
  (refine @goW _ ?_; refine goS ?_)
  refine ⟨fun hlt => ⟨hlt, fun a ha => ?_⟩, fun _ => use1 (hany _) ?_⟩
  ·have hm := List.mem_of_getElem? ha
   have f2 : ((a.key.size : Int) > 16) = False := eq_false (by have := hk.size a hm; omega)
   have f4 : eqS hi { data := #[] } = false → ltS a.key hi = true := fun e => hk.high (eqS_no.1 e) a hm
   have f5 := i_oneV k (by omega)
   have f4' : eqS hi { data := #[] } = false → ltS a.key hi = false → False := fun e h => by rw [f4 e] at h; cases h
   rcases Nat.eq_zero_or_pos k with h0 | h0
   ·have z1 : ((k : Int) = 0) = True := eq_true (by omega)
    have z2 : ((k : Int) > 0) = False := eq_false (by omega)
    have f1 : eqS a.key { data := #[] } = true := eqS_iff.2 ((hk.first k a ha).2 ⟨h0, rfl⟩)
    refine rawK [] mx (by kernel_rfl) ?_
    (refine @goW _ ?_; refine goS6 @f1 @f2 @f5 @z1 @z2 @hlt ?_)
    exact f4'
   ·have f1 : eqS a.key { data := #[] } = false := eqS_no.2 fun e => absurd ((hk.first k a ha).1 e).1 (by omega)
    have f3 : ltS a.key lo = false := leS_iff.1 (hk.low k a ha fun e => absurd e.1 (by omega))
    have z1 : ((k : Int) = 0) = False := eq_false (by omega)
    have z2 : ((k : Int) > 0) = True := eq_true (by omega)
    have z3 : IntKind.i64.wrap ((k : Int) - 1) = ((k - 1 : Nat) : Int) := by rw [w64 (by omega) (by omega)]; omega
    have z4 : ∀ c, n.l[k - 1]? = some c → leS a.key c.key = false := fun c hc => leS_no.2 (rise_at hk.rise (i := k - 1) (j := k) (by omega) hc ha)
    have z5 : ∀ c, n.l[k - 1]? = some c → leS a.key c.key = true → False := fun c hc h => by rw [z4 c hc] at h; cases h
    refine rawK [] mx (by kernel_rfl) ?_
    (refine @goW _ ?_; refine goS8 @f1 @f2 @f3 @f5 @z1 @z2 @z3 @hlt ?_)
    exact ⟨by omega, fun c hc => ⟨z5 c hc, fun _ => f4'⟩⟩
  ·(refine @goW _ ?_; exact goT)
def pageS (b : Bool) (l : List C) : ByteArray := packS (if b then 1 else 2) ((l.map (entE b)).map (cellS b))
mutual
def layN : N → LS → N × LS
 | .mk p b l, q => if p ≠ 0 ∨ (b = true ∧ l = []) then (.mk p b l, q) else
  let r := layCs b l q
  (.mk (r.2.1.headD 0) b r.1, (r.2.1.tail, r.2.2 ++ [(r.2.1.headD 0, pageS b r.1)]))
def layC (b : Bool) : C → LS → C × LS
 | .mk k d ps kid, q => if b then (.mk k d (layV d ps q).1 kid, (layV d ps q).2) else
  let r := layNs kid q
  (.mk k d ps r.1, r.2)
def layCs (b : Bool) : List C → LS → List C × LS
 | [], q => ([], q)
 | c :: l, q =>
  let r := layC b c q
  let s := layCs b l r.2
  (r.1 :: s.1, s.2)
def layNs : List N → LS → List N × LS
 | [], q => ([], q)
 | n :: l, q => ([(layN n q).1], (layN n q).2)
end
theorem layCs_snoc (b : Bool) : ∀ (l : List C) (c : C) (q : LS), layCs b (l ++ [c]) q = ((layCs b l q).1 ++ [(layC b c (layCs b l q).2).1], (layC b c (layCs b l q).2).2)
 | [], c, q => by simp [layCs]
 | a :: l, c, q => by simp only [List.cons_append, layCs, layCs_snoc b l c]
theorem layCs_take {b : Bool} {l : List C} {k : Nat} {c : C} (h : l[k]? = some c) (q : LS) : layCs b (l.take (k + 1)) q = ((layCs b (l.take k) q).1 ++ [(layC b c (layCs b (l.take k) q).2).1], (layC b c (layCs b (l.take k) q).2).2) := by
 rw [List.take_add_one, h, Option.toList_some, layCs_snoc]
theorem layCs_len (b : Bool) : ∀ (l : List C) (q : LS), (layCs b l q).1.length = l.length
 | [], _ => rfl
 | a :: l, q => by simp only [layCs, List.length_cons, layCs_len b l]
theorem layN_eq (n : N) (q : LS) : layN n q = if n.page ≠ 0 ∨ (n.leaf = true ∧ n.l = []) then (n, q) else (.mk ((layCs n.leaf n.l q).2.1.headD 0) n.leaf (layCs n.leaf n.l q).1, ((layCs n.leaf n.l q).2.1.tail, (layCs n.leaf n.l q).2.2 ++ [((layCs n.leaf n.l q).2.1.headD 0, pageS n.leaf (layCs n.leaf n.l q).1)])) := by
 cases n; simp only [layN, N.leaf, N.l, N.page]; rfl
theorem layC_leaf (c : C) (q : LS) : layC true c q = (.mk c.key c.data (layV c.data c.pages q).1 c.kid, (layV c.data c.pages q).2) := by
 cases c; simp only [layC, if_true, C.key, C.data, C.pages, C.kid]
theorem layC_br {c : C} {k : N} (h : c.kid = [k]) (q : LS) : layC false c q = (.mk c.key c.data c.pages [(layN k q).1], (layN k q).2) := by
 cases c with | mk ck cd cp cr =>
 simp only [C.kid] at h; subst h
 simp only [layC, Bool.false_eq_true, if_false, layNs, C.key, C.data, C.pages]
theorem layV_left (d : ByteArray) (ps : List Int) (q : LS) : ∃ m, (layV d ps q).2.1 = q.1.drop m ∧ m = (if ps = [] then need (d.size : Int) else 0) := by
 unfold layV
 by_cases h : ps = []
 ·rw [if_pos h]
  split
  ·rename_i e
   have e := e.resolve_right (fun f => f h)
   exact ⟨0, by simp, e.symm⟩
  ·exact ⟨_, rfl, rfl⟩
 ·rw [if_neg h, if_pos (.inr h)]
  exact ⟨0, by simp, rfl⟩
def pagesR (from_ : Int) (n : Nat) : List Int := (List.range n).map fun (i : Nat) => from_ + i
def longN (z : Nat) : Nat := if 16 < z then (z + 118) / 119 else 0
mutual
def markN : N → Int → N × Int
 | .mk p b l, f =>
  let r := markCs b l f
  if l = [] then (.mk 0 b r.1, r.2) else (.mk r.2 b r.1, r.2 + 1)
def markC (b : Bool) : C → Int → C × Int
 | .mk k d ps kid, f => if b then (.mk k d (if 16 < d.size then pagesR f (longN d.size) else ps) kid, f + longN d.size) else
  let r := markNs kid f
  (.mk k d ps r.1, r.2)
def markCs (b : Bool) : List C → Int → List C × Int
 | [], f => ([], f)
 | c :: l, f =>
  let r := markC b c f
  let q := markCs b l r.2
  (r.1 :: q.1, q.2)
def markNs : List N → Int → List N × Int
 | [], f => ([], f)
 | n :: l, f => ([(markN n f).1], (markN n f).2)
end
theorem markCs_len (b : Bool) : ∀ (l : List C) (f : Int), (markCs b l f).1.length = l.length
 | [], _ => rfl
 | a :: l, f => by simp only [markCs, List.length_cons, markCs_len b l]
theorem markN_eq (n : N) (f : Int) : markN n f = if n.l = [] then (.mk 0 n.leaf (markCs n.leaf n.l f).1, (markCs n.leaf n.l f).2) else (.mk (markCs n.leaf n.l f).2 n.leaf (markCs n.leaf n.l f).1, (markCs n.leaf n.l f).2 + 1) := by
 cases n; simp only [markN, N.leaf, N.l]; rfl
theorem markC_leaf (c : C) (f : Int) : markC true c f = (.mk c.key c.data (if 16 < c.data.size then pagesR f (longN c.data.size) else c.pages) c.kid, f + longN c.data.size) := by
 cases c; simp only [markC, if_true, C.key, C.data, C.pages, C.kid]; rfl
theorem markC_br {c : C} {k : N} (h : c.kid = [k]) (f : Int) : markC false c f = (.mk c.key c.data c.pages [(markN k f).1], (markN k f).2) := by
 cases c with | mk ck cd cp cr =>
 simp only [C.kid] at h; subst h
 simp only [markC, Bool.false_eq_true, if_false, markNs, C.key, C.data, C.pages]
theorem longN_le {z : Nat} (h : z ≤ 400) : longN z ≤ 4 := by unfold longN; split <;> omega
theorem pagesR_len (f : Int) (q : Nat) : (pagesR f q).length = q := by unfold pagesR; simp
mutual
def visN (ends : N → Bool) : N → List N
 | .mk p b l => .mk p b l :: (if ends (.mk p b l) then [] else if b then [] else visCs ends l)
def visC (ends : N → Bool) : C → List N
 | .mk _ _ _ kid => visNs ends kid
def visCs (ends : N → Bool) : List C → List N
 | [] => []
 | c :: l => visCs ends l ++ visC ends c
def visNs (ends : N → Bool) : List N → List N
 | [] => []
 | n :: _ => visN ends n
end
theorem visNs_eq (ends : N → Bool) : ∀ l, visNs ends l = (l.take 1).flatMap (visN ends)
 | [] => by simp [visNs]
 | n :: l => by simp [visNs]
theorem visCs_eq (ends : N → Bool) : ∀ l, visCs ends l = (l.flatMap fun c => c.kid.take 1).reverse.flatMap (visN ends)
 | [] => by simp [visCs]
 | c :: l => by
  cases c with | mk k d ps kid =>
  have hr : (kid.take 1).reverse = kid.take 1 := by cases kid <;> rfl
  simp only [visCs, visC, visNs_eq, visCs_eq ends l, List.flatMap_cons, List.reverse_append, List.flatMap_append, C.kid_mk, hr]
theorem visN_eq (ends : N → Bool) (n : N) : visN ends n = n :: (if ends n then [] else (kidsOf n).reverse.flatMap (visN ends)) := by
 cases n with | mk p b l =>
 simp only [visN, kidsOf, N.leaf_mk, N.l_mk, visCs_eq]
 cases b <;> simp
def visS (ends : N → Bool) (s : List N) : List N := s.reverse.flatMap (visN ends)
theorem visS_snoc (ends : N → Bool) (s : List N) (x : N) : visS ends (s ++ [x]) = x :: visS ends (s ++ if ends x then [] else kidsOf x) := by
 unfold visS
 rw [List.reverse_append, List.reverse_cons, List.reverse_nil, List.nil_append, List.flatMap_append, List.flatMap_cons, List.flatMap_nil, List.append_nil, visN_eq, List.cons_append]
 congr 1
 cases ends x <;> simp [List.reverse_append, List.flatMap_append]
theorem nodesW (w0 : W0) (n : N) (fe : FuncId) (S : St) : ACall Tryz.prog w0 70 [eT n, .v (.func (.func fe) #[] #[])] S (fun d S' => ∃ (b : FN S.box) (c : FN ((b.n, cT n) :: S.box)), d = .v (.func (.func 105) #[] #[.pointer (some ⟨b.n, 0, none⟩), .pointer (some ⟨c.n, 0, none⟩)]) ∧ S' = ⟨(c.n, [.v (.func (.func fe) #[] #[])]) :: (b.n, cT n) :: S.box, S.acc⟩) := by
 refine fnO [] mx Tryz.func70 rfl rfl (by kernel_rfl) ?_; (refine @goW _ ?_; refine goS1 @Tryz.ntmps70 ?_)
 exact fun b c => ⟨b, c, rfl, rfl⟩
theorem ex_snoc {α : Type} (f : α → DV) (l : List α) {d : DV} (ho : okE d = true) (F : DV → Prop) : exK (l.map f ++ [d]) l.length F = F d := by
 unfold exK
 have h : (l.map f ++ [d])[l.length]? = some d := by rw [List.getElem?_append_right (by simp)]; simp
 simp [h]
 exact fun _ => ho
theorem take_map_snoc {α : Type} (f : α → DV) (l : List α) (d : DV) : (l.map f ++ [d]).take l.length = l.map f := by
 rw [List.take_append_of_le_length (by rw [List.length_map]; exact Nat.le_refl _)]
 exact List.take_of_length_le (by rw [List.length_map]; exact Nat.le_refl _)
theorem lk_ren_new {L : List (Nat × Ob)} {w m : Nat} {o o' : Ob} (h : lk L w = some o') (hm : nin L m) : lk (ren L w (m, o)) m = some o := by
 induction L with
 | nil => cases h
 | cons p t ih =>
  obtain ⟨k, x⟩ := p
  simp only [lk] at h
  simp only [ren]
  split
  ·simp [lk]
  ·rename_i hne
   rw [if_neg hne] at h
   have hk : ¬ k = m := fun e => by have := nin_lk hm; rw [← e] at this; simp [lk] at this
   have hm' : nin t m := hm.2.2
   simp only [lk, if_neg hk]
   exact ih h hm'
theorem lk_ren_old {L : List (Nat × Ob)} {w m c : Nat} {o : Ob} (h1 : c ≠ w) (h2 : c ≠ m) : lk (ren L w (m, o)) c = lk L c := by
 induction L with
 | nil => rfl
 | cons p t ih =>
  obtain ⟨k, x⟩ := p
  simp only [ren]
  split
  ·rename_i e; subst e; simp only [lk]; rw [if_neg (fun e => h2 e.symm), if_neg (fun e => h1 e.symm)]
  ·simp only [lk, ih]
theorem lk_dom {α : Type} : ∀ {L L' : List (Nat × α)} {n : Nat}, L.map (·.1) = L'.map (·.1) → lk L n = none → lk L' n = none
 | [], [], _, _, _ => rfl
 | [], _ :: _, _, h, _ => by simp at h
 | _ :: _, [], _, h, _ => by simp at h
 | (k, x) :: t, (k', x') :: t', n, h, hn => by
  simp only [List.map_cons, List.cons.injEq] at h
  obtain ⟨e, h⟩ := h
  subst e
  simp only [lk] at hn ⊢
  split at hn
  ·cases hn
  ·rename_i hne; rw [if_neg hne]; exact lk_dom h hn
theorem visS_len (ends : N → Bool) (s : List N) : s.length ≤ (visS ends s).length := by
 unfold visS
 rw [← List.length_reverse]
 induction s.reverse with
 | nil => exact Nat.le_refl 0
 | cons x t ih => rw [List.flatMap_cons, visN_eq]; simp only [List.length_append, List.length_cons]; omega
theorem lk_up (L : List (Nat × List DV)) (b c : Nat) (v : List DV) : lk (up L b v) c = if b = c then (lk L c).map (fun _ => v) else lk L c := by
 split
 ·rename_i e; subst e; exact lk_up_same _ _ _
 ·rename_i e; exact lk_up_ne e _ _
theorem Has_upd {X T : St} {b : Nat} (h : Has X T) (v : List DV) : Has ⟨up X.box b v, X.acc⟩ ⟨up T.box b v, T.acc⟩ := ⟨fun c x hc => by
 simp only [lk_up] at hc ⊢
 split at hc
 ·rename_i e
  obtain ⟨y, hy, rfl⟩ := Option.map_eq_some_iff.1 hc
  rw [h.box _ _ hy, if_pos e]; rfl
 ·rename_i e
  rw [if_neg e]; exact h.box _ _ hc, h.acc⟩
theorem up_same {α : Type} {L : List (Nat × α)} {b : Nat} {v : α} (h : lk L b = some v) : up L b v = L := by
 induction L with
 | nil => rfl
 | cons p t ih =>
  obtain ⟨k, x⟩ := p
  simp only [lk] at h
  simp only [up]
  split
  ·rename_i e; rw [if_pos e] at h; cases h; rfl
  ·rename_i e; rw [if_neg e] at h; rw [ih h]
theorem lk_upA (L : List (Nat × Ob)) (b c : Nat) (v : Ob) : lk (up L b v) c = if b = c then (lk L c).map (fun _ => v) else lk L c := by
 split
 ·rename_i e; subst e; exact lk_up_same _ _ _
 ·rename_i e; exact lk_up_ne e _ _
theorem Has_upd2 {X T : St} {b l : Nat} (h : Has X T) (v : List DV) (o : Ob) : Has ⟨up X.box b v, up X.acc l o⟩ ⟨up T.box b v, up T.acc l o⟩ := ⟨(Has_upd h v).box, fun c x hc => by
 simp only [lk_upA] at hc ⊢
 split at hc
 ·rename_i e
  obtain ⟨y, hy, rfl⟩ := Option.map_eq_some_iff.1 hc
  rw [h.acc _ _ hy, if_pos e]; rfl
 ·rename_i e
  rw [if_neg e]; exact h.acc _ _ hc⟩
theorem Kp_up2 {X T : St} {b l : Nat} {v : List DV} {o : Ob} (hb : ¬ lk X.box b = none) (hl : ¬ lk X.acc l = none) : Kp X T ⟨up T.box b v, up T.acc l o⟩ := ⟨fun c x hc hx => by
 show lk (up T.box b v) c = some x
 rw [lk_up_ne (fun e => hb (by rw [e]; exact hc))]; exact hx, fun c x hc hx => by
 show lk (up T.acc l o) c = some x
 rw [lk_up_ne (fun e => hl (by rw [e]; exact hc))]; exact hx⟩
structure Wk1 where
 T : St
 w : Nat
 pre : List N
 s : List N
theorem iterW (w0 : W0) (l b2 b3 : Nat) (n : N) (ends : N → Bool) (fe : FuncId) (X : List N → St) (B : Nat) (hB : (visN ends n).length ≤ B) (hB2 : B ≤ 1048576)
  (h2 : ∀ pre, lk (X pre).box b2 = some (cT n)) (h3 : ∀ pre, lk (X pre).box b3 = some [.v (.func (.func fe) #[] #[])]) (hfe : okF Tryz.prog fe = true)
  (hend : ∀ x T, ACall Tryz.prog w0 fe [eT x] T (fun d T' => d = dB (ends x) ∧ T' = T))
  (hdb : ∀ pre, (X pre).box.map (·.1) = (X []).box.map (·.1)) (hda : ∀ pre, (X pre).acc.map (·.1) = (X []).acc.map (·.1))
  (hy : YK Tryz.prog w0 l X (fun x => [eT x]) (visN ends n)) : ∀ T, Has (X []) T → ACall Tryz.prog w0 105 [.v (.func (.yield l) #[] #[]), .v (.pointer (some ⟨b2, 0, none⟩)), .v (.pointer (some ⟨b3, 0, none⟩))] T (fun _ T' => Has (X (visN ends n)) T') := by
 intro T hT
 have t2 : lk T.box b2 = some (cT n) := hT.box _ _ (h2 [])
 have t3 : lk T.box b3 = some [.v (.func (.func fe) #[] #[])] := hT.box _ _ (h3 [])
 refine fnO [0] mx Tryz.func105 rfl rfl (by kernel_rfl) ?_; simp only [Tryz.ntmps105, List.length_cons, List.length_nil, Nat.reduceAdd, Nat.reduceSub, List.reduceReplicate, List.cons_append, List.nil_append]; (refine @goW _ ?_; refine goS3 @Tryz.ntmps105 @t2 @t3 ?_)
 refine arrR (by kernel_rfl) ?_
 simp (maxDischargeDepth := 12) (maxSteps := 1000000) -implicitDefEqProofs only [go_sem, Nat.reduceAdd, Nat.reduceSub, Nat.reduceMul, Nat.reduceLeDiff, Nat.reduceEqDiff, Nat.reduceGT, Nat.reduceBEq, reduceCtorEq, ↓reduceIte, Int.reduceToNat, Int.reduceLE, Int.reduceLT, Int.reduceNe, Int.reduceEq, t2, t3, cT]
 intro lb
 refine loopK [] [0, 2, 4] (fun s : Wk1 => [(4, .acc s.w s.s.length)]) (fun s => s.T) (fun s => Has (X s.pre) s.T ∧ lk s.T.acc s.w = some (.arr 5 (s.s.map dT)) ∧ lk (X s.pre).acc s.w = none ∧ s.pre ++ visS ends s.s = visN ends n) (fun s => (visN ends n).length - s.pre.length) ⟨⟨T.box, (lb.n, .arr 5 [dT n]) :: T.acc⟩, lb.n, [], [n]⟩ mx (by kernel_rfl) ?_ ?_
 ·have hnone : lk T.acc lb.n = none := fn_lk lb
  refine ⟨⟨⟨hT.box, fun l' o ho => ?_⟩, by simp [lk], ?_, ?_⟩, ?_, ?_⟩
  ·have := hT.acc _ _ ho
   show lk ((lb.n, _) :: T.acc) l' = _
   simp only [lk]
   rw [if_neg (fun e => by rw [e, this] at hnone; cases hnone)]; exact this
  ·show lk (X []).acc lb.n = none
   cases hx : lk (X []).acc lb.n with
   | none => rfl
   | some o => rw [hT.acc _ _ hx] at hnone; cases hnone
  ·show [] ++ visS ends [n] = visN ends n
   simp [visS]
  ·(refine @goW _ ?_; exact goT)
  ·(refine @goW _ ?_; exact goT)
 ·rintro ⟨T, w, pre, st⟩ ⟨hT', hw, hwX, hV⟩
  simp only at hT' hw hwX hV
  have t2 : lk T.box b2 = some (cT n) := hT'.box _ _ (h2 pre)
  have t3 : lk T.box b3 = some [.v (.func (.func fe) #[] #[])] := hT'.box _ _ (h3 pre)
  rcases List.eq_nil_or_concat st with rfl | ⟨st, x, rfl⟩
  ·have hV' : pre = visN ends n := by simpa [visS] using hV
   (refine @goW _ ?_; refine goS2 @t3 @hw ?_)
   rw [← hV']
   exact ⟨fun h => absurd h (by omega), fun _ => hT'⟩
  ·rw [List.concat_eq_append] at hw hV ⊢
   rw [visS_snoc] at hV
   have hlen : (st ++ [x]).length = st.length + 1 := by simp
   have hw2 : lk T.acc w = some (.arr 5 (st.map dT ++ [eT x])) := by rw [hw, List.map_append, List.map_cons, List.map_nil, dT_eq]
   have hsl := visS_len ends (st ++ if ends x then [] else kidsOf x)
   have hVl : pre.length + (1 + (visS ends (st ++ if ends x then [] else kidsOf x)).length) ≤ B := by rw [← hV] at hB; simp only [List.length_append, List.length_cons] at hB; omega
   rw [List.length_append] at hsl
   have ewrap : IntKind.i64.wrap (((st.length + 1 : Nat) : Int) - 1) = (st.length : Int) := by rw [w64] <;> omega
   (refine @goW _ ?_; refine goS6 @t3 @hw2 @hlen @ewrap @ex_snoc @take_map_snoc ?_)
   refine ⟨fun _ b5 => .inl ⟨.inr (by omega), ⟨_, _, _, rfl⟩, fun m => ?_⟩, fun h => absurd (by omega) h⟩
   have hbn : lk T.box b5.n = none := fn_lk b5
   have hmn : lk T.acc m.n = none := fn_lk m
   have hXb : lk (X pre).box b5.n = none := by
    cases hx : lk (X pre).box b5.n with
    | none => rfl
    | some o => rw [hT'.box _ _ hx] at hbn; cases hbn
   have hXm : lk (X pre).acc m.n = none := by
    cases hx : lk (X pre).acc m.n with
    | none => rfl
    | some o => rw [hT'.acc _ _ hx] at hmn; cases hmn
   have hmw : m.n ≠ w := by rintro e; rw [e, hw] at hmn; cases hmn
   have hT1 : Has (X pre) ⟨(b5.n, cT x) :: T.box, ren T.acc w (m.n, .arr 5 (st.map dT))⟩ := ⟨fun c y hc => by
    simp only [lk]
    rw [if_neg (fun e => by rw [← e, hXb] at hc; cases hc)]; exact hT'.box c y hc, fun c o hc => by
    rw [lk_ren_old (fun e => by rw [e, hwX] at hc; cases hc) (fun e => by rw [e, hXm] at hc; cases hc)]; exact hT'.acc c o hc⟩
   have hpre : (pre ++ [x]) <+: visN ends n := ⟨_, by rw [List.append_assoc]; exact hV⟩
   refine useY (hy pre x _ hpre hT1) ?_
   rintro d T2 ⟨rfl, hT2, hK⟩
   have u5 : lk T2.box b5.n = some (cT x) := hK.box _ _ hXb (by simp only [lk, if_true]; rfl)
   have um : lk T2.acc m.n = some (.arr 5 (st.map dT)) := hK.acc _ _ hXm (lk_ren_new hw m.h)
   have u3 : lk T2.box b3 = some [.v (.func (.func fe) #[] #[])] := hT2.box _ _ (h3 _)
   have hX2m : lk (X (pre ++ [x])).acc m.n = none := lk_dom ((hda _).trans (hda _).symm) hXm
   have hmeas : (visN ends n).length - (pre ++ [x]).length < (visN ends n).length - pre.length := by
    have := hpre.length_le
    rw [List.length_append] at this ⊢
    simp only [List.length_cons, List.length_nil] at *
    omega
   simp (maxDischargeDepth := 12) (maxSteps := 1000000) -implicitDefEqProofs only [go_sem, Nat.reduceAdd, Nat.reduceSub, Nat.reduceMul, Nat.reduceLeDiff, Nat.reduceEqDiff, Nat.reduceGT, Nat.reduceBEq, reduceCtorEq, ↓reduceIte, Int.reduceToNat, Int.reduceLE, Int.reduceLT, Int.reduceNe, Int.reduceEq, u5, um, u3, cT, hfe]
   refine use1 (hend x _) ?_
   simp (maxDischargeDepth := 12) (maxSteps := 1000000) -implicitDefEqProofs only [go_sem, Nat.reduceAdd, Nat.reduceSub, Nat.reduceMul, Nat.reduceLeDiff, Nat.reduceEqDiff, Nat.reduceGT, Nat.reduceBEq, reduceCtorEq, ↓reduceIte, Int.reduceToNat, Int.reduceLE, Int.reduceLT, Int.reduceNe, Int.reduceEq, u5, um, u3, cT]
   have hlV : (st.length + (kidsOf x).length) * 88 ≤ 140737488355328 ∧ st.length + (kidsOf x).length ≤ maxLen ∨ ends x = true := by
    cases he : ends x
    ·rw [he] at hsl hVl
     simp only [Bool.false_eq_true, if_false] at hsl hVl
     refine .inl ⟨by omega, ?_⟩
     have : maxLen = 9223372036854775807 := rfl
     omega
    ·exact .inr rfl
   refine ⟨fun he => ?_, fun he => ?_⟩
   ·rw [he, if_pos rfl, List.append_nil] at hV
    refine ⟨⟨T2, m.n, pre ++ [x], st⟩, ⟨hT2, um, hX2m, by rw [List.append_assoc]; exact hV⟩, hmeas, .refl _, .refl _⟩
   ·rw [he, if_neg (by simp)] at hV
    obtain ⟨q1, q2⟩ := hlV.resolve_right (by rw [he]; simp)
    refine ⟨q1, q2, ⟨⟨T2.box, up T2.acc m.n (.arr 5 ((st ++ kidsOf x).map dT))⟩, m.n, pre ++ [x], st ++ kidsOf x⟩, ⟨⟨hT2.box, fun l o hl => ?_⟩, ?_, hX2m, by rw [List.append_assoc]; exact hV⟩, hmeas, Wk.eq (by rw [List.length_append]), .refl _⟩
    ·show lk (up T2.acc m.n _) l = some o
     rw [lk_up_ne (fun e => by rw [← e, hX2m] at hl; cases hl)]
     exact hT2.acc l o hl
    ·show lk (up T2.acc m.n _) m.n = _
     rw [lk_up_same, um]; rfl
end Go.Proofs.YtpcmnebpnpgcmaaGreatDoor
namespace Go.Proofs
open Go.Shelf
def Tryz.lays189_ren : Go.Shelf.Ren := ⟨fun | 189 => 41 | 125 => 73 | 257 => 72 | 128 => 115 | 129 => 116 | 294 => 106 | 295 => 107 | 296 => 108 | 297 => 109 | 298 => 110 | 299 => 111 | 216 => 112 | 300 => 113 | 301 => 114 | 328 => 143 | 329 => 144 | 330 => 145 | 331 => 146 | 332 => 147 | 215 => 148 | 343 => 156 | n => n, fun | 28 => 23 | 3 => 3 | 46 => 132 | 0 => 0 | 51 => 178 | 53 => 180 | 4 => 4 | 183 => 171 | 182 => 170 | 131 => 118 | 5 => 5 | 9 => 9 | 218 => 220 | 222 => 224 | 228 => 236 | 229 => 237 | n => n, fun | n => n⟩
theorem Tryz.lays189 : Go.Proofs.Lays.n189 Tryz.prog Tryz.lays189_ren := {
 mixed := by kernel_rfl
 f125 := Tryz.func73.trans (congrArg some (by kernel_rfl))
 f128 := Tryz.func115.trans (congrArg some (by kernel_rfl))
 f129 := Tryz.func116.trans (congrArg some (by kernel_rfl))
 f189 := Tryz.func41.trans (congrArg some (by kernel_rfl))
 f215 := Tryz.func148.trans (congrArg some (by kernel_rfl))
 f216 := Tryz.func112.trans (congrArg some (by kernel_rfl))
 f257 := Tryz.func72.trans (congrArg some (by kernel_rfl))
 f294 := Tryz.func106.trans (congrArg some (by kernel_rfl))
 f295 := Tryz.func107.trans (congrArg some (by kernel_rfl))
 f296 := Tryz.func108.trans (congrArg some (by kernel_rfl))
 f297 := Tryz.func109.trans (congrArg some (by kernel_rfl))
 f298 := Tryz.func110.trans (congrArg some (by kernel_rfl))
 f299 := Tryz.func111.trans (congrArg some (by kernel_rfl))
 f300 := Tryz.func113.trans (congrArg some (by kernel_rfl))
 f301 := Tryz.func114.trans (congrArg some (by kernel_rfl))
 f328 := Tryz.func143.trans (congrArg some (by kernel_rfl))
 f329 := Tryz.func144.trans (congrArg some (by kernel_rfl))
 f330 := Tryz.func145.trans (congrArg some (by kernel_rfl))
 f331 := Tryz.func146.trans (congrArg some (by kernel_rfl))
 f332 := Tryz.func147.trans (congrArg some (by kernel_rfl))
 f343 := Tryz.func156.trans (congrArg some (by kernel_rfl))
 t0 := Tryz.underlying0
 a0 := Tryz.isAgg0
 z0 := Tryz.sizeOf0
 v0 := Tryz.zeroValue0
 t3 := Tryz.underlying3
 a3 := Tryz.isAgg3
 z3 := Tryz.sizeOf3
 v3 := Tryz.zeroValue3
 t4 := Tryz.underlying4
 a4 := Tryz.isAgg4
 z4 := Tryz.sizeOf4
 v4 := Tryz.zeroValue4
 t5 := Tryz.underlying5
 a5 := Tryz.isAgg5
 z5 := Tryz.sizeOf5
 v5 := Tryz.zeroValue5
 t9 := Tryz.underlying9
 a9 := Tryz.isAgg9
 z9 := Tryz.sizeOf9
 v9 := Tryz.zeroValue9
 t28 := Tryz.underlying23
 a28 := Tryz.isAgg23
 z28 := Tryz.sizeOf23
 v28 := Tryz.zeroValue23
 t46 := Tryz.underlying132
 a46 := Tryz.isAgg132
 z46 := Tryz.sizeOf132
 v46 := Tryz.zeroValue132
 t51 := Tryz.underlying178
 a51 := Tryz.isAgg178
 z51 := Tryz.sizeOf178
 v51 := Tryz.zeroValue178
 t53 := Tryz.underlying180
 a53 := Tryz.isAgg180
 z53 := Tryz.sizeOf180
 v53 := Tryz.zeroValue180
 t131 := Tryz.underlying118
 a131 := Tryz.isAgg118
 z131 := Tryz.sizeOf118
 v131 := Tryz.zeroValue118
 t182 := Tryz.underlying170
 a182 := Tryz.isAgg170
 z182 := Tryz.sizeOf170
 v182 := Tryz.zeroValue170
 t183 := Tryz.underlying171
 a183 := Tryz.isAgg171
 z183 := Tryz.sizeOf171
 v183 := Tryz.zeroValue171
 t218 := Tryz.underlying220
 a218 := Tryz.isAgg220
 z218 := Tryz.sizeOf220
 v218 := Tryz.zeroValue220
 t222 := Tryz.underlying224
 a222 := Tryz.isAgg224
 z222 := Tryz.sizeOf224
 v222 := Tryz.zeroValue224
 t228 := Tryz.underlying236
 a228 := Tryz.isAgg236
 z228 := Tryz.sizeOf236
 v228 := Tryz.zeroValue236
 t229 := Tryz.underlying237
 a229 := Tryz.isAgg237
 z229 := Tryz.sizeOf237
 v229 := Tryz.zeroValue237 }
open Go.Sort Go.RowKit in
theorem Tryz.slices_Sort_int (blk off cap : Nat) (zs : List Int) (w : World) (hH : Holds (Value.int .i64) w blk off zs.toArray) (hblk : blk < w.heap.size) (hsz : zs.length < 4611686018427387904) :
  Calls Tryz.prog 41 #[.slice (some ⟨blk, off, none⟩) zs.length cap] w fun e w' =>
   e = .returned (.tuple #[]) ∧ ∃ n os, w' = grow (putRow (Value.int .i64) (Sort.ahead w n) blk off (zs.mergeSort fun x y => decide (x ≤ y)).toArray) os := Any.slices_Sort_int Tryz.lays189 blk off cap zs w hH hblk hsz
open Go.RowKit Go.Sort in
theorem Tryz.slices_Sort_int_none (p : Option Addr) (cap : Nat) (w : World) :
  Calls Tryz.prog 41 #[.slice p 0 cap] w fun e w' => e = .returned (.tuple #[]) ∧ w' = w := Any.slices_Sort_int_none Tryz.lays189 p cap w
end Go.Proofs
namespace Go.Proofs.YtpcmnebpnpgcmaaGreatDoor
open Aml Go
def srt (l : List Int) : List Int := l.mergeSort fun x y => decide (x ≤ y)
theorem srt_length (l : List Int) : (srt l).length = l.length := List.length_mergeSort l
theorem get_bang {l : List Int} {j : Nat} {a : Int} (h : l[j]? = some a) : l.toArray[j]! = a := by
 obtain ⟨hlt, rfl⟩ := List.getElem?_eq_some_iff.1 h
 rw [getElem!_pos l.toArray j (by simpa using hlt)]
 simp
theorem sorted_heap {w : World} {n b e : Nat} {cs : Array Value} {zs : List Int} {os : Array Obj} (hb : w.heap[b]? = some (.cells cs e (0, 0))) (hn : zs.length ≤ cs.size) :
  ∃ cs', (Go.Sort.grow (Go.Sort.putRow (Value.int .i64) (Go.Sort.ahead w n) b 0 zs.toArray) os).heap[b]? = some (.cells cs' e (0, 0)) ∧ cs'.size = cs.size ∧ (∀ (i : Nat) (a : Int), zs[i]? = some a → cs'[i]? = some (.int .i64 a)) ∧ ∀ x, x ∈ cs'.toList → x ∈ cs.toList ∨ ∃ a, x = .int .i64 a := by
 refine ⟨Go.Sort.putCells (Value.int .i64) 0 zs.toArray cs, ?_, by simp [Go.Sort.putCells], fun i a hi => ?_, fun x hx => ?_⟩
 ·rw [Go.Sort.heap_grow_old _ _ (by have := (Array.getElem?_eq_some_iff.1 hb).1; simpa using this)]
  simp only [Go.Sort.putRow, Go.Sort.mapBlock, Go.Sort.heap_ahead, Array.getElem?_modify, if_true, hb, Option.map_some, Go.Sort.onCells]
 ·have hlt : i < zs.length := (List.getElem?_eq_some_iff.1 hi).1
  have hc : cs[i]? = some cs[i] := Array.getElem?_eq_getElem (by omega)
  simp only [Go.Sort.putCells, Array.getElem?_mapIdx, hc, Option.map_some]
  rw [if_pos (by simp; omega)]
  simp only [Nat.sub_zero]
  rw [get_bang hi]
 ·obtain ⟨i, hi⟩ := List.mem_iff_getElem?.1 hx
  rw [Array.getElem?_toList] at hi
  simp only [Go.Sort.putCells, Array.getElem?_mapIdx, Option.map_eq_some_iff] at hi
  obtain ⟨y, hy, rfl⟩ := hi
  split
  ·exact .inr ⟨_, rfl⟩
  ·exact .inl (Array.mem_toList_iff.2 (Array.mem_of_getElem? hy))
theorem sort_int (w0 : W0) {l : Nat} {zs : List Int} {S : St} (hl : lk S.acc l = some (.arr 1 (zs.map dI))) (hsz : zs.length < 4611686018427387904) :
  ACall Tryz.prog w0 41 [.acc l zs.length] S (fun d S' => d = .tup [] ∧ S' = ⟨S.box, up S.acc l (.arr 1 ((srt zs).map dI))⟩) := by
 intro g vs w h1 h2
 obtain ⟨u, us, hvs, hr, h3⟩ := h2.uncons
 have hus : us = [] := List.eq_nil_of_length_eq_zero (by have := h3.len; simpa using this.symm)
 subst hus
 have hvs' : vs = #[u] := by rw [← Array.toArray_toList (xs := vs), hvs]
 subst hvs'
 obtain ⟨o, c, hv, ha⟩ := rep_acc hr
 subst hv
 by_cases hz : zs = []
 ·subst hz
  refine (Tryz.slices_Sort_int_none o c w).mono ?_
  rintro e w' ⟨rfl, rfl⟩
  refine ⟨_, g, .tup [], _, rfl, .refl g, ?_, .tup [] [] rfl (by intro i d u h; simp at h), rfl, rfl⟩
  have : srt [] = [] := by simp [srt]
  rw [this, up_self hl]
  exact h1
 ·have hpos : 0 < zs.length := List.length_pos_iff.2 hz
  obtain ⟨ow, hO⟩ := h1.open_
  obtain ⟨hs, ⟨he, o2, _⟩ | ⟨b, c2, cs, e, q1, q2, q3, q4, q5, q6, q7, q8, q8x, us, q9, q10, q11, q12⟩⟩ := hO.acc l _ (lk_mem hl)
  ·exact absurd (by simpa using he) hz
  ·rw [List.length_map] at q1 q7
   have q1' := q1
   rw [ha] at q1
   simp only [Option.some.injEq, Value.slice.injEq, true_and] at q1
   obtain ⟨rfl, rfl⟩ := q1
   rw [Nat.mul_one] at q6
   have hul : us.length = zs.length := by have := q9.len; simpa using this.symm
   have hus : ∀ (i : Nat) (a : Int), zs[i]? = some a → us[i]? = some (.int .i64 a) := by
    intro i a hi
    have hlt : i < us.length := by rw [hul]; exact (List.getElem?_eq_some_iff.1 hi).1
    have hu : us[i]? = some us[i] := List.getElem?_eq_getElem hlt
    have := q9.at_ i (dI a) _ (by simp [hi]) hu
    have := rep_v this
    rw [hu, this]
   have hcs : ∀ (i : Nat) (a : Int), zs[i]? = some a → cs[i]? = some (.int .i64 a) := by
    intro i a hi
    have := q12 i _ 0 _ (hus i a hi) (show (Value.int IntKind.i64 a).cells[0]? = some (.int .i64 a) by rfl)
    simpa using this
   have hH : Go.Sort.Holds (Value.int .i64) w b 0 zs.toArray := by
    intro j hj
    have hj' : j < zs.length := by simpa using hj
    have hi : zs[j]? = some zs[j] := List.getElem?_eq_getElem hj'
    constructor
    ·rw [cells_at q5, Nat.zero_add, hcs j _ hi, get_bang hi]
    ·simp [World.frozen?, q5]
   refine (Tryz.slices_Sort_int b 0 c zs w hH (lt_of_heap q5) hsz).mono ?_
   rintro ex w' ⟨rfl, n, os, rfl⟩
   obtain ⟨cs', h5, h6, h7, h8⟩ := sorted_heap (n := n) (os := os) (zs := srt zs) q5 (by rw [srt_length]; omega)
   refine ⟨_, g, .tup [], _, rfl, .refl g, ?_, .tup [] [] rfl (by intro i d u h; simp at h), rfl, rfl⟩
   refine h1.rearr (us := (srt zs).map fun a => Value.int .i64 a) (b := b) (c := c) (e := e) (cs := cs') hl (by rw [List.length_map]; exact ha) (by simp [srt_length]) (by omega) h5 (by omega) ?_ (by simp) ?_ ?_ ?_ ?_ ?_ fun x hx => (h8 x hx).elim (q8x x) fun ⟨a, e⟩ => by rw [e]; rfl
   ·refine h1.below.step ⟨rfl, rfl, rfl, by simp, fun k hk => ?_, Nat.le_add_right _ _⟩ b (nc_cells q5) fun k hk hne => ?_
    ·rw [Go.Sort.heap_grow_old _ _ (by simp; exact Nat.lt_of_lt_of_le hk h1.below.size)]
     have : b ≠ k := by omega
     simp [Go.Sort.putRow, Go.Sort.mapBlock, Array.getElem?_modify, this]
    ·rw [Go.Sort.heap_grow_old _ _ (by simp; exact hk)]
     have : b ≠ k := fun e => hne e.symm
     simp [Go.Sort.putRow, Go.Sort.mapBlock, Array.getElem?_modify, this]
   ·intro k hk hne
    rw [Go.Sort.heap_grow_old _ _ (by simp; exact hk)]
    have : b ≠ k := fun e => hne e.symm
    simp [Go.Sort.putRow, Go.Sort.mapBlock, Array.getElem?_modify, this]
   ·exact ⟨by simp, fun i d u a1 a2 => by
     simp only [List.getElem?_map, Option.map_eq_some_iff] at a1 a2
     obtain ⟨x, hx, rfl⟩ := a1
     obtain ⟨y, hy, rfl⟩ := a2
     rw [hx] at hy; cases hy
     exact .v _ rfl⟩
   ·intro i u hi
    simp only [List.getElem?_map, Option.map_eq_some_iff] at hi
    obtain ⟨x, _, rfl⟩ := hi; rfl
   ·intro u hu x hx
    obtain ⟨a, _, rfl⟩ := List.mem_map.1 hu
    simp [Value.cells] at hx
    subst hx; rfl
   ·intro i u j x hi hj
    simp only [List.getElem?_map, Option.map_eq_some_iff] at hi
    obtain ⟨a, ha', rfl⟩ := hi
    have hj0 : j = 0 := by have := (Array.getElem?_eq_some_iff.1 hj).1; simp [Value.cells] at this; exact this
    subst hj0
    simp [Value.cells] at hj
    subst hj
    simpa using h7 i a ha'
theorem laidW (w0 : W0) (x : N) (S : St) : ACall Tryz.prog w0 75 [eT x] S (fun d S' => d = dB (decide (x.page ≠ 0)) ∧ S' = S) := by
 refine fnS [] mx Tryz.func75 rfl rfl (by kernel_rfl) ?_; (refine @goW _ ?_; exact goT1 @Tryz.ntmps75)
theorem neverW (w0 : W0) (x : N) (S : St) : ACall Tryz.prog w0 71 [eT x] S (fun d S' => d = dB false ∧ S' = S) := by
 refine fnS [] mx Tryz.func71 rfl rfl (by kernel_rfl) ?_; (refine @goW _ ?_; exact goT1 @Tryz.ntmps71)
def fc1 (c : C) : Nat := if c.pages = [] then need (c.data.size : Int) else 0
def fcS (l : List C) : Nat := (l.map fc1).sum
def fr1 (x : N) : Nat := if x.page ≠ 0 then 0 else if x.leaf = true ∧ x.l = [] then 0 else 1 + fcS (if x.leaf then x.l else [])
theorem fcS_succ {l : List C} {k : Nat} {c : C} (h : l[k]? = some c) : fcS (l.take (k + 1)) = fcS (l.take k) + fc1 c := by
 unfold fcS
 rw [List.take_add_one, h]; simp
theorem fcS_take (l : List C) (k : Nat) : fcS (l.take k) ≤ fcS l := by
 have := congrArg fcS (List.take_append_drop k l)
 simp only [fcS, List.map_append, List.sum_append] at this ⊢
 omega
def frS (l : List N) : Nat := (l.map fr1).sum
theorem frS_snoc (l : List N) (x : N) : frS (l ++ [x]) = frS l + fr1 x := by simp [frS]
theorem frS_pre {l m : List N} (h : l <+: m) : frS l ≤ frS m := by
 obtain ⟨t, rfl⟩ := h
 simp [frS]
def laidB (x : N) : Bool := decide (x.page ≠ 0)
theorem freshP (w0 : W0) (n : N) (S : St) (hV : (visN laidB n).length ≤ 1048576) (hF : frS (visN laidB n) ≤ 1099511627776) (hl : ∀ x, x ∈ visN laidB n → x.l.length ≤ 1048576) :
  ACall Tryz.prog w0 43 [eT n] S (fun d S' => d = dI (frS (visN laidB n)) ∧ S' = S) := by
 refine fnS [] mx Tryz.func43 rfl rfl (by kernel_rfl) ?_; (refine @goW _ ?_; refine goS1 @Tryz.ntmps43 ?_)
 intro b b1 b2
 refine useK (nodesW w0 n 75 _) ?_
 rintro d S' ⟨b3, b4, rfl, rfl⟩
 (refine @goW _ ?_; refine goS ?_)
 refine rangeK [11] (fun pre => ⟨(b4.n, [.v (.func (.func 75) #[] #[])]) :: (b3.n, cT n) :: (b2.n, [dI (frS pre)]) :: (b1.n, [.v (.func (.func 75) #[] #[])]) :: (b.n, cT n) :: S.box, S.acc⟩) (fun x => [eT x]) (visN laidB n) mx (by kernel_rfl) rfl rfl rfl (fun _ => rfl) (fun _ => rfl) (fun _ => rfl) ?_ ?_ ?_
 ·intro l w1 hy T hT
  exact iterW w1 l b3.n b4.n n laidB 75 _ _ hV (Nat.le_refl _) (fun _ => by (refine @goW _ ?_; exact goT)) (fun _ => by (refine @goW _ ?_; exact goT)) (by simp only [go_sem]) (fun x T => laidW w1 x T) (fun _ => rfl) (fun _ => rfl) hy T hT
 ·intro pre x T hp hT
  have t2 : lk T.box b2.n = some [dI (frS pre)] := hT.box _ _ (by (refine @goW _ ?_; exact goT))
  have t1 : lk T.box b1.n = some [.v (.func (.func 75) #[] #[])] := hT.box _ _ (by (refine @goW _ ?_; exact goT))
  simp only [setPs]
  (refine @goW _ ?_; refine goS2 @t1 @t2 ?_)
  intro b5
  refine use1 (laidW w0 x _) ?_
  have hfr := frS_snoc pre x
  have hfp := Nat.le_trans (frS_pre hp) hF
  have hxl := hl x (by obtain ⟨t, ht⟩ := hp; rw [← ht]; simp)
  have hb5 : ¬ b5.n = b2.n := fun e => by have := fn_lk b5; rw [e, t2] at this; cases this
  have h1 : fr1 x = if x.page ≠ 0 then 0 else if x.leaf = true ∧ x.l = [] then 0 else 1 + fcS (if x.leaf then x.l else []) := rfl
  have hH : ∀ v, v = (frS (pre ++ [x]) : Int) → Has _ ⟨up T.box b2.n [dI v], T.acc⟩ := fun v hv => by rw [hv]; exact Has_upd hT _
  have hu : ∀ v : Int, up ((b4.n, [.v (.func (.func 75) #[] #[])]) :: (b3.n, cT n) :: (b2.n, [dI (frS pre)]) :: (b1.n, [.v (.func (.func 75) #[] #[])]) :: (b.n, cT n) :: S.box) b2.n [dI v] = (b4.n, [.v (.func (.func 75) #[] #[])]) :: (b3.n, cT n) :: (b2.n, [dI v]) :: (b1.n, [.v (.func (.func 75) #[] #[])]) :: (b.n, cT n) :: S.box := fun v => by (refine @goW _ ?_; exact goT)
  have hK : ∀ v, Kp ⟨(b4.n, [.v (.func (.func 75) #[] #[])]) :: (b3.n, cT n) :: (b2.n, [dI (frS pre)]) :: (b1.n, [.v (.func (.func 75) #[] #[])]) :: (b.n, cT n) :: S.box, S.acc⟩ T ⟨up T.box b2.n v, T.acc⟩ := fun v => Kp.up (by (refine @goW _ ?_; exact goT))
  simp only [hu] at hH
  (refine @goW _ ?_; refine goS2 @t1 @t2 ?_)
  refine ⟨fun hp0 => ?_, fun hp0 => ⟨fun hlf => ⟨fun hl0 => ?_, fun hl0 => ?_⟩, fun hlf => ?_⟩⟩
  ·rw [if_pos hp0] at h1
   rw [h1] at hfr
   rw [hfr]
   exact ⟨hT.consB b5 _ rfl, (Kp.refl _ _).consB b5 _ rfl⟩
  ·have hl1 : x.l = [] := List.eq_nil_of_length_eq_zero (by omega)
   rw [if_neg hp0, if_pos ⟨hlf, hl1⟩] at h1
   rw [h1] at hfr
   rw [hfr]
   exact ⟨hT.consB b5 _ rfl, (Kp.refl _ _).consB b5 _ rfl⟩
  all_goals
   have hlL : (if x.leaf = true then x.l else []).length ≤ 1048576 := by split <;> first | exact hxl | exact Nat.zero_le _
   generalize hL : (if x.leaf = true then x.l else []) = L at *
   have h1 : fr1 x = 1 + fcS L := by
    rw [h1, if_neg hp0, if_neg (fun e => by simp_all)]
   refine loopN [11] L.length [3, 4, 11, 28, 29, 30] (fun k => [(30, dI k)]) (fun k => ⟨up T.box b2.n [dI ((frS pre + 1 + fcS (L.take k) : Nat) : Int)], T.acc⟩) (fun _ => True) mx (by kernel_rfl) ?_ ?_
   ·(refine @goW _ ?_; refine goS ?_)
    refine .consB ?_
    rw [show IntKind.i64.wrap ((frS pre : Int) + 1) = ((frS pre + 1 + fcS [] : Nat) : Int) from by rw [w64 (by omega) (by omega)]; simp [fcS]]
    exact .refl _
   ·intro k hk _
    have e2 : ∀ z : List DV, lk (up T.box b2.n z) b2.n = some z := fun z => by rw [lk_up_same, t2]; rfl
    have hle := fcS_take L k
    (refine @goW _ ?_; refine goS2 @t1 @t2 ?_)
    refine ⟨fun hlt => ⟨hlt, fun c hc b6 => ⟨fun hp0 => ?_, fun hp0 => ⟨hlt, by rw [w64 (by omega) (by omega)]; omega, .consB ?_⟩⟩⟩, fun hge => ?_⟩
    ·have hne : ¬ b6.n = b2.n := fun e => by have := fn_lk b6; rw [e, e2] at this; cases this
     have hpl : c.pages = [] := List.eq_nil_of_length_eq_zero (by omega)
     refine lexK mx (by kernel_rfl) ?_
     (refine @goW _ ?_; refine goS2 @e2 @hne ?_)
     refine useX (fun B hB => needP w0 _ _) ?_
     have hc1 : fc1 c = need (c.data.size : Int) := if_pos hpl
     have hs := fcS_succ hc
     have hle' := fcS_take L (k + 1)
     (refine @goW _ ?_; refine goS3 @e2 @hne @up_up ?_)
     refine ⟨hlt, by rw [w64 (by omega) (by omega)]; omega, .consB ?_⟩
     rw [show IntKind.i64.wrap (((frS pre + 1 + fcS (L.take k) : Nat) : Int) + (need (c.data.size : Int) : Int)) = ((frS pre + 1 + fcS (L.take (k + 1)) : Nat) : Int) from by rw [w64 (by omega) (by omega)]; omega]
     exact .refl _
    ·rw [fcS_succ hc, show fc1 c = 0 from if_neg fun e => by rw [e] at hp0; exact hp0 rfl]
     exact .refl _
    ·have hkL : k = L.length := by omega
     rw [hkL, List.take_length]
     exact ⟨hH _ (by omega), hK _⟩
 ·(refine @goW _ ?_; exact goT)
def pg1 (x : N) : List Int := (if x.page ≠ 0 then [x.page] else []) ++ (if x.leaf then x.l else []).flatMap C.pages
def pgS (l : List N) : List Int := l.flatMap pg1
theorem pgS_snoc (l : List N) (x : N) : pgS (l ++ [x]) = pgS l ++ pg1 x := by simp [pgS]
theorem pgS_pre {l m : List N} (h : l <+: m) : (pgS l).length ≤ (pgS m).length := by
 obtain ⟨t, rfl⟩ := h
 simp [pgS]
def noB (x : N) : Bool := false
theorem pagesP (w0 : W0) (n : N) (S : St) (hV : (visN noB n).length ≤ 1048576) (hF : (pgS (visN noB n)).length ≤ 1073741824) (hl : ∀ x, x ∈ visN noB n → x.l.length ≤ 1048576) :
  ACall Tryz.prog w0 40 [eT n] S (fun d S' => ∃ m : FN S.acc, d = .acc m.n (pgS (visN noB n)).length ∧ S' = ⟨S.box, (m.n, .arr 1 ((srt (pgS (visN noB n))).map dI)) :: S.acc⟩) := by
 refine fnP [] mx Tryz.func40 rfl rfl (by kernel_rfl) ?_; (refine @goW _ ?_; refine goS1 @Tryz.ntmps40 ?_)
 intro b b1
 refine useK (nodesW w0 n 71 _) ?_
 rintro d S' ⟨b3, b4, rfl, rfl⟩
 (refine @goW _ ?_; refine goS ?_)
 refine awp_growB b1.n 0 1 (by omega) (ds := [.sl 0 true []]) (by (refine @goW _ ?_; exact goT)) rfl fun lb => ?_
 (refine @goW _ ?_; refine goS ?_)
 refine rangeK [] (fun pre => ⟨(b4.n, [.v (.func (.func 71) #[] #[])]) :: (b3.n, cT n) :: (b1.n, [.acc lb.n (pgS pre).length]) :: (b.n, cT n) :: S.box, (lb.n, .arr 1 ((pgS pre).map dI)) :: S.acc⟩) (fun x => [eT x]) (visN noB n) mx (by kernel_rfl) rfl rfl rfl (fun _ => rfl) (fun _ => rfl) (fun _ => rfl) ?_ ?_ ?_
 ·intro l w1 hy T hT
  exact iterW w1 l b3.n b4.n n noB 71 _ _ hV (Nat.le_refl _) (fun _ => by (refine @goW _ ?_; exact goT)) (fun _ => by (refine @goW _ ?_; exact goT)) (by simp only [go_sem]) (fun x T => neverW w1 x T) (fun _ => rfl) (fun _ => rfl) hy T hT
 ·intro pre x T hp hT
  have t1 : lk T.box b1.n = some [.acc lb.n (pgS pre).length] := hT.box _ _ (by (refine @goW _ ?_; exact goT))
  have u1 : lk T.acc lb.n = some (.arr 1 ((pgS pre).map dI)) := hT.acc _ _ (by (refine @goW _ ?_; exact goT))
  have hxl := hl x (by obtain ⟨t, ht⟩ := hp; rw [← ht]; simp)
  have hpl := Nat.le_trans (pgS_pre hp) hF
  rw [pgS_snoc] at hpl
  have h1 : pg1 x = (if x.page ≠ 0 then [x.page] else []) ++ (if x.leaf then x.l else []).flatMap C.pages := rfl
  rw [List.length_append] at hpl
  have hH : ∀ l : List Int, l = pgS (pre ++ [x]) → Has _ ⟨up T.box b1.n [.acc lb.n l.length], up T.acc lb.n (.arr 1 (l.map dI))⟩ := fun v hv => by rw [hv]; exact Has_upd2 hT _ _
  have hu : ∀ (l : List Int), (⟨up ((b4.n, [.v (.func (.func 71) #[] #[])]) :: (b3.n, cT n) :: (b1.n, [.acc lb.n (pgS pre).length]) :: (b.n, cT n) :: S.box) b1.n [.acc lb.n l.length], up ((lb.n, .arr 1 ((pgS pre).map dI)) :: S.acc) lb.n (.arr 1 (l.map dI))⟩ : St) = ⟨(b4.n, [.v (.func (.func 71) #[] #[])]) :: (b3.n, cT n) :: (b1.n, [.acc lb.n l.length]) :: (b.n, cT n) :: S.box, (lb.n, .arr 1 (l.map dI)) :: S.acc⟩ := fun v => by (refine @goW _ ?_; exact goT)
  have hK : ∀ v o, Kp ⟨(b4.n, [.v (.func (.func 71) #[] #[])]) :: (b3.n, cT n) :: (b1.n, [.acc lb.n (pgS pre).length]) :: (b.n, cT n) :: S.box, (lb.n, .arr 1 ((pgS pre).map dI)) :: S.acc⟩ T ⟨up T.box b1.n v, up T.acc lb.n o⟩ := fun v o => Kp_up2 (by (refine @goW _ ?_; exact goT)) (by (refine @goW _ ?_; exact goT))
  simp only [hu] at hH
  simp only [setPs]
  (refine @goW _ ?_; refine goS2 @t1 @u1 ?_)
  intro b5
  have hb5 : ¬ b5.n = b1.n := fun e => by have := fn_lk b5; rw [e, t1] at this; cases this
  have hm8 : maxLen = 9223372036854775807 := rfl
  refine ⟨fun hp0 => ⟨by omega, by omega, ?_⟩, fun hp0 => ?_⟩
  all_goals
   have hlL : (if x.leaf = true then x.l else []).length ≤ 1048576 := by split <;> first | exact hxl | exact Nat.zero_le _
   generalize hL : (if x.leaf = true then x.l else []) = L at *
   obtain ⟨P0, hP0⟩ : ∃ P0, P0 = pgS pre ++ (if x.page ≠ 0 then [x.page] else []) := ⟨_, rfl⟩
   have hx : pgS (pre ++ [x]) = P0 ++ L.flatMap C.pages := by rw [pgS_snoc, h1, hP0, List.append_assoc]
   have hxlen : P0.length + (L.flatMap C.pages).length ≤ 1073741824 := by
    rw [h1] at hpl
    rw [hP0]
    simp only [List.length_append] at hpl ⊢
    omega
   have htk : ∀ k, ((L.take k).flatMap C.pages).length ≤ (L.flatMap C.pages).length := fun k => by
    have := congrArg (List.flatMap C.pages) (List.take_append_drop k L)
    have := congrArg List.length this
    simp only [List.flatMap_append, List.length_append] at this
    omega
   refine loopN [] L.length [3, 9, 19, 20, 21] (fun k => [(21, dI k)]) (fun k => ⟨up T.box b1.n [.acc lb.n (P0 ++ (L.take k).flatMap C.pages).length], up T.acc lb.n (.arr 1 ((P0 ++ (L.take k).flatMap C.pages).map dI))⟩) (fun _ => True) mx (by kernel_rfl) ?_ ?_
   ·(refine @goW _ ?_; refine goS ?_)
    refine .consB ?_
    first
     | (rw [if_pos (show x.page ≠ 0 from hp0)] at hP0
        subst hP0
        simp only [List.flatMap_nil, List.length_append, List.length_cons, List.length_nil, Nat.add_zero, Nat.zero_add, List.append_nil, List.map_append, List.map_cons, List.map_nil]
        exact .refl _)
     | (rw [if_neg (show ¬ x.page ≠ 0 from hp0), List.append_nil] at hP0
        subst hP0
        simp only [List.flatMap_nil, List.length_nil, Nat.add_zero, List.append_nil]
        rw [up_same t1, up_same u1]
        exact .refl _)
   ·intro k hk _
    have e2 : ∀ z : List DV, lk (up T.box b1.n z) b1.n = some z := fun z => by rw [lk_up_same, t1]; rfl
    have e3 : ∀ z : Ob, lk (up T.acc lb.n z) lb.n = some z := fun z => by rw [lk_up_same, u1]; rfl
    have htk0 := htk k
    have htk1 := htk (k + 1)
    have hsu : ∀ {c : C}, L[k]? = some c → (L.take (k + 1)).flatMap C.pages = (L.take k).flatMap C.pages ++ c.pages := fun {c} hc => by rw [List.take_add_one, hc]; simp
    (refine @goW _ ?_; refine goS3 @e2 @e3 @up_up ?_)
    refine ⟨fun hlt => ⟨hlt, fun c hc b6 => ?_⟩, fun hge => ?_⟩
    ·have hs := hsu hc
     have hs2 := congrArg List.length hs
     rw [List.length_append] at hs2
     refine ⟨by omega, by omega, hlt, by rw [w64 (by omega) (by omega)]; omega, .consB ?_⟩
     rw [hs]
     simp only [List.length_append, Nat.add_assoc, List.append_assoc]
     exact .refl _
    ·have hkL : k = L.length := by omega
     rw [hkL, List.take_length]
     rw [hkL, List.take_length] at htk0
     have hxl2 := congrArg List.length hx
     rw [List.length_append] at hxl2
     refine ⟨?_, hK _ _⟩
     have := hH (P0 ++ L.flatMap C.pages) hx.symm
     rw [List.length_append] at this
     exact this
 ·(refine @goW _ ?_; refine goS ?_)
  refine .inl ?_
  refine useK (sort_int w0 (S := ⟨_, (lb.n, .arr 1 ((pgS (visN noB n)).map dI)) :: S.acc⟩) (l := lb.n) (zs := pgS (visN noB n)) (by (refine @goW _ ?_; exact goT)) (by omega)) ?_
  rintro d S' ⟨rfl, rfl⟩
  (refine @goW _ ?_; refine goS ?_)
  exact ⟨_, _, .refl _, .consB (.consB (.consB (.consB (.refl _)))), lb, rfl, rfl⟩
def hitI (l : List Int) (p : Int) : Bool := decide (p ∈ l)
def fltI (l zs : List Int) : List Int := zs.filter fun p => !hitI l p
def pgsT (n : N) : List Int := srt (pgS (visN noB n))
theorem mk_short {z : Nat} (h : z ≤ 400) (f : Int) : (pagesR f (longN z)).length ≤ 4 := by rw [pagesR_len]; exact longN_le h
theorem markCs_mem (b : Bool) : ∀ {l : List C} {f : Int} {x : C}, x ∈ (markCs b l f).1 → ∃ c f', c ∈ l ∧ x = (markC b c f').1
 | c :: l, f, x, h => by
  simp only [markCs] at h
  rcases List.mem_cons.1 h with e | h
  ·exact ⟨c, f, List.mem_cons_self, e⟩
  ·obtain ⟨c', f', h1, h2⟩ := markCs_mem b h
   exact ⟨c', f', List.mem_cons_of_mem _ h1, h2⟩
theorem markN_l (n : N) (f : Int) : (markN n f).1.l = (markCs n.leaf n.l f).1 := by rw [markN_eq]; split <;> rfl
theorem markN_leaf (n : N) (f : Int) : (markN n f).1.leaf = n.leaf := by rw [markN_eq]; split <;> rfl
theorem nd_mark : ∀ {d : Nat} {n : N} (f : Int), Nd d n → Nd d (markN n f).1
 | 0, n, f, h => by
  refine ⟨by rw [markN_leaf]; exact h.1, fun x hx => ?_⟩
  rw [markN_l, h.1] at hx
  obtain ⟨c, f', hc, rfl⟩ := markCs_mem true hx
  obtain ⟨h1, h2⟩ := h.2 c hc
  rw [markC_leaf]
  refine ⟨⟨h1.1, h1.2.1, ?_⟩, h2⟩
  show (if 16 < c.data.size then pagesR f' (longN c.data.size) else c.pages).length ≤ 4
  split
  ·exact mk_short h1.2.1 _
  ·exact h1.2.2
 | d + 1, n, f, h => by
  refine ⟨by rw [markN_leaf]; exact h.1, ?_, fun x hx => ?_⟩
  ·rw [markN_l]
   intro e
   have := markCs_len n.leaf n.l f
   rw [e] at this
   exact h.2.1 (List.eq_nil_of_length_eq_zero this.symm)
  ·rw [markN_l, h.1] at hx
   obtain ⟨c, f', hc, rfl⟩ := markCs_mem false hx
   obtain ⟨h1, k, hk, hnd⟩ := h.2.2 c hc
   rw [markC_br hk]
   exact ⟨⟨h1.1, h1.2.1, h1.2.2⟩, _, rfl, nd_mark f' hnd⟩
theorem tot_mark : ∀ {d : Nat} {n : N} (f : Int), Nd d n → totN (markN n f).1 = totN n := by
 have cs : ∀ (b : Bool) (l : List C) (f : Int), (∀ c, c ∈ l → ∀ f, totC (markC b c f).1 = totC c) → tot (markCs b l f).1 = tot l := by
  intro b l
  induction l with
  | nil => intro f _; rfl
  | cons c l ih =>
   intro f h
   simp only [markCs, tot_cons]
   rw [h c List.mem_cons_self, ih _ fun c hc => h c (List.mem_cons_of_mem _ hc)]
 intro d
 induction d with
 | zero =>
  intro n f h
  rw [totN_tot, totN_tot, markN_l, h.1]
  refine cs true n.l f fun c hc f => ?_
  rw [markC_leaf, totC_eq, totC_eq]; rfl
 | succ d ih =>
  intro n f h
  rw [totN_tot, totN_tot, markN_l, h.1]
  refine cs false n.l f fun c hc f => ?_
  obtain ⟨_, k, hk, hnd⟩ := h.2.2 c hc
  rw [markC_br hk, totC_kid hk, totC_kid (k := (markN k f).1) rfl, ih f hnd]
structure Wt where
 txn : Int
 pages : List Int
 deriving DecidableEq
structure Pl where
 high : Int
 free : List Int
 wait : List Wt
 deriving DecidableEq
theorem eq_of_take {α : Type} {a b : List α} {k : Nat} (h : a.take k = b.take k) (hl : ¬ ¬ a.length = b.length) (hk : ¬ k < a.length) : a = b := by
 rw [List.take_of_length_le (by omega), List.take_of_length_le (by omega)] at h; exact h
theorem take_eq_succ {α : Type} {a b : List α} {k : Nat} {x y : α} (h : a.take k = b.take k) (hx : a[k]? = some x) (hy : b[k]? = some y) (e : x = y) : a.take (k + 1) = b.take (k + 1) := by
 rw [List.take_add_one, List.take_add_one, h, hx, hy, e]
theorem ints3 (w0 : W0) (a b : List Int) (S : St) (h0 : a.length ≤ 4611686018427387904) : ACall Tryz.prog w0 14 [dL a, dL b] S (fun d S' => d = dB (decide (a = b)) ∧ S' = S) := by
 refine fnS [] mx Tryz.func14 rfl rfl (by kernel_rfl) ?_; (refine @goW _ ?_; refine goS1 @Tryz.ntmps14 ?_)
 refine ⟨fun hne e => hne (by rw [e]), fun he => ?_⟩
 refine loopN [] a.length [0, 1, 5] (fun k => [(5, dI k)]) (fun _ => S) (fun k => a.take k = b.take k) mx (by kernel_rfl) ?_ ?_
 ·(refine @goW _ ?_; exact goT)
 ·intro k hk hup
  (refine @goW _ ?_; refine goS ?_)
  simp +contextual (disch := first | omega | assumption) only [w64, wu64, wu8, Option.some.injEq, forall_eq, forall_eq', forall_eq_apply_imp_iff, true_and, and_true, forall_const, true_implies, implies_true, not_true_eq_false, not_false_eq_true, false_implies, and_self, Int.toNat_natCast]
  exact ⟨fun hlt x hx => ⟨by omega, fun y hy => ⟨fun hxy e => hxy (getE (e ▸ hx) hy), fun hxy => ⟨take_eq_succ hup hx hy (by omega), by omega⟩⟩⟩, fun hge => eq_of_take hup he hge⟩
theorem grow0 (w0 : W0) (n : Int) (S : St) (h0 : 0 ≤ n) (h1 : n ≤ 1099511627776) : ACall Tryz.prog w0 69 [.sl 0 true [], dI n] S (fun d S' => ∃ l : FN S.acc, d = .acc l.n 0 ∧ S' = ⟨S.box, (l.n, .arr 1 []) :: S.acc⟩) := by
 refine acall_nil (K' := fun d S' => (d = .sl 0 true [] ∧ S' = S) ∨ ∃ l : FN S.acc, d = .acc l.n 0 ∧ S' = ⟨S.box, (l.n, .arr 1 []) :: S.acc⟩) ?_ 1 (by omega) ?_
 ·refine fnO [] mx Tryz.func69 rfl rfl (by kernel_rfl) ?_; (refine @goW _ ?_; refine goS1 @Tryz.ntmps69 ?_)
  have e1 : IntKind.i64.wrap (0 - 0) = 0 := w64 (by omega) (by omega)
  rw [e1, Int.sub_zero, w64 (by omega) (by omega)]
  refine ⟨fun h => by omega, fun h h2 => ⟨by omega, by omega, by omega, fun l => .inl ⟨⟨_, _, _, rfl⟩, by simp, fun l' => ⟨⟨l'.n, l'.h.2.2⟩, rfl, rfl⟩⟩⟩⟩
 ·rintro d S' (⟨rfl, rfl⟩ | h)
  ·exact .inr ⟨⟨0, rfl⟩, fun l hl => ⟨⟨l, hl⟩, rfl, rfl⟩⟩
  ·exact .inl h
def flat (rows : List (List Int)) : List Int := rows.flatten
theorem flat_succ {rows : List (List Int)} {k : Nat} {a : List Int} (h : rows[k]? = some a) : flat (rows.take (k + 1)) = flat (rows.take k) ++ a := by
 unfold flat
 rw [List.take_add_one, h]
 simp
theorem flat_le (rows : List (List Int)) (k : Nat) : (flat (rows.take k)).length ≤ (flat rows).length := by
 have : flat rows = flat (rows.take k) ++ flat (rows.drop k) := by
  unfold flat
  rw [← List.flatten_append, List.take_append_drop]
 rw [this]; simp
theorem concat (w0 : W0) (rows : List (List Int)) (S : St) (h0 : rows.length ≤ 1099511627776) (h1 : (flat rows).length ≤ 1099511627776) :
  ACall Tryz.prog w0 39 [.sl 1 false (rows.map dL)] S (fun d S' => ∃ l : FN S.acc, d = .acc l.n (flat rows).length ∧ S' = ⟨S.box, (l.n, .arr 1 ((flat rows).map dI)) :: S.acc⟩) := by
 refine fnO [] mx Tryz.func39 rfl rfl (by kernel_rfl) ?_; (refine @goW _ ?_; refine goS1 @Tryz.ntmps39 ?_)
 refine loopN [] rows.length [0, 3, 9, 10, 11] (fun k => [(3, dI (flat (rows.take k)).length), (11, dI k)]) (fun _ => S) (fun k => True) mx (by kernel_rfl) ?_ ?_
 ·(refine @goW _ ?_; refine goS ?_)
  simp [flat]
 ·intro k hk _
  (refine @goW _ ?_; refine goS ?_)
  refine ⟨fun hlt => ⟨hlt, fun a ha => ?_⟩, fun hge => ?_⟩
  ·have h2 := flat_succ ha
   have h3 := flat_le rows (k + 1)
   rw [h2, List.length_append] at h3
   rw [w64 (by omega) (by omega)]
   refine ⟨fun h => by omega, fun h => ⟨hlt, ?_, w64 (by omega) (by omega)⟩⟩
   rw [h2, List.length_append]; omega
  ·rw [List.take_of_length_le (by omega)]
   refine useK (grow0 w0 (flat rows).length S (by omega) (by omega)) ?_
   rintro d S' ⟨l, rfl, rfl⟩
   (refine @goW _ ?_; refine goS ?_)
   refine loopN [] rows.length [6, 25, 26, 27] (fun k => [(6, .acc l.n (flat (rows.take k)).length), (27, dI k)]) (fun k => ⟨S.box, (l.n, .arr 1 ((flat (rows.take k)).map dI)) :: S.acc⟩) (fun k => True) mx (by kernel_rfl) ?_ ?_
   ·(refine @goW _ ?_; refine goS ?_)
    simp [flat, Wk.refl, Sub.refl]
   ·intro k hk _
    (refine @goW _ ?_; refine goS ?_)
    refine ⟨fun hlt => ⟨hlt, fun a ha => ?_⟩, fun hge => ⟨l, ?_⟩⟩
    ·have h2 := flat_succ ha
     have h3 := flat_le rows (k + 1)
     rw [h2, List.length_append] at h3
     refine ⟨by omega, by unfold maxLen; omega, hlt, ⟨?_, w64 (by omega) (by omega)⟩, ?_⟩
     ·rw [h2, List.length_append]; exact .refl _
     ·rw [h2]; exact .refl _
    ·rw [List.take_of_length_le (by omega)]; exact ⟨rfl, rfl⟩
def pgs (l : List Wt) : List (List Int) := l.map (·.pages)
def listed (p : Pl) : List Int := srt (flat (p.free :: pgs p.wait))
theorem srt_perm (l : List Int) : (srt l).Perm l := List.mergeSort_perm l _
theorem srt_up (l : List Int) : (srt l).Pairwise (· ≤ ·) := by
 have := List.pairwise_mergeSort (le := fun x y : Int => decide (x ≤ y)) (fun a b c h k => by simp at *; omega) (fun a b => by simp; omega) l
 exact this.imp fun h => by simpa using h
theorem srt_eq {a b : List Int} (h1 : a.Pairwise (· ≤ ·)) (h2 : a.Perm b) : a = srt b :=
 List.Perm.eq_of_pairwise (le := (· ≤ ·)) (fun x y _ _ h k => Int.le_antisymm h k) h1 (srt_up b) (h2.trans (srt_perm b).symm)
theorem srt_congr {a b : List Int} (h : a.Perm b) : srt a = srt b := srt_eq (srt_up a) ((srt_perm a).trans h)
theorem srt_insert {p : List Int} {x : Int} {j : Nat} (h1 : ∀ (i : Nat) a, i < j → (srt p)[i]? = some a → a ≤ x) (h2 : ∀ a, (srt p)[j]? = some a → x < a) : (srt p).take j ++ x :: (srt p).drop j = srt (p ++ [x]) := by
 have hp := srt_up p
 refine srt_eq ?_ ?_
 ·rw [List.pairwise_append]
  have hs : (srt p).take j ++ (srt p).drop j = srt p := List.take_append_drop _ _
  rw [← hs, List.pairwise_append] at hp
  have hd : ∀ y ∈ (srt p).drop j, x ≤ y := by
   intro y hy
   cases he : (srt p).drop j with
   | nil => rw [he] at hy; cases hy
   | cons z t =>
    have hz : (srt p)[j]? = some z := by
     have := congrArg (fun l => l[0]?) he
     simpa using this
    have hxz := h2 z hz
    have hpd := hp.2.1
    rw [he] at hpd hy
    rcases List.mem_cons.1 hy with rfl | hy
    ·omega
    ·have := (List.pairwise_cons.1 hpd).1 y hy; omega
  refine ⟨hp.1, List.pairwise_cons.2 ⟨fun y hy => hd y hy, hp.2.1⟩, fun y hy z hz => ?_⟩
  have hyx : y ≤ x := by
   obtain ⟨i, hi⟩ := List.getElem?_of_mem hy
   rw [List.getElem?_take] at hi
   split at hi
   ·rename_i hlt; exact h1 i y hlt hi
   ·cases hi
  rcases List.mem_cons.1 hz with rfl | hz
  ·exact hyx
  ·have := hd z hz; omega
 ·have hs : (srt p).take j ++ (srt p).drop j = srt p := List.take_append_drop _ _
  have : ((srt p).take j ++ x :: (srt p).drop j).Perm (x :: srt p) := by
   have := List.perm_middle (a := x) (l₁ := (srt p).take j) (l₂ := (srt p).drop j)
   rw [hs] at this; exact this
  exact this.trans (((srt_perm p).cons x).trans (List.perm_append_singleton x p).symm)
theorem take_snoc {α : Type} {l : List α} {k : Nat} {a : α} (h : l[k]? = some a) : l.take (k + 1) = l.take k ++ [a] := by rw [List.take_add_one, h]; rfl
theorem sortedR (w0 : W0) (l : List Int) (S : St) (h0 : l.length ≤ 1048576) :
  ACall Tryz.prog w0 31 [dL l] S (fun d S' => d = dL (srt l) ∧ S' = S) := by
 refine fnS [] mx Tryz.func31 rfl rfl (by kernel_rfl) ?_; (refine @goW _ ?_; refine goS1 @Tryz.ntmps31 ?_)
 refine loopNZ [] [3] l.length [0, 3, 4] (fun k => [(3, dL (srt (l.take k))), (4, dI k)]) (fun _ => S) (fun k => True) mx (by kernel_rfl) ?_ ?_
 ·(refine @goW _ ?_; refine goS ?_)
  rw [show srt [] = [] by simp [srt]]
  (refine @goW _ ?_; exact goT)
 ·intro k hk _
  (refine @goW _ ?_; refine goS ?_)
  refine ⟨fun hlt => ?_, fun hge => ?_⟩
  ·obtain ⟨x, hx⟩ : ∃ x, l[k]? = some x := ⟨_, List.getElem?_eq_getElem hlt⟩
   have hsl : (srt (l.take k)).length = k := by rw [srt_length, List.length_take]; omega
   refine loopK [] [0, 3, 4, 5] (fun j : Nat => [(5, dI j)]) (fun _ => S) (fun j => j ≤ k ∧ ∀ (i : Nat) a, i < j → (srt (l.take k))[i]? = some a → a ≤ x) (fun j => k - j) 0 mx (by kernel_rfl) ?_ ?_
   ·(refine @goW _ ?_; refine goS ?_)
    exact ⟨by omega, fun i a hi => by omega⟩
   ·intro j hjj
    have hj := hjj.1
    have hup := hjj.2
    clear hjj
    (refine @goW _ ?_; refine goS ?_)
    have fin : (∀ a, (srt (l.take k))[j]? = some a → x < a) → List.map dI ((srt (l.take k)).take j) ++ [DV.v (.int .i64 x)] ++ List.map dI ((srt (l.take k)).drop j) = List.map dI (srt (l.take (k + 1))) := by
     intro h
     rw [take_snoc hx, ← srt_insert (x := x) (j := j) hup h]
     simp [dI]
    rw [hsl]
    refine ⟨fun h1 => ⟨h1, fun a ha => ⟨hlt, fun y hy => ?_⟩⟩, fun h1 => ?_⟩
    ·cases getE hx hy
     refine ⟨fun h2 => ⟨j + 1, ⟨by omega, fun i b hi hb => ?_⟩, by omega, w64 (by omega) (by omega)⟩, fun h2 => ?_⟩
     ·by_cases e : i = j
      ·subst e; cases getE ha hb; exact h2
      ·exact hup i b (by omega) hb
     ·refine ⟨by omega, by omega, by unfold maxLen; omega, fun b => ⟨hlt, fun y hy => ?_⟩⟩
      cases getE hx hy
      have f2 := fin (fun b hb => by cases getE ha hb; omega)
      simp only [List.append_assoc] at f2 ⊢
      rw [f2]
      exact ⟨by omega, by unfold maxLen; omega, by omega, by omega, by unfold maxLen; omega, hlt, .refl _, w64 (by omega) (by omega)⟩
    ·refine ⟨by omega, by omega, by unfold maxLen; omega, fun b => ⟨hlt, fun y hy => ?_⟩⟩
     cases getE hx hy
     have f2 := fin (fun b hb => by have := (List.getElem?_eq_some_iff.1 hb).1; omega)
     simp only [List.append_assoc] at f2 ⊢
     rw [f2]
     exact ⟨by omega, by unfold maxLen; omega, by omega, by omega, by unfold maxLen; omega, hlt, .refl _, w64 (by omega) (by omega)⟩
  ·rw [List.take_of_length_le (by omega)]; exact .refl _
theorem sum_flat {α : Type} (f : α → Nat) (g : N → List α) (l : List N) : ((l.reverse.flatMap g).map f).sum = (l.map fun n => ((g n).map f).sum).sum := by
 induction l with
 | nil => rfl
 | cons a l ih => rw [List.reverse_cons, List.flatMap_append, List.map_append, List.sum_append, ih, List.map_cons, List.sum_cons]; simp; omega
def wT (ends : N → Bool) (f : N → Nat) (n : N) : Nat := ((visN ends n).map f).sum
theorem wT_eq (ends : N → Bool) (f : N → Nat) (n : N) : wT ends f n = f n + if ends n then 0 else ((kidsOf n).map (wT ends f)).sum := by
 unfold wT
 rw [visN_eq, List.map_cons, List.sum_cons]
 split
 ·rfl
 ·rw [sum_flat]
theorem wT_le (ends : N → Bool) (f : N → Nat) (hf : ∀ d x, Nd d x → f x ≤ 1 + if x.leaf then 4 * x.l.length else 0) : ∀ (d : Nat) (n : N), Nd d n → wT ends f n ≤ 1 + 5 * totN n
 | 0, n, h => by
  have h1 := hf 0 n h
  have h2 := tot_len n
  rw [wT_eq, kidsOf_leaf h.1]
  rw [h.1, if_pos rfl] at h1
  split <;> simp <;> omega
 | d + 1, n, h => by
  have h1 := hf _ n h
  rw [h.1, if_neg (by simp)] at h1
  rw [wT_eq, kids_nd h, totN_tot]
  have : ∀ l : List C, (∀ c, c ∈ l → c ∈ n.l) → ((l.map kid0).map (wT ends f)).sum ≤ 5 * tot l := by
   intro l
   induction l with
   | nil => intro _; exact Nat.zero_le _
   | cons c l ih =>
    intro hl
    obtain ⟨_, k, hk, hnd⟩ := h.2.2 c (hl c List.mem_cons_self)
    have h1 := ih fun c hc => hl c (List.mem_cons_of_mem _ hc)
    have h2 := wT_le ends f hf d k hnd
    rw [List.map_cons, List.map_cons, List.sum_cons, kid0_eq hk, tot_cons, totC_kid hk]
    omega
  have := this n.l fun _ h => h
  split <;> omega
theorem vis_len (ends : N → Bool) {d : Nat} {n : N} (h : Nd d n) : (visN ends n).length ≤ 1 + 5 * totN n := by
 have := wT_le ends (fun _ => 1) (fun _ _ _ => by omega) d n h
 unfold wT at this
 have e : ∀ l : List N, (l.map fun _ => 1).sum = l.length := fun l => by
  induction l with
  | nil => rfl
  | cons a l ih => rw [List.map_cons, List.sum_cons, ih, List.length_cons]; omega
 rwa [e] at this
theorem vis_mem (ends : N → Bool) : ∀ (d : Nat) (n : N), Nd d n → ∀ x, x ∈ visN ends n → ∃ d', Nd d' x ∧ totN x ≤ totN n
 | 0, n, h, x, hx => by
  rw [visN_eq, kidsOf_leaf h.1] at hx
  have : x = n := by
   rcases List.mem_cons.1 hx with e | hx
   ·exact e
   ·split at hx <;> cases hx
  subst this
  exact ⟨0, h, Nat.le_refl _⟩
 | d + 1, n, h, x, hx => by
  rw [visN_eq, kids_nd h] at hx
  rcases List.mem_cons.1 hx with rfl | hx
  ·exact ⟨_, h, Nat.le_refl _⟩
  ·split at hx
   ·cases hx
   ·obtain ⟨k, hk, hx⟩ := List.mem_flatMap.1 hx
    obtain ⟨c, hc, rfl⟩ := List.mem_map.1 (List.mem_reverse.1 hk)
    obtain ⟨_, k, hkid, hnd⟩ := h.2.2 c hc
    rw [kid0_eq hkid] at hx
    obtain ⟨d', h1, h2⟩ := vis_mem ends d k hnd x hx
    have := tot_kid hc hkid
    exact ⟨d', h1, by omega⟩
theorem vis_l (ends : N → Bool) {d : Nat} {n : N} (h : Nd d n) (x : N) (hx : x ∈ visN ends n) : x.l.length ≤ totN n := by
 obtain ⟨d', h1, h2⟩ := vis_mem ends d n h x hx
 have := tot_len x
 omega
theorem fcS_le (l : List C) : fcS l ≤ 4 * l.length := by
 unfold fcS
 induction l with
 | nil => exact Nat.le_refl _
 | cons c l ih =>
  have : fc1 c ≤ 4 := by unfold fc1; split; exact need_le _; omega
  rw [List.map_cons, List.sum_cons, List.length_cons]; omega
theorem fr1_le (x : N) : fr1 x ≤ 1 + if x.leaf then 4 * x.l.length else 0 := by
 unfold fr1
 split
 ·omega
 ·split
  ·omega
  ·split
   ·have := fcS_le x.l; omega
   ·simp [fcS]
theorem pages_le {l : List C} (h : ∀ c, c ∈ l → Sh c) : (l.flatMap C.pages).length ≤ 4 * l.length := by
 induction l with
 | nil => exact Nat.le_refl _
 | cons c l ih =>
  have h1 := ih fun c hc => h c (List.mem_cons_of_mem _ hc)
  have h2 := (h c List.mem_cons_self).2.2
  rw [List.flatMap_cons, List.length_append, List.length_cons]; omega
theorem pg1_le {d : Nat} {x : N} (h : Nd d x) : (pg1 x).length ≤ 1 + if x.leaf then 4 * x.l.length else 0 := by
 unfold pg1
 rw [List.length_append]
 have h1 : (if x.page ≠ 0 then [x.page] else []).length ≤ 1 := by split <;> simp
 have h2 : ((if x.leaf then x.l else []).flatMap C.pages).length ≤ if x.leaf then 4 * x.l.length else 0 := by
  split
  ·exact pages_le (nd_sh h)
  ·simp
 omega
theorem pgS_le (ends : N → Bool) {d : Nat} {n : N} (h : Nd d n) : (pgS (visN ends n)).length ≤ 1 + 5 * totN n := by
 have := wT_le ends (fun x => (pg1 x).length) (fun d x hx => pg1_le hx) d n h
 unfold wT at this
 unfold pgS
 rw [List.length_flatMap]
 exact this
def frT (n : N) : Nat := frS (visN laidB n)
theorem frT_le {d : Nat} {n : N} (h : Nd d n) : frT n ≤ 1 + 5 * totN n := wT_le laidB fr1 (fun _ x _ => fr1_le x) d n h
def rfC (b : Bool) (c : C) : Nat := if b then fc1 c else frT (kid0 c)
def rfS (b : Bool) (l : List C) : Nat := (l.map (rfC b)).sum
theorem rfS_succ {b : Bool} {l : List C} {k : Nat} {c : C} (h : l[k]? = some c) : rfS b (l.take (k + 1)) = rfS b (l.take k) + rfC b c := by
 unfold rfS
 rw [List.take_add_one, h]; simp
theorem rfS_take (b : Bool) (l : List C) (k : Nat) : rfS b (l.take k) ≤ rfS b l := by
 have := congrArg (rfS b) (List.take_append_drop k l)
 simp only [rfS, List.map_append, List.sum_append] at this ⊢
 omega
theorem frT_eq {d : Nat} {n : N} (h : Nd d n) : frT n = if n.page ≠ 0 then 0 else if n.leaf = true ∧ n.l = [] then 0 else 1 + rfS n.leaf n.l := by
 have h1 : frT n = wT laidB fr1 n := rfl
 have e : fr1 n = if n.page ≠ 0 then 0 else if n.leaf = true ∧ n.l = [] then 0 else 1 + fcS (if n.leaf then n.l else []) := rfl
 rw [h1, wT_eq, e]
 by_cases hp : n.page ≠ 0
 ·have hb : laidB n = true := decide_eq_true hp
  rw [if_pos hp, if_pos hp, hb]; rfl
 ·have hb : laidB n = false := decide_eq_false hp
  rw [if_neg hp, if_neg hp, hb]
  have e2 : ∀ x : Nat, (if false = true then 0 else x) = x := fun x => if_neg (by simp)
  rw [e2]
  by_cases hz : n.leaf = true ∧ n.l = []
  ·rw [if_pos hz, if_pos hz, kidsOf_leaf hz.1]; rfl
  ·rw [if_neg hz, if_neg hz]
   cases d with
   | zero => rw [kidsOf_leaf h.1, h.1]; rfl
   | succ d =>
    rw [kids_nd h, h.1, List.map_map, show (if false = true then n.l else []) = [] from rfl, show fcS [] = 0 from rfl]
    rfl
theorem freshR (w0 : W0) : ∀ (d : Nat) (n : N) (S : St), Nd d n → totN n ≤ 131072 → ACall Tryz.prog w0 16 [eN n] S (fun e S' => e = dI (frT n) ∧ S' = S) := by
 intro d
 induction d with
 | zero =>
  intro n S hn ht
  have hlf := hn.1
  have hl := tot_len n
  have hq := frT_eq hn
  have hle := frT_le hn
  rw [hlf] at hq
  refine fnS [] mx Tryz.func16 rfl rfl (by kernel_rfl) ?_; (refine @goW _ ?_; refine goS2 @Tryz.ntmps16 @hlf ?_)
  intro b
  refine ⟨fun hp => by rw [hq, if_pos hp]; rfl, fun hp => ⟨fun hl0 => by rw [hq, if_neg hp, if_pos ⟨rfl, List.eq_nil_of_length_eq_zero (by omega)⟩]; rfl, fun hl0 => ?_⟩⟩
  rw [if_neg hp, if_neg (fun e => by rw [e.2] at hl0; exact hl0 rfl)] at hq
  refine loopN [] n.l.length [1, 3, 4] (fun k => [(3, dI ((1 + rfS true (n.l.take k) : Nat) : Int)), (4, dI k)]) (fun k => ⟨(b.n, [dI n.page, dB true, .sl 4 false (n.l.map dC)]) :: S.box, S.acc⟩) (fun _ => True) mx (by kernel_rfl) ?_ ?_
  ·(refine @goW _ ?_; refine goS ?_)
   rfl
  ·intro k hk _
   have hrt := rfS_take true n.l k
   have hrt1 := rfS_take true n.l (k + 1)
   (refine @goW _ ?_; refine goS ?_)
   refine ⟨fun hlt => ⟨hlt, fun c hc b2 => ⟨fun hp0 => use1 (needR w0 _ _) ?_, fun hp0 => ⟨hlt, ?_, by rw [w64 (by omega) (by omega)]; omega⟩⟩⟩, fun hge => by rw [List.take_of_length_le (by omega), hq]⟩
   ·have h1 := rfS_succ (b := true) hc
    have h2 : rfC true c = need (c.data.size : Int) := by
     show fc1 c = _
     exact if_pos (List.eq_nil_of_length_eq_zero (by omega))
    (refine @goW _ ?_; refine goS ?_)
    refine ⟨hlt, by rw [w64 (by omega) (by omega)]; omega, by rw [w64 (by omega) (by omega)]; omega⟩
   ·have h1 := rfS_succ (b := true) hc
    have h2 : rfC true c = 0 := by
     show fc1 c = 0
     exact if_neg (fun e => by rw [e] at hp0; exact hp0 rfl)
    omega
 | succ d ih =>
  intro n S hn ht
  have hlf := hn.1
  have hl := tot_len n
  have hq := frT_eq hn
  have hle := frT_le hn
  rw [hlf] at hq
  refine fnS [] mx Tryz.func16 rfl rfl (by kernel_rfl) ?_; (refine @goW _ ?_; refine goS2 @Tryz.ntmps16 @hlf ?_)
  intro b
  refine ⟨fun hp => by rw [hq, if_pos hp]; rfl, fun hp => ?_⟩
  rw [if_neg hp, if_neg (by simp)] at hq
  refine loopN [] n.l.length [1, 3, 4] (fun k => [(3, dI ((1 + rfS false (n.l.take k) : Nat) : Int)), (4, dI k)]) (fun k => ⟨(b.n, [dI n.page, dB false, .sl 4 false (n.l.map dC)]) :: S.box, S.acc⟩) (fun _ => True) mx (by kernel_rfl) ?_ ?_
  ·(refine @goW _ ?_; refine goS ?_)
   rfl
  ·intro k hk _
   have hrt := rfS_take false n.l k
   have hrt1 := rfS_take false n.l (k + 1)
   (refine @goW _ ?_; refine goS ?_)
   refine ⟨fun hlt => ⟨hlt, fun c hc b2 => ?_⟩, fun hge => by rw [List.take_of_length_le (by omega), hq]⟩
   obtain ⟨_, kid, hkid, hnd⟩ := hn.2.2 c (List.mem_of_getElem? hc)
   have h1 := rfS_succ (b := false) hc
   have h2 : rfC false c = frT kid := by rw [← kid0_eq hkid]; rfl
   have h3 := tot_kid (List.mem_of_getElem? hc) hkid
   rw [hkid]
   refine ⟨by simp, fun kid' hk' => ?_⟩
   cases hk'
   refine use1 (ih kid _ hnd (by omega)) ?_
   (refine @goW _ ?_; refine goS ?_)
   refine ⟨hlt, by rw [w64 (by omega) (by omega)]; omega, by rw [w64 (by omega) (by omega)]; omega⟩
mutual
def alN : N → List Int
 | .mk p b l => (if p ≠ 0 then [p] else []) ++ alCs b l
def alC (b : Bool) : C → List Int
 | .mk _ _ ps kid => ps ++ if b then [] else alNs kid
def alCs (b : Bool) : List C → List Int
 | [] => []
 | c :: l => alC b c ++ alCs b l
def alNs : List N → List Int
 | [] => []
 | n :: _ => alN n
end
theorem alCs_flat (b : Bool) (l : List C) : alCs b l = l.flatMap (alC b) := by
 induction l with
 | nil => rfl
 | cons c l ih => rw [alCs, ih, List.flatMap_cons]
theorem alN_eq (n : N) : alN n = (if n.page ≠ 0 then [n.page] else []) ++ n.l.flatMap (alC n.leaf) := by
 cases n; rw [alN, alCs_flat]; rfl
theorem alC_leaf (c : C) : alC true c = c.pages := by cases c; simp [alC, C.pages]
theorem alC_br {c : C} {k : N} (h : c.kid = [k]) : alC false c = c.pages ++ alN k := by
 cases c with | mk a b d e =>
 simp only [C.kid_mk] at h
 subst h
 simp [alC, alNs, C.pages]
theorem flat_perm {α β : Type} {f g : α → List β} {l : List α} (h : ∀ a, a ∈ l → (f a).Perm (g a)) : (l.flatMap f).Perm (l.flatMap g) := by
 induction l with
 | nil => exact .refl _
 | cons a l ih =>
  rw [List.flatMap_cons, List.flatMap_cons]
  exact (h a List.mem_cons_self).append (ih fun x hx => h x (List.mem_cons_of_mem _ hx))
theorem al_perm : ∀ (d : Nat) (n : N), Nd d n → (alN n).Perm (pgS (visN noB n))
 | 0, n, h => by
  rw [alN_eq, visN_eq, kidsOf_leaf h.1]
  have : pgS (n :: if noB n = true then [] else List.flatMap (visN noB) [].reverse) = pg1 n := by simp [pgS, noB]
  rw [this]
  unfold pg1
  rw [h.1, if_pos rfl]
  rw [show alC true = C.pages from funext alC_leaf]
 | d + 1, n, h => by
  rw [alN_eq, visN_eq, kids_nd h, h.1]
  have e1 : pgS (n :: if noB n = true then [] else (n.l.map kid0).reverse.flatMap (visN noB)) = pg1 n ++ pgS ((n.l.map kid0).reverse.flatMap (visN noB)) := by simp [pgS, noB]
  have e2 : pg1 n = if n.page ≠ 0 then [n.page] else [] := by unfold pg1; rw [h.1]; simp
  rw [e1, e2]
  refine .append_left _ ?_
  have e3 : ∀ l : List N, pgS (l.flatMap (visN noB)) = l.flatMap fun k => pgS (visN noB k) := fun l => by unfold pgS; rw [List.flatMap_assoc]
  rw [e3]
  refine .trans ?_ (.symm ((List.reverse_perm _).flatMap_right _))
  rw [List.flatMap_map]
  refine flat_perm fun c hc => ?_
  obtain ⟨hs, k, hk, hnd⟩ := h.2.2 c hc
  rw [alC_br hk, kid0_eq hk, List.eq_nil_of_length_eq_zero (Nat.le_zero.1 hs.2.2), List.nil_append]
  exact al_perm d k hnd
theorem al_len {d : Nat} {n : N} (h : Nd d n) : (alN n).length ≤ 1 + 5 * totN n := by
 rw [(al_perm d n h).length_eq]
 exact pgS_le noB h
theorem alT_le (b : Bool) (l : List C) (k : Nat) : ((l.take k).flatMap (alC b)).length ≤ (l.flatMap (alC b)).length := by
 have := congrArg (List.flatMap (alC b)) (List.take_append_drop k l)
 have := congrArg List.length this
 simp only [List.flatMap_append, List.length_append] at this
 omega
theorem alT_succ {b : Bool} {l : List C} {k : Nat} {c : C} (h : l[k]? = some c) : (l.take (k + 1)).flatMap (alC b) = (l.take k).flatMap (alC b) ++ alC b c := by
 rw [List.take_add_one, h]; simp
theorem allR (w0 : W0) : ∀ (d : Nat) (n : N) (S : St), Nd d n → totN n ≤ 131072 → ACall Tryz.prog w0 32 [eN n] S (fun e S' => e = dL (alN n) ∧ S' = S) := by
 intro d
 induction d with
 | zero =>
  intro n S hn ht
  have hlf := hn.1
  have hl := tot_len n
  have hq := alN_eq n
  have hle := al_len hn
  rw [hlf] at hq
  have hm8 : maxLen = 9223372036854775807 := rfl
  refine fnS [2] mx Tryz.func32 rfl rfl (by kernel_rfl) ?_; (refine @goW _ ?_; refine goS2 @Tryz.ntmps32 @hlf ?_)
  intro b
  refine growK 3 1 rfl (by omega) fun lp => ?_
  refine shrK [] [] mx (by kernel_rfl) ?_
  (refine @goW _ ?_; refine goS ?_)
  refine ⟨fun hp => ⟨by omega, ?_⟩, fun hp => ?_⟩
  all_goals
   obtain ⟨P0, hP0⟩ : ∃ P0, P0 = (if n.page ≠ 0 then [n.page] else []) := ⟨_, rfl⟩
   rw [← hP0] at hq
   have hP1 : P0.length ≤ 1 := by rw [hP0]; split <;> simp
   rw [hq, List.length_append] at hle
   refine loopN [] n.l.length [1, 3, 4] (fun k => [(3, .acc lp.n (P0 ++ (n.l.take k).flatMap (alC true)).length), (4, dI k)]) (fun k => ⟨(b.n, [dI n.page, dB true, .sl 4 false (n.l.map dC)]) :: S.box, (lp.n, .arr 1 ((P0 ++ (n.l.take k).flatMap (alC true)).map dI)) :: S.acc⟩) (fun _ => True) mx (by kernel_rfl) ?_ ?_
   ·(refine @goW _ ?_; refine goS ?_)
    first
     | (rw [if_pos (show n.page ≠ 0 from hp)] at hP0
        subst hP0
        exact ⟨.refl _, .refl _⟩)
     | (rw [if_neg (show ¬ n.page ≠ 0 from hp)] at hP0
        subst hP0
        exact ⟨.refl _, .refl _⟩)
   ·intro k hk _
    have h1 := alT_le true n.l k
    have h2 := alT_le true n.l (k + 1)
    (refine @goW _ ?_; refine goS ?_)
    refine ⟨fun hlt => ⟨hlt, fun c hc => ?_⟩, fun hge => ?_⟩
    ·have h3 := alT_succ (b := true) hc
     have h4 := congrArg List.length h3
     rw [List.length_append, alC_leaf] at h4
     refine ⟨by omega, by omega, hlt, ⟨.eq (by rw [h4, Nat.add_assoc]), by rw [w64 (by omega) (by omega)]; omega⟩, ?_⟩
     rw [h3, alC_leaf, List.append_assoc]
     exact .refl _
    ·rw [List.take_of_length_le (by omega), hq]
     exact .refl _
 | succ d ih =>
  intro n S hn ht
  have hlf := hn.1
  have hl := tot_len n
  have hq := alN_eq n
  have hle := al_len hn
  rw [hlf] at hq
  have hm8 : maxLen = 9223372036854775807 := rfl
  refine fnS [2] mx Tryz.func32 rfl rfl (by kernel_rfl) ?_; (refine @goW _ ?_; refine goS2 @Tryz.ntmps32 @hlf ?_)
  intro b
  refine growK 3 1 rfl (by omega) fun lp => ?_
  refine shrK [] [] mx (by kernel_rfl) ?_
  (refine @goW _ ?_; refine goS ?_)
  refine ⟨fun hp => ⟨by omega, ?_⟩, fun hp => ?_⟩
  all_goals
   obtain ⟨P0, hP0⟩ : ∃ P0, P0 = (if n.page ≠ 0 then [n.page] else []) := ⟨_, rfl⟩
   rw [← hP0] at hq
   have hP1 : P0.length ≤ 1 := by rw [hP0]; split <;> simp
   rw [hq, List.length_append] at hle
   refine loopN [] n.l.length [1, 3, 4] (fun k => [(3, .acc lp.n (P0 ++ (n.l.take k).flatMap (alC false)).length), (4, dI k)]) (fun k => ⟨(b.n, [dI n.page, dB false, .sl 4 false (n.l.map dC)]) :: S.box, (lp.n, .arr 1 ((P0 ++ (n.l.take k).flatMap (alC false)).map dI)) :: S.acc⟩) (fun _ => True) mx (by kernel_rfl) ?_ ?_
   ·(refine @goW _ ?_; refine goS ?_)
    first
     | (rw [if_pos (show n.page ≠ 0 from hp)] at hP0
        subst hP0
        exact ⟨.refl _, .refl _⟩)
     | (rw [if_neg (show ¬ n.page ≠ 0 from hp)] at hP0
        subst hP0
        exact ⟨.refl _, .refl _⟩)
   ·intro k hk _
    have h1 := alT_le false n.l k
    have h2 := alT_le false n.l (k + 1)
    (refine @goW _ ?_; refine goS ?_)
    refine ⟨fun hlt => ⟨hlt, fun c hc => ?_⟩, fun hge => ?_⟩
    ·obtain ⟨hs, kid, hkid, hnd⟩ := hn.2.2 c (List.mem_of_getElem? hc)
     have hpn : c.pages = [] := List.eq_nil_of_length_eq_zero (Nat.le_zero.1 hs.2.2)
     have htk := tot_kid (List.mem_of_getElem? hc) hkid
     have hkl : ((n.l.take (k + 1)).flatMap (alC false)) = (n.l.take k).flatMap (alC false) ++ alN kid := by rw [alT_succ hc, alC_br hkid, hpn, List.nil_append]
     have hkn := congrArg List.length hkl
     rw [List.length_append] at hkn
     rw [hpn, List.append_nil, List.length_nil, Nat.add_zero]
     refine ⟨by omega, by omega, hlt, fun c2 hc2 => ?_⟩
     rw [hc] at hc2
     cases hc2
     rw [hkid]
     refine ⟨by simp, fun kid2 hkid2 => ?_⟩
     cases hkid2
     refine use1 (ih kid _ hnd (by omega)) ?_
     (refine @goW _ ?_; refine goS ?_)
     refine ⟨by omega, by omega, hlt, ⟨.eq (by rw [hkn, Nat.add_assoc]), by rw [w64 (by omega) (by omega)]; omega⟩, ?_⟩
     rw [hkl, List.append_assoc]
     exact .refl _
    ·rw [List.take_of_length_le (by omega), hq]
     exact .refl _
theorem refPagesW (w0 : W0) (d : Nat) (n : N) (S : St) (hn : Nd d n) (ht : totN n ≤ 131072) : ACall Tryz.prog w0 19 [eN n] S (fun e S' => e = dL (pgsT n) ∧ S' = S) := by
 have hle := al_len hn
 refine fnS [] mx Tryz.func19 rfl rfl (by kernel_rfl) ?_; (refine @goW _ ?_; refine goS1 @Tryz.ntmps19 ?_)
 intro b
 refine use1 (allR w0 d n _ hn ht) ?_
 (refine @goW _ ?_; refine goS ?_)
 refine use1 (sortedR w0 (alN n) _ (by omega)) ?_
 (refine @goW _ ?_; refine goS ?_)
 rw [srt_congr (al_perm d n hn)]
 exact .refl _
theorem withoutR (w0 : W0) (l o : List Int) (S : St) (h0 : l.length ≤ 1048576) (h1 : o.length ≤ 1048576) : ACall Tryz.prog w0 18 [dL l, dL o] S (fun e S' => e = dL (fltI o l) ∧ S' = S) := by
 have hm8 : maxLen = 9223372036854775807 := rfl
 refine fnS [2] mx Tryz.func18 rfl rfl (by kernel_rfl) ?_; (refine @goW _ ?_; refine goS1 @Tryz.ntmps18 ?_)
 refine growK 5 1 rfl (by omega) fun lp => ?_
 refine shrK [] [] mx (by kernel_rfl) ?_
 (refine @goW _ ?_; refine goS ?_)
 refine loopN [] l.length [0, 1, 5, 6] (fun k => [(5, .acc lp.n (fltI o (l.take k)).length), (6, dI k)]) (fun k => ⟨S.box, (lp.n, .arr 1 ((fltI o (l.take k)).map dI)) :: S.acc⟩) (fun _ => True) mx (by kernel_rfl) ?_ ?_
 ·(refine @goW _ ?_; refine goS ?_)
  exact ⟨.refl _, .refl _⟩
 ·intro k hk _
  (refine @goW _ ?_; refine goS ?_)
  refine ⟨fun hlt => ?_, fun hge => ?_⟩
  ·have hx : l[k]? = some l[k] := List.getElem?_eq_getElem hlt
   refine loopN [] o.length [0, 1, 5, 6, 7, 8] (fun j => [(7, dB (hitI (o.take j) l[k])), (8, dI j)]) (fun j => ⟨S.box, (lp.n, .arr 1 ((fltI o (l.take k)).map dI)) :: S.acc⟩) (fun _ => True) mx (by kernel_rfl) ?_ ?_
   ·(refine @goW _ ?_; refine goS ?_)
    rfl
   ·intro j hj _
    have hfl : (fltI o (l.take k)).length ≤ 1048576 := Nat.le_trans (List.length_filter_le _ _) (by rw [List.length_take]; omega)
    have hfs : fltI o (l.take (k + 1)) = fltI o (l.take k) ++ if hitI o l[k] then [] else [l[k]] := by
     unfold fltI
     rw [List.take_add_one, hx, Option.toList_some, List.filter_append]
     congr 1
     cases h : hitI o l[k] <;> simp [h]
    have hj1 : ∀ a, o[j]? = some a → hitI (o.take (j + 1)) l[k] = (hitI (o.take j) l[k] || decide (a = l[k])) := fun a ha => by
     unfold hitI
     rw [List.take_add_one, ha, Option.toList_some]
     rw [Bool.eq_iff_iff]
     simp only [List.mem_append, List.mem_singleton, Bool.or_eq_true, decide_eq_true_eq]
     exact ⟨fun h => h.imp id Eq.symm, fun h => h.imp id Eq.symm⟩
    have hk1 : IntKind.i64.wrap ((k : Int) + 1) = ((k + 1 : Nat) : Int) := by rw [w64 (by omega) (by omega)]; omega
    (refine @goW _ ?_; refine goS1 @hx ?_)
    refine ⟨fun hlj => ?_, fun hgj => ?_⟩
    ·have ho : o[j]? = some o[j] := List.getElem?_eq_getElem hlj
     have hj2 : IntKind.i64.wrap ((j : Int) + 1) = ((j + 1 : Nat) : Int) := by rw [w64 (by omega) (by omega)]; omega
     refine ⟨fun hh => ⟨hlj, by rw [hj1 _ ho, hh]; rfl, hj2⟩, fun hh => ⟨hlj, fun a ha => ⟨hlt, hlj, by rw [hj1 _ ha, hh]; rfl, hj2⟩⟩⟩
    ·rw [List.take_of_length_le (Nat.le_of_not_lt hgj)]
     refine ⟨fun hh => ⟨hlt, ⟨?_, hk1⟩, ?_⟩, fun hh => ⟨hlt, by omega, by omega, hlt, ⟨?_, hk1⟩, ?_⟩⟩
     ·rw [hfs, hh]; simp only [if_true, List.append_nil]; exact .refl _
     ·rw [hfs, hh]; simp only [if_true, List.append_nil]; exact .refl _
     ·rw [hfs, hh, List.length_append]; exact .refl _
     ·rw [hfs, hh, List.map_append]; exact .refl _
  ·rw [List.take_of_length_le (by omega)]
   exact .refl _
end Go.Proofs.YtpcmnebpnpgcmaaGreatDoor
