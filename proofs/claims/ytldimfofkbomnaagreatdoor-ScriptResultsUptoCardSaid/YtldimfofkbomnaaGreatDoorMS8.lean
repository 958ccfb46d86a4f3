/-
  An operation's fields, each by a pointer into it: shown and taken; An operation as a line: what it is; An operation as a line: what the program computes; An operation as a line: what the reference computes; A line's words: what they are, and what the program computes; A word is taken; A line is parsed: what the program computes; The reference's parser: its parts; The reference's parser: numbers and texts; A line is parsed: what the reference computes; What is shown is parsed: the program's parser; What is shown is parsed: the reference's parser; so both answer alike; Both parsers answer alike; Operations that are the same; Lines: what both computes of them. By an AI agent.
-/
import Derived.Test.YtldimfofkbomnaaGreatDoorMS7
import Derived.Lib.SplitLaws
set_option linter.unusedVariables false
set_option linter.unusedSimpArgs false
set_option maxRecDepth 100000
set_option maxHeartbeats 16000000
namespace Go.Proofs.YtldimfofkbomnaaGreatDoor
open Aml Go Go.RowKit
@[go_sem] def pt (b k : Nat) : DV := .v (.pointer (some ⟨b, k, none⟩))
@[go_sem] def fv (f : FuncId) (bs : List Nat) : DV := .v (.func (.func f) #[] (bs.map fun b => Value.pointer (some ⟨b, 0, none⟩)).toArray)
theorem at1 (w0 : W0) (b : Nat) (S : St) : ACall Tryz.prog w0 59 [pt b 0] S (fun d S' => d = pt b 1 ∧ S' = S) := by
 refine fnS [] mx Tryz.func59 rfl rfl (by kernel_rfl) ?_; simp (maxDischargeDepth := 12) (maxSteps := 1000000) -implicitDefEqProofs only [Tryz.ntmps59, go_sem, Nat.reduceAdd, Nat.reduceSub, Nat.reduceMul, Nat.reduceLeDiff, Nat.reduceEqDiff, Nat.reduceGT, Nat.reduceBEq, reduceCtorEq, ↓reduceIte, Int.reduceToNat, Int.reduceLE, Int.reduceLT, Int.reduceNe, Int.reduceEq]
theorem at2 (w0 : W0) (b : Nat) (S : St) : ACall Tryz.prog w0 60 [pt b 0] S (fun d S' => d = pt b 2 ∧ S' = S) := by
 refine fnS [] mx Tryz.func60 rfl rfl (by kernel_rfl) ?_; simp (maxDischargeDepth := 12) (maxSteps := 1000000) -implicitDefEqProofs only [Tryz.ntmps60, go_sem, Nat.reduceAdd, Nat.reduceSub, Nat.reduceMul, Nat.reduceLeDiff, Nat.reduceEqDiff, Nat.reduceGT, Nat.reduceBEq, reduceCtorEq, ↓reduceIte, Int.reduceToNat, Int.reduceLE, Int.reduceLT, Int.reduceNe, Int.reduceEq]
theorem at3 (w0 : W0) (b : Nat) (S : St) : ACall Tryz.prog w0 61 [pt b 0] S (fun d S' => d = pt b 3 ∧ S' = S) := by
 refine fnS [] mx Tryz.func61 rfl rfl (by kernel_rfl) ?_; simp (maxDischargeDepth := 12) (maxSteps := 1000000) -implicitDefEqProofs only [Tryz.ntmps61, go_sem, Nat.reduceAdd, Nat.reduceSub, Nat.reduceMul, Nat.reduceLeDiff, Nat.reduceEqDiff, Nat.reduceGT, Nat.reduceBEq, reduceCtorEq, ↓reduceIte, Int.reduceToNat, Int.reduceLE, Int.reduceLT, Int.reduceNe, Int.reduceEq]
theorem at4 (w0 : W0) (b : Nat) (S : St) : ACall Tryz.prog w0 63 [pt b 0] S (fun d S' => d = pt b 4 ∧ S' = S) := by
 refine fnS [] mx Tryz.func63 rfl rfl (by kernel_rfl) ?_; simp (maxDischargeDepth := 12) (maxSteps := 1000000) -implicitDefEqProofs only [Tryz.ntmps63, go_sem, Nat.reduceAdd, Nat.reduceSub, Nat.reduceMul, Nat.reduceLeDiff, Nat.reduceEqDiff, Nat.reduceGT, Nat.reduceBEq, reduceCtorEq, ↓reduceIte, Int.reduceToNat, Int.reduceLE, Int.reduceLT, Int.reduceNe, Int.reduceEq]
theorem at5 (w0 : W0) (b : Nat) (S : St) : ACall Tryz.prog w0 64 [pt b 0] S (fun d S' => d = pt b 5 ∧ S' = S) := by
 refine fnS [] mx Tryz.func64 rfl rfl (by kernel_rfl) ?_; simp (maxDischargeDepth := 12) (maxSteps := 1000000) -implicitDefEqProofs only [Tryz.ntmps64, go_sem, Nat.reduceAdd, Nat.reduceSub, Nat.reduceMul, Nat.reduceLeDiff, Nat.reduceEqDiff, Nat.reduceGT, Nat.reduceBEq, reduceCtorEq, ↓reduceIte, Int.reduceToNat, Int.reduceLE, Int.reduceLT, Int.reduceNe, Int.reduceEq]
theorem at6 (w0 : W0) (b : Nat) (S : St) : ACall Tryz.prog w0 65 [pt b 0] S (fun d S' => d = pt b 6 ∧ S' = S) := by
 refine fnS [] mx Tryz.func65 rfl rfl (by kernel_rfl) ?_; simp (maxDischargeDepth := 12) (maxSteps := 1000000) -implicitDefEqProofs only [Tryz.ntmps65, go_sem, Nat.reduceAdd, Nat.reduceSub, Nat.reduceMul, Nat.reduceLeDiff, Nat.reduceEqDiff, Nat.reduceGT, Nat.reduceBEq, reduceCtorEq, ↓reduceIte, Int.reduceToNat, Int.reduceLE, Int.reduceLT, Int.reduceNe, Int.reduceEq]
theorem at7 (w0 : W0) (b : Nat) (S : St) : ACall Tryz.prog w0 66 [pt b 0] S (fun d S' => d = pt b 7 ∧ S' = S) := by
 refine fnS [] mx Tryz.func66 rfl rfl (by kernel_rfl) ?_; simp (maxDischargeDepth := 12) (maxSteps := 1000000) -implicitDefEqProofs only [Tryz.ntmps66, go_sem, Nat.reduceAdd, Nat.reduceSub, Nat.reduceMul, Nat.reduceLeDiff, Nat.reduceEqDiff, Nat.reduceGT, Nat.reduceBEq, reduceCtorEq, ↓reduceIte, Int.reduceToNat, Int.reduceLE, Int.reduceLT, Int.reduceNe, Int.reduceEq]
theorem at8 (w0 : W0) (b : Nat) (S : St) : ACall Tryz.prog w0 67 [pt b 0] S (fun d S' => d = pt b 8 ∧ S' = S) := by
 refine fnS [] mx Tryz.func67 rfl rfl (by kernel_rfl) ?_; simp (maxDischargeDepth := 12) (maxSteps := 1000000) -implicitDefEqProofs only [Tryz.ntmps67, go_sem, Nat.reduceAdd, Nat.reduceSub, Nat.reduceMul, Nat.reduceLeDiff, Nat.reduceEqDiff, Nat.reduceGT, Nat.reduceBEq, reduceCtorEq, ↓reduceIte, Int.reduceToNat, Int.reduceLE, Int.reduceLT, Int.reduceNe, Int.reduceEq]
theorem at9 (w0 : W0) (b : Nat) (S : St) : ACall Tryz.prog w0 68 [pt b 0] S (fun d S' => d = pt b 9 ∧ S' = S) := by
 refine fnS [] mx Tryz.func68 rfl rfl (by kernel_rfl) ?_; simp (maxDischargeDepth := 12) (maxSteps := 1000000) -implicitDefEqProofs only [Tryz.ntmps68, go_sem, Nat.reduceAdd, Nat.reduceSub, Nat.reduceMul, Nat.reduceLeDiff, Nat.reduceEqDiff, Nat.reduceGT, Nat.reduceBEq, reduceCtorEq, ↓reduceIte, Int.reduceToNat, Int.reduceLE, Int.reduceLT, Int.reduceNe, Int.reduceEq]
theorem drop_at {ds : List DV} {k : Nat} {d : DV} (h : ds[k]? = some d) : ds.drop k = d :: ds.drop (k + 1) := by
 obtain ⟨h1, h2⟩ := List.getElem?_eq_some_iff.1 h
 rw [List.drop_eq_getElem_cons h1, h2]
theorem showN (w0 : W0) (hp : KP w0) {F b c k : Nat} {ds : List DV} {n : Int} {S : St} (hF : okF Tryz.prog F = true) (hat : ∀ S, ACall Tryz.prog w0 F [pt b 0] S (fun d S' => d = pt b k ∧ S' = S)) (hb : lk S.box b = some ds) (hd : ds[k]? = some (dI n)) (hc : lk S.box c = some [fv F []])
  (h0 : -9223372036854775808 ≤ n) (h1 : n ≤ 9223372036854775807) : ACall Tryz.prog w0 83 [pt b 0, pt c 0] S (fun d S' => d = dS (tx (if n = 0 then [] else Lib.itoa n)) ∧ S' = S) := by
 have hdk := drop_at hd
 refine fnS [] mx Tryz.func83 rfl rfl (by kernel_rfl) ?_; simp only [Tryz.ntmps83, List.length_cons, List.length_nil, Nat.reduceAdd, Nat.reduceSub, List.reduceReplicate, List.cons_append, List.nil_append]; simp (maxDischargeDepth := 12) (maxSteps := 1000000) -implicitDefEqProofs only [Tryz.ntmps83, go_sem, Nat.reduceAdd, Nat.reduceSub, Nat.reduceMul, Nat.reduceLeDiff, Nat.reduceEqDiff, Nat.reduceGT, Nat.reduceBEq, reduceCtorEq, ↓reduceIte, Int.reduceToNat, Int.reduceLE, Int.reduceLT, Int.reduceNe, Int.reduceEq, hc, hF]
 refine use1 (hat _) ?_
 simp (maxDischargeDepth := 12) (maxSteps := 1000000) -implicitDefEqProofs only [go_sem, Nat.reduceAdd, Nat.reduceSub, Nat.reduceMul, Nat.reduceLeDiff, Nat.reduceEqDiff, Nat.reduceGT, Nat.reduceBEq, reduceCtorEq, ↓reduceIte, Int.reduceToNat, Int.reduceLE, Int.reduceLT, Int.reduceNe, Int.reduceEq, hb, hdk, hc, hF]
 refine ⟨fun h => by rw [if_pos h]; rfl, fun h => ?_⟩
 rw [if_neg h]
 refine use1 (hat _) ?_
 simp (maxDischargeDepth := 12) (maxSteps := 1000000) -implicitDefEqProofs only [go_sem, Nat.reduceAdd, Nat.reduceSub, Nat.reduceMul, Nat.reduceLeDiff, Nat.reduceEqDiff, Nat.reduceGT, Nat.reduceBEq, reduceCtorEq, ↓reduceIte, Int.reduceToNat, Int.reduceLE, Int.reduceLT, Int.reduceNe, Int.reduceEq, hb, hdk, hc, hF]
 refine use1 (itoaP w0 hp n h0 h1 _) ?_
 simp (maxDischargeDepth := 12) (maxSteps := 1000000) -implicitDefEqProofs only [go_sem, Nat.reduceAdd, Nat.reduceSub, Nat.reduceMul, Nat.reduceLeDiff, Nat.reduceEqDiff, Nat.reduceGT, Nat.reduceBEq, reduceCtorEq, ↓reduceIte, Int.reduceToNat, Int.reduceLE, Int.reduceLT, Int.reduceNe, Int.reduceEq]
theorem showT (w0 : W0) (hu : KU w0) {F b c k : Nat} {ds : List DV} {l : List UInt8} {S : St} (hF : okF Tryz.prog F = true) (hat : ∀ S, ACall Tryz.prog w0 F [pt b 0] S (fun d S' => d = pt b k ∧ S' = S)) (hb : lk S.box b = some ds) (hd : ds[k]? = some (dS (tx l))) (hc : lk S.box c = some [fv F []])
  (hl : l.length ≤ 1048576) : ACall Tryz.prog w0 86 [pt b 0, pt c 0] S (fun d S' => d = dS (tx (if l = [] then [] else qt l)) ∧ S' = S) := by
 have hdk := drop_at hd
 refine fnS [] mx Tryz.func86 rfl rfl (by kernel_rfl) ?_; simp only [Tryz.ntmps86, List.length_cons, List.length_nil, Nat.reduceAdd, Nat.reduceSub, List.reduceReplicate, List.cons_append, List.nil_append]; simp (maxDischargeDepth := 12) (maxSteps := 1000000) -implicitDefEqProofs only [Tryz.ntmps86, go_sem, Nat.reduceAdd, Nat.reduceSub, Nat.reduceMul, Nat.reduceLeDiff, Nat.reduceEqDiff, Nat.reduceGT, Nat.reduceBEq, reduceCtorEq, ↓reduceIte, Int.reduceToNat, Int.reduceLE, Int.reduceLT, Int.reduceNe, Int.reduceEq, hc, hF]
 refine use1 (hat _) ?_
 simp (maxDischargeDepth := 12) (maxSteps := 1000000) -implicitDefEqProofs only [go_sem, Nat.reduceAdd, Nat.reduceSub, Nat.reduceMul, Nat.reduceLeDiff, Nat.reduceEqDiff, Nat.reduceGT, Nat.reduceBEq, reduceCtorEq, ↓reduceIte, Int.reduceToNat, Int.reduceLE, Int.reduceLT, Int.reduceNe, Int.reduceEq, hb, hdk, hc, hF, tx_list]
 refine ⟨fun h => by rw [if_pos h]; rfl, fun h => ?_⟩
 rw [if_neg h]
 refine use1 (hat _) ?_
 simp (maxDischargeDepth := 12) (maxSteps := 1000000) -implicitDefEqProofs only [go_sem, Nat.reduceAdd, Nat.reduceSub, Nat.reduceMul, Nat.reduceLeDiff, Nat.reduceEqDiff, Nat.reduceGT, Nat.reduceBEq, reduceCtorEq, ↓reduceIte, Int.reduceToNat, Int.reduceLE, Int.reduceLT, Int.reduceNe, Int.reduceEq, hb, hdk, hc, hF]
 refine use1 (quoteP w0 hu (tx l) (by rw [tx_size]; exact hl) _) ?_
 simp (maxDischargeDepth := 12) (maxSteps := 1000000) -implicitDefEqProofs only [go_sem, Nat.reduceAdd, Nat.reduceSub, Nat.reduceMul, Nat.reduceLeDiff, Nat.reduceEqDiff, Nat.reduceGT, Nat.reduceBEq, reduceCtorEq, ↓reduceIte, Int.reduceToNat, Int.reduceLE, Int.reduceLT, Int.reduceNe, Int.reduceEq, tx_list]
theorem takeN (w0 : W0) (hk : KE w0) {F b c k : Nat} {ds : List DV} {n : Int} {s : List UInt8} {S : St} (hF : okF Tryz.prog F = true) (hat : ∀ S, ACall Tryz.prog w0 F [pt b 0] S (fun d S' => d = pt b k ∧ S' = S)) (hb : lk S.box b = some ds) (hd : ds[k]? = some (dI n)) (hc : lk S.box c = some [fv F []])
  (hs : s.length ≤ 1048576) : ACall Tryz.prog w0 84 [pt b 0, dS (tx s), pt c 0] S (fun d S' => (∃ x, d = dB x) ∧ S' = ⟨Aml.up S.box b (ds.set k (dI (atV s))), S.acc⟩) := by
 have hdk := drop_at hd
 refine fnP [] mx Tryz.func84 rfl rfl (by kernel_rfl) ?_; simp only [Tryz.ntmps84, List.length_cons, List.length_nil, Nat.reduceAdd, Nat.reduceSub, List.reduceReplicate, List.cons_append, List.nil_append]; simp (maxDischargeDepth := 12) (maxSteps := 1000000) -implicitDefEqProofs only [Tryz.ntmps84, go_sem, Nat.reduceAdd, Nat.reduceSub, Nat.reduceMul, Nat.reduceLeDiff, Nat.reduceEqDiff, Nat.reduceGT, Nat.reduceBEq, reduceCtorEq, ↓reduceIte, Int.reduceToNat, Int.reduceLE, Int.reduceLT, Int.reduceNe, Int.reduceEq, hc, hF]
 refine useK (atoiP w0 hk (tx s) (by rw [tx_size]; exact hs) S) ?_
 rw [tx_list]
 rintro d S' ⟨⟨e, rfl, he⟩, rfl⟩
 rcases he with rfl | ⟨N, rfl⟩
 ·simp (maxDischargeDepth := 12) (maxSteps := 1000000) -implicitDefEqProofs only [go_sem, Nat.reduceAdd, Nat.reduceSub, Nat.reduceMul, Nat.reduceLeDiff, Nat.reduceEqDiff, Nat.reduceGT, Nat.reduceBEq, reduceCtorEq, ↓reduceIte, Int.reduceToNat, Int.reduceLE, Int.reduceLT, Int.reduceNe, Int.reduceEq, hc, hF]
  refine use1 (hat _) ?_
  simp (maxDischargeDepth := 12) (maxSteps := 1000000) -implicitDefEqProofs only [go_sem, Nat.reduceAdd, Nat.reduceSub, Nat.reduceMul, Nat.reduceLeDiff, Nat.reduceEqDiff, Nat.reduceGT, Nat.reduceBEq, reduceCtorEq, ↓reduceIte, Int.reduceToNat, Int.reduceLE, Int.reduceLT, Int.reduceNe, Int.reduceEq, hb, hdk, hc, hF]
  exact ⟨(List.getElem?_eq_some_iff.1 hd).1, _, _, .refl _, .refl _, ⟨_, rfl⟩, rfl⟩
 ·unfold errD
  simp (maxDischargeDepth := 12) (maxSteps := 1000000) -implicitDefEqProofs only [go_sem, Nat.reduceAdd, Nat.reduceSub, Nat.reduceMul, Nat.reduceLeDiff, Nat.reduceEqDiff, Nat.reduceGT, Nat.reduceBEq, reduceCtorEq, ↓reduceIte, Int.reduceToNat, Int.reduceLE, Int.reduceLT, Int.reduceNe, Int.reduceEq, hc, hF]
  refine use1 (hat _) ?_
  simp (maxDischargeDepth := 12) (maxSteps := 1000000) -implicitDefEqProofs only [go_sem, Nat.reduceAdd, Nat.reduceSub, Nat.reduceMul, Nat.reduceLeDiff, Nat.reduceEqDiff, Nat.reduceGT, Nat.reduceBEq, reduceCtorEq, ↓reduceIte, Int.reduceToNat, Int.reduceLE, Int.reduceLT, Int.reduceNe, Int.reduceEq, hb, hdk, hc, hF]
  exact ⟨(List.getElem?_eq_some_iff.1 hd).1, _, _, .refl _, .refl _, ⟨_, rfl⟩, rfl⟩
theorem takeT (w0 : W0) (hu : KU w0) (hk : KE w0) {F b c k : Nat} {ds : List DV} {l s : List UInt8} {S : St} (hF : okF Tryz.prog F = true) (hat : ∀ S, ACall Tryz.prog w0 F [pt b 0] S (fun d S' => d = pt b k ∧ S' = S)) (hb : lk S.box b = some ds) (hd : ds[k]? = some (dS (tx l))) (hc : lk S.box c = some [fv F []])
  (hs : s.length ≤ 1048576) : ACall Tryz.prog w0 87 [pt b 0, dS (tx s), pt c 0] S (fun d S' => (∃ x, d = dB x) ∧ S' = ⟨Aml.up S.box b (ds.set k (dS (tx (unP s).1))), S.acc⟩) := by
 have hdk := drop_at hd
 refine fnP [] mx Tryz.func87 rfl rfl (by kernel_rfl) ?_; simp only [Tryz.ntmps87, List.length_cons, List.length_nil, Nat.reduceAdd, Nat.reduceSub, List.reduceReplicate, List.cons_append, List.nil_append]; simp (maxDischargeDepth := 12) (maxSteps := 1000000) -implicitDefEqProofs only [Tryz.ntmps87, go_sem, Nat.reduceAdd, Nat.reduceSub, Nat.reduceMul, Nat.reduceLeDiff, Nat.reduceEqDiff, Nat.reduceGT, Nat.reduceBEq, reduceCtorEq, ↓reduceIte, Int.reduceToNat, Int.reduceLE, Int.reduceLT, Int.reduceNe, Int.reduceEq, hc, hF]
 refine use1 (unquoteP w0 hu hk (tx s) (by rw [tx_size]; exact hs) S) ?_
 rw [tx_list]
 simp (maxDischargeDepth := 12) (maxSteps := 1000000) -implicitDefEqProofs only [go_sem, Nat.reduceAdd, Nat.reduceSub, Nat.reduceMul, Nat.reduceLeDiff, Nat.reduceEqDiff, Nat.reduceGT, Nat.reduceBEq, reduceCtorEq, ↓reduceIte, Int.reduceToNat, Int.reduceLE, Int.reduceLT, Int.reduceNe, Int.reduceEq, hc, hF]
 refine use1 (hat _) ?_
 simp (maxDischargeDepth := 12) (maxSteps := 1000000) -implicitDefEqProofs only [go_sem, Nat.reduceAdd, Nat.reduceSub, Nat.reduceMul, Nat.reduceLeDiff, Nat.reduceEqDiff, Nat.reduceGT, Nat.reduceBEq, reduceCtorEq, ↓reduceIte, Int.reduceToNat, Int.reduceLE, Int.reduceLT, Int.reduceNe, Int.reduceEq, hb, hdk, hc, hF]
 exact ⟨(List.getElem?_eq_some_iff.1 hd).1, _, _, .refl _, .refl _, ⟨_, rfl⟩, rfl⟩
@[go_sem] def fld (nme : List UInt8) (sh tk c : Nat) : DV := .agg [dS (tx nme), fv sh [c], fv tk [c]]
theorem mkN (w0 : W0) (nme : ByteArray) (F : Nat) (S : St) : ACall Tryz.prog w0 58 [dS nme, fv F []] S (fun d S' => ∃ c : FN S.box, d = fld nme.data.toList 83 84 c.n ∧ S' = ⟨(c.n, [fv F []]) :: S.box, S.acc⟩) := by
 refine fnP [] mx Tryz.func58 rfl rfl (by kernel_rfl) ?_; simp (maxDischargeDepth := 12) (maxSteps := 1000000) -implicitDefEqProofs only [Tryz.ntmps58, go_sem, Nat.reduceAdd, Nat.reduceSub, Nat.reduceMul, Nat.reduceLeDiff, Nat.reduceEqDiff, Nat.reduceGT, Nat.reduceBEq, reduceCtorEq, ↓reduceIte, Int.reduceToNat, Int.reduceLE, Int.reduceLT, Int.reduceNe, Int.reduceEq]
 intro b b1
 exact ⟨_, _, .refl _, .consB (.refl _), b, rfl, rfl⟩
theorem mkT (w0 : W0) (nme : ByteArray) (F : Nat) (S : St) : ACall Tryz.prog w0 62 [dS nme, fv F []] S (fun d S' => ∃ c : FN S.box, d = fld nme.data.toList 86 87 c.n ∧ S' = ⟨(c.n, [fv F []]) :: S.box, S.acc⟩) := by
 refine fnP [] mx Tryz.func62 rfl rfl (by kernel_rfl) ?_; simp (maxDischargeDepth := 12) (maxSteps := 1000000) -implicitDefEqProofs only [Tryz.ntmps62, go_sem, Nat.reduceAdd, Nat.reduceSub, Nat.reduceMul, Nat.reduceLeDiff, Nat.reduceEqDiff, Nat.reduceGT, Nat.reduceBEq, reduceCtorEq, ↓reduceIte, Int.reduceToNat, Int.reduceLE, Int.reduceLT, Int.reduceNe, Int.reduceEq]
 intro b b1
 exact ⟨_, _, .refl _, .consB (.refl _), b, rfl, rfl⟩
def fnm : List (List UInt8) := [[108, 101, 118, 101, 108], [115, 101, 115, 115, 105, 111, 110], [115, 110, 97, 112], [98, 117, 99, 107, 101, 116], [107, 101, 121], [118, 97, 108, 117, 101], [108, 97, 98, 101, 108], [116, 111], [110]]
def isT (i : Nat) : Bool := decide (3 ≤ i) && decide (i ≤ 5)
def shF (i : Nat) : Nat := if isT i then 86 else 83
def tkF (i : Nat) : Nat := if isT i then 87 else 84
def atF (i : Nat) : Nat := [59, 60, 61, 63, 64, 65, 66, 67, 68].getD i 0
def rowsF (c : Nat → Nat) : List DV := (List.range 9).map fun i => fld (fnm.getD i []) (shF i) (tkF i) (c i)
def Fr (B L : List (Nat × List DV)) : Prop := ∀ p, p ∈ B → lk L p.1 = none
theorem Fr.lk {B L : List (Nat × List DV)} (h : Fr B L) {b : Nat} {ds : List DV} (hb : Aml.lk L b = some ds) : Aml.lk (B ++ L) b = some ds := by
 induction B with
 | nil => exact hb
 | cons p B ih =>
  obtain ⟨k, x⟩ := p
  have h1 := h (k, x) List.mem_cons_self
  simp only [List.cons_append, Aml.lk]
  rw [if_neg (by rintro rfl; rw [hb] at h1; cases h1)]
  exact ih fun p hp => h p (List.mem_cons_of_mem _ hp)
theorem Fr.up {B L : List (Nat × List DV)} (h : Fr B L) {b : Nat} {ds : List DV} (hb : Aml.lk L b = some ds) (v : List DV) : Aml.up (B ++ L) b v = B ++ Aml.up L b v := by
 induction B with
 | nil => rfl
 | cons p B ih =>
  obtain ⟨k, x⟩ := p
  have h1 := h (k, x) List.mem_cons_self
  simp only [List.cons_append, Aml.up]
  rw [if_neg (by rintro rfl; rw [hb] at h1; cases h1), ih fun p hp => h p (List.mem_cons_of_mem _ hp)]
theorem lk_appB {B L : List (Nat × List DV)} {c : Nat} {x : List DV} (h : lk B c = some x) : lk (B ++ L) c = some x := by
 induction B with
 | nil => cases h
 | cons p B ih =>
  obtain ⟨k, y⟩ := p
  simp only [List.cons_append, lk] at h ⊢
  split
  ·rename_i e; rw [if_pos e] at h; exact h
  ·rename_i e; rw [if_neg e] at h; exact ih h
theorem lk_cons_none {α : Type} {k n : Nat} {x : α} {t : List (Nat × α)} (h : lk ((k, x) :: t) n = none) : k ≠ n ∧ lk t n = none := by
 simp only [lk] at h
 split at h
 ·cases h
 ·exact ⟨by assumption, h⟩
theorem fieldsP (w0 : W0) (S : St) : ACall Tryz.prog w0 33 [] S (fun d S' => ∃ (B : List (Nat × List DV)) (c : Nat → Nat), Fr B S.box ∧ S' = ⟨B ++ S.box, S.acc⟩ ∧ d = .sl 3 true (rowsF c) ∧ ∀ i, i < 9 → lk B (c i) = some [fv (atF i) []]) := by
 refine fnP [] mx Tryz.func33 rfl rfl (by kernel_rfl) ?_; simp (maxDischargeDepth := 12) (maxSteps := 1000000) -implicitDefEqProofs only [Tryz.ntmps33, go_sem, Nat.reduceAdd, Nat.reduceSub, Nat.reduceMul, Nat.reduceLeDiff, Nat.reduceEqDiff, Nat.reduceGT, Nat.reduceBEq, reduceCtorEq, ↓reduceIte, Int.reduceToNat, Int.reduceLE, Int.reduceLT, Int.reduceNe, Int.reduceEq]
 refine useK (mkN w0 _ _ _) ?_
 rintro _ _ ⟨c1, rfl, rfl⟩
 simp (maxDischargeDepth := 12) (maxSteps := 1000000) -implicitDefEqProofs only [go_sem, Nat.reduceAdd, Nat.reduceSub, Nat.reduceMul, Nat.reduceLeDiff, Nat.reduceEqDiff, Nat.reduceGT, Nat.reduceBEq, reduceCtorEq, ↓reduceIte, Int.reduceToNat, Int.reduceLE, Int.reduceLT, Int.reduceNe, Int.reduceEq]
 refine useK (mkN w0 _ _ _) ?_
 rintro _ _ ⟨c2, rfl, rfl⟩
 simp (maxDischargeDepth := 12) (maxSteps := 1000000) -implicitDefEqProofs only [go_sem, Nat.reduceAdd, Nat.reduceSub, Nat.reduceMul, Nat.reduceLeDiff, Nat.reduceEqDiff, Nat.reduceGT, Nat.reduceBEq, reduceCtorEq, ↓reduceIte, Int.reduceToNat, Int.reduceLE, Int.reduceLT, Int.reduceNe, Int.reduceEq]
 refine useK (mkN w0 _ _ _) ?_
 rintro _ _ ⟨c3, rfl, rfl⟩
 simp (maxDischargeDepth := 12) (maxSteps := 1000000) -implicitDefEqProofs only [go_sem, Nat.reduceAdd, Nat.reduceSub, Nat.reduceMul, Nat.reduceLeDiff, Nat.reduceEqDiff, Nat.reduceGT, Nat.reduceBEq, reduceCtorEq, ↓reduceIte, Int.reduceToNat, Int.reduceLE, Int.reduceLT, Int.reduceNe, Int.reduceEq]
 refine useK (mkT w0 _ _ _) ?_
 rintro _ _ ⟨c4, rfl, rfl⟩
 simp (maxDischargeDepth := 12) (maxSteps := 1000000) -implicitDefEqProofs only [go_sem, Nat.reduceAdd, Nat.reduceSub, Nat.reduceMul, Nat.reduceLeDiff, Nat.reduceEqDiff, Nat.reduceGT, Nat.reduceBEq, reduceCtorEq, ↓reduceIte, Int.reduceToNat, Int.reduceLE, Int.reduceLT, Int.reduceNe, Int.reduceEq]
 refine useK (mkT w0 _ _ _) ?_
 rintro _ _ ⟨c5, rfl, rfl⟩
 simp (maxDischargeDepth := 12) (maxSteps := 1000000) -implicitDefEqProofs only [go_sem, Nat.reduceAdd, Nat.reduceSub, Nat.reduceMul, Nat.reduceLeDiff, Nat.reduceEqDiff, Nat.reduceGT, Nat.reduceBEq, reduceCtorEq, ↓reduceIte, Int.reduceToNat, Int.reduceLE, Int.reduceLT, Int.reduceNe, Int.reduceEq]
 refine useK (mkT w0 _ _ _) ?_
 rintro _ _ ⟨c6, rfl, rfl⟩
 simp (maxDischargeDepth := 12) (maxSteps := 1000000) -implicitDefEqProofs only [go_sem, Nat.reduceAdd, Nat.reduceSub, Nat.reduceMul, Nat.reduceLeDiff, Nat.reduceEqDiff, Nat.reduceGT, Nat.reduceBEq, reduceCtorEq, ↓reduceIte, Int.reduceToNat, Int.reduceLE, Int.reduceLT, Int.reduceNe, Int.reduceEq]
 refine useK (mkN w0 _ _ _) ?_
 rintro _ _ ⟨c7, rfl, rfl⟩
 simp (maxDischargeDepth := 12) (maxSteps := 1000000) -implicitDefEqProofs only [go_sem, Nat.reduceAdd, Nat.reduceSub, Nat.reduceMul, Nat.reduceLeDiff, Nat.reduceEqDiff, Nat.reduceGT, Nat.reduceBEq, reduceCtorEq, ↓reduceIte, Int.reduceToNat, Int.reduceLE, Int.reduceLT, Int.reduceNe, Int.reduceEq]
 refine useK (mkN w0 _ _ _) ?_
 rintro _ _ ⟨c8, rfl, rfl⟩
 simp (maxDischargeDepth := 12) (maxSteps := 1000000) -implicitDefEqProofs only [go_sem, Nat.reduceAdd, Nat.reduceSub, Nat.reduceMul, Nat.reduceLeDiff, Nat.reduceEqDiff, Nat.reduceGT, Nat.reduceBEq, reduceCtorEq, ↓reduceIte, Int.reduceToNat, Int.reduceLE, Int.reduceLT, Int.reduceNe, Int.reduceEq]
 refine useK (mkN w0 _ _ _) ?_
 rintro _ _ ⟨c9, rfl, rfl⟩
 simp (maxDischargeDepth := 12) (maxSteps := 1000000) -implicitDefEqProofs only [go_sem, Nat.reduceAdd, Nat.reduceSub, Nat.reduceMul, Nat.reduceLeDiff, Nat.reduceEqDiff, Nat.reduceGT, Nat.reduceBEq, reduceCtorEq, ↓reduceIte, Int.reduceToNat, Int.reduceLE, Int.reduceLT, Int.reduceNe, Int.reduceEq]
 have k1 := nin_lk c1.h
 obtain ⟨n2_1, h2⟩ := lk_cons_none (nin_lk c2.h)
 obtain ⟨n3_2, h3⟩ := lk_cons_none (nin_lk c3.h)
 obtain ⟨n3_1, h3⟩ := lk_cons_none h3
 obtain ⟨n4_3, h4⟩ := lk_cons_none (nin_lk c4.h)
 obtain ⟨n4_2, h4⟩ := lk_cons_none h4
 obtain ⟨n4_1, h4⟩ := lk_cons_none h4
 obtain ⟨n5_4, h5⟩ := lk_cons_none (nin_lk c5.h)
 obtain ⟨n5_3, h5⟩ := lk_cons_none h5
 obtain ⟨n5_2, h5⟩ := lk_cons_none h5
 obtain ⟨n5_1, h5⟩ := lk_cons_none h5
 obtain ⟨n6_5, h6⟩ := lk_cons_none (nin_lk c6.h)
 obtain ⟨n6_4, h6⟩ := lk_cons_none h6
 obtain ⟨n6_3, h6⟩ := lk_cons_none h6
 obtain ⟨n6_2, h6⟩ := lk_cons_none h6
 obtain ⟨n6_1, h6⟩ := lk_cons_none h6
 obtain ⟨n7_6, h7⟩ := lk_cons_none (nin_lk c7.h)
 obtain ⟨n7_5, h7⟩ := lk_cons_none h7
 obtain ⟨n7_4, h7⟩ := lk_cons_none h7
 obtain ⟨n7_3, h7⟩ := lk_cons_none h7
 obtain ⟨n7_2, h7⟩ := lk_cons_none h7
 obtain ⟨n7_1, h7⟩ := lk_cons_none h7
 obtain ⟨n8_7, h8⟩ := lk_cons_none (nin_lk c8.h)
 obtain ⟨n8_6, h8⟩ := lk_cons_none h8
 obtain ⟨n8_5, h8⟩ := lk_cons_none h8
 obtain ⟨n8_4, h8⟩ := lk_cons_none h8
 obtain ⟨n8_3, h8⟩ := lk_cons_none h8
 obtain ⟨n8_2, h8⟩ := lk_cons_none h8
 obtain ⟨n8_1, h8⟩ := lk_cons_none h8
 obtain ⟨n9_8, h9⟩ := lk_cons_none (nin_lk c9.h)
 obtain ⟨n9_7, h9⟩ := lk_cons_none h9
 obtain ⟨n9_6, h9⟩ := lk_cons_none h9
 obtain ⟨n9_5, h9⟩ := lk_cons_none h9
 obtain ⟨n9_4, h9⟩ := lk_cons_none h9
 obtain ⟨n9_3, h9⟩ := lk_cons_none h9
 obtain ⟨n9_2, h9⟩ := lk_cons_none h9
 obtain ⟨n9_1, h9⟩ := lk_cons_none h9
 refine ⟨_, _, .refl _, .refl _, [(c9.n, [fv (atF 8) []]), (c8.n, [fv (atF 7) []]), (c7.n, [fv (atF 6) []]), (c6.n, [fv (atF 5) []]), (c5.n, [fv (atF 4) []]), (c4.n, [fv (atF 3) []]), (c3.n, [fv (atF 2) []]), (c2.n, [fv (atF 1) []]), (c1.n, [fv (atF 0) []])], fun i => [c1.n, c2.n, c3.n, c4.n, c5.n, c6.n, c7.n, c8.n, c9.n].getD i 0, ?_, rfl, rfl, ?_⟩
 ·intro p hp
  simp only [List.mem_cons, List.not_mem_nil, or_false] at hp
  rcases hp with rfl | rfl | rfl | rfl | rfl | rfl | rfl | rfl | rfl
  ·exact h9
  ·exact h8
  ·exact h7
  ·exact h6
  ·exact h5
  ·exact h4
  ·exact h3
  ·exact h2
  ·exact k1
 ·intro i hi
  match i, hi with
  | 0, _ => exact (if_neg (Ne.symm n9_1)).trans ((if_neg (Ne.symm n8_1)).trans ((if_neg (Ne.symm n7_1)).trans ((if_neg (Ne.symm n6_1)).trans ((if_neg (Ne.symm n5_1)).trans ((if_neg (Ne.symm n4_1)).trans ((if_neg (Ne.symm n3_1)).trans ((if_neg (Ne.symm n2_1)).trans (if_pos rfl))))))))
  | 1, _ => exact (if_neg (Ne.symm n9_2)).trans ((if_neg (Ne.symm n8_2)).trans ((if_neg (Ne.symm n7_2)).trans ((if_neg (Ne.symm n6_2)).trans ((if_neg (Ne.symm n5_2)).trans ((if_neg (Ne.symm n4_2)).trans ((if_neg (Ne.symm n3_2)).trans (if_pos rfl)))))))
  | 2, _ => exact (if_neg (Ne.symm n9_3)).trans ((if_neg (Ne.symm n8_3)).trans ((if_neg (Ne.symm n7_3)).trans ((if_neg (Ne.symm n6_3)).trans ((if_neg (Ne.symm n5_3)).trans ((if_neg (Ne.symm n4_3)).trans (if_pos rfl))))))
  | 3, _ => exact (if_neg (Ne.symm n9_4)).trans ((if_neg (Ne.symm n8_4)).trans ((if_neg (Ne.symm n7_4)).trans ((if_neg (Ne.symm n6_4)).trans ((if_neg (Ne.symm n5_4)).trans (if_pos rfl)))))
  | 4, _ => exact (if_neg (Ne.symm n9_5)).trans ((if_neg (Ne.symm n8_5)).trans ((if_neg (Ne.symm n7_5)).trans ((if_neg (Ne.symm n6_5)).trans (if_pos rfl))))
  | 5, _ => exact (if_neg (Ne.symm n9_6)).trans ((if_neg (Ne.symm n8_6)).trans ((if_neg (Ne.symm n7_6)).trans (if_pos rfl)))
  | 6, _ => exact (if_neg (Ne.symm n9_7)).trans ((if_neg (Ne.symm n8_7)).trans (if_pos rfl))
  | 7, _ => exact (if_neg (Ne.symm n9_8)).trans (if_pos rfl)
  | 8, _ => exact if_pos rfl
inductive Fl where
 | n (x : Int)
 | t (l : List UInt8)
def Fl.dv : Fl → DV
 | .n x => dI x
 | .t l => dS (tx l)
def Fl.shown : Fl → List UInt8
 | .n x => if x = 0 then [] else Lib.itoa x
 | .t l => if l = [] then [] else qt l
def flOk (m i : Nat) : Fl → Prop
 | .n x => isT i = false ∧ -9223372036854775808 ≤ x ∧ x ≤ 9223372036854775807
 | .t l => isT i = true ∧ l.length ≤ m
structure Ov where
 kind : Int
 fs : List Fl
 keep : List (List UInt8)
structure OvOk (m : Nat) (o : Ov) : Prop where
 k0 : -9223372036854775808 ≤ o.kind
 k1 : o.kind ≤ 9223372036854775807
 len : o.fs.length = 9
 fl : ∀ i f, o.fs[i]? = some f → flOk m i f
 kp : ∀ k, k ∈ o.keep → k.length ≤ m
 kn : o.keep.length ≤ m
def keepD (l : List (List UInt8)) : List DV := l.map fun k => dS (tx k)
def Ov.ds (o : Ov) (kd : DV) : List DV := dI o.kind :: (o.fs.map Fl.dv ++ [kd])
theorem ds_len {m : Nat} {o : Ov} (h : OvOk m o) (kd : DV) : (o.ds kd).length = 11 := by simp [Ov.ds, h.len]
theorem ds_at {o : Ov} {kd : DV} {i : Nat} {f : Fl} (h : o.fs[i]? = some f) : (o.ds kd)[i + 1]? = some f.dv := by
 unfold Ov.ds
 obtain ⟨h1, h2⟩ := List.getElem?_eq_some_iff.1 h
 rw [List.getElem?_cons_succ, List.getElem?_append_left (by simpa using h1), List.getElem?_map, h]; rfl
theorem ds_kp {m : Nat} {o : Ov} (h : OvOk m o) (kd : DV) : (o.ds kd)[10]? = some kd := by
 unfold Ov.ds
 rw [List.getElem?_cons_succ, List.getElem?_append_right (by simp [h.len])]
 simp [h.len]
def wordF (p : List UInt8 × Fl) : Option (List UInt8) := if p.2.shown = [] then none else some (p.1 ++ 61 :: p.2.shown)
def kpw : List UInt8 := [107, 101, 101, 112]
def wordK (k : List UInt8) : List UInt8 := kpw ++ 61 :: qt k
def wsF (o : Ov) : List (List UInt8) := (fnm.zip o.fs).filterMap wordF
def wsO (o : Ov) : List (List UInt8) := wsF o ++ o.keep.map wordK
def flat32 (l : List (List UInt8)) : List UInt8 := l.flatMap fun w => 32 :: w
def showO (o : Ov) : List UInt8 := if nm o.kind = [] then [] else nm o.kind ++ flat32 (wsO o)
theorem join32 (x : List UInt8) (r : List (List UInt8)) : Lib.join (x :: r) [32] = x ++ flat32 r := by
 rw [Lib.join_cons]
 unfold Lib.joinTail flat32
 rw [List.flatMap_def]; rfl
theorem flat32_len (M : Nat) (l : List (List UInt8)) (h : ∀ w, w ∈ l → w.length ≤ M) : (flat32 l).length ≤ l.length * (M + 1) := by
 induction l with
 | nil => simp [flat32]
 | cons w l ih =>
  have h1 := h w List.mem_cons_self
  have h2 := ih fun x hx => h x (List.mem_cons_of_mem _ hx)
  unfold flat32 at h2 ⊢
  rw [List.flatMap_cons, List.length_append, List.length_cons, List.length_cons, Nat.add_mul]
  omega
theorem dec_len (u : Nat) (h : u < 18446744073709551616) : (Lib.decDigits u).length ≤ 20 := by
 rw [Lib.decDigits_length]
 rcases Nat.lt_or_ge 20 (Lib.nDigits u) with h1 | h1
 ·have hp := Lib.nDigits_pos u
  have key : ∀ k v, Lib.nDigits v = k + 1 → v = 0 ∨ 10 ^ k ≤ v := by
   intro k
   induction k with
   | zero => intro v hv; rcases Nat.eq_zero_or_pos v with h | h; exact .inl h; exact .inr (by rw [Nat.pow_zero]; exact h)
   | succ k ih =>
    intro v hv
    by_cases h10 : v < 10
    ·rw [Lib.nDigits_small h10] at hv; omega
    ·rw [Lib.nDigits_big h10] at hv
     rcases ih (v / 10) (by omega) with h | h
     ·omega
     ·right; rw [Nat.pow_succ]; omega
  obtain ⟨k, hk⟩ : ∃ k, Lib.nDigits u = k + 1 := ⟨Lib.nDigits u - 1, by omega⟩
  rcases key k u hk with h2 | h2
  ·subst h2; rw [Lib.nDigits_small (by omega)] at h1; omega
  ·have h3 : 10 ^ 20 ≤ 10 ^ k := Nat.pow_le_pow_right (by decide) (by omega)
   have h4 : (10 : Nat) ^ 20 = 100000000000000000000 := by decide
   omega
 ·exact h1
theorem itoa_len (n : Int) (h0 : -9223372036854775808 ≤ n) (h1 : n ≤ 9223372036854775807) : (Lib.itoa n).length ≤ 21 := by
 unfold Lib.itoa
 split
 ·have := dec_len n.natAbs (by omega); rw [List.length_cons]; omega
 ·have := dec_len n.toNat (by omega); omega
theorem shown_len {m i : Nat} {f : Fl} (h : flOk m i f) : f.shown.length ≤ 3 * m + 21 := by
 cases f with
 | n x =>
  unfold Fl.shown
  dsimp only
  split
  ·simp
  ·have := itoa_len x h.2.1 h.2.2; omega
 | t l =>
  unfold Fl.shown
  dsimp only
  split
  ·simp
  ·have := qt_len l; have := h.2; omega
theorem fnm_len : ∀ x, x ∈ fnm → x.length ≤ 7 := by decide
theorem zip_mem {m : Nat} {o : Ov} (h : OvOk m o) {p : List UInt8 × Fl} (hp : p ∈ fnm.zip o.fs) : p.1.length ≤ 7 ∧ ∃ i, flOk m i p.2 := by
 obtain ⟨i, hi⟩ := List.getElem?_of_mem hp
 rw [List.getElem?_zip_eq_some] at hi
 exact ⟨fnm_len _ (List.mem_of_getElem? hi.1), i, h.fl i _ hi.2⟩
theorem wsF_len {m : Nat} {o : Ov} (h : OvOk m o) : ∀ w, w ∈ wsF o → w.length ≤ 3 * m + 29 := by
 intro w hw
 unfold wsF at hw
 rw [List.mem_filterMap] at hw
 obtain ⟨p, hp, hpw⟩ := hw
 unfold wordF at hpw
 split at hpw
 ·cases hpw
 ·cases hpw
  obtain ⟨h1, i, h2⟩ := zip_mem h hp
  have := shown_len h2
  rw [List.length_append, List.length_cons]; omega
theorem wsF_num {m : Nat} {o : Ov} (h : OvOk m o) : (wsF o).length ≤ 9 := by
 unfold wsF
 refine Nat.le_trans (List.length_filterMap_le _ _) ?_
 rw [List.length_zip, h.len]; decide
theorem wsO_len {m : Nat} {o : Ov} (h : OvOk m o) : ∀ w, w ∈ wsO o → w.length ≤ 3 * m + 29 := by
 intro w hw
 unfold wsO at hw
 rcases List.mem_append.1 hw with hw | hw
 ·exact wsF_len h w hw
 ·obtain ⟨k, hk, rfl⟩ := List.mem_map.1 hw
  have h1 := h.kp k hk
  have h2 := qt_len k
  unfold wordK
  rw [List.length_append, List.length_cons]
  have : kpw.length = 4 := rfl
  omega
theorem nm_len (k : Int) : (nm k).length ≤ 10 := by
 unfold nm
 split
 ·have key : ∀ x, x ∈ nms → x.length ≤ 10 := by decide
  rw [List.getD_eq_getElem?_getD]
  cases h : nms[k.toNat]? with
  | none => simp
  | some x => exact key x (List.mem_of_getElem? h)
 ·simp
theorem show_len {m : Nat} {o : Ov} (h : OvOk m o) : (showO o).length ≤ 10 + (9 + o.keep.length) * (3 * m + 30) := by
 unfold showO
 split
 ·simp
 ·have h1 := nm_len o.kind
  have h2 := flat32_len _ _ (wsO_len h)
  have h3 := wsF_num h
  have h4 : (wsO o).length ≤ 9 + o.keep.length := by unfold wsO; rw [List.length_append, List.length_map]; omega
  have h5 := Nat.mul_le_mul_right (3 * m + 29 + 1) h4
  rw [show 3 * m + 29 + 1 = 3 * m + 30 from rfl] at h2 h5
  rw [List.length_append]; omega
theorem atAt (w0 : W0) {k : Nat} (hk : k < 9) (b : Nat) (S : St) : ACall Tryz.prog w0 (atF k) [pt b 0] S (fun d S' => d = pt b (k + 1) ∧ S' = S) := by
 match k, hk with
 | 0, _ => exact at1 w0 b S
 | 1, _ => exact at2 w0 b S
 | 2, _ => exact at3 w0 b S
 | 3, _ => exact at4 w0 b S
 | 4, _ => exact at5 w0 b S
 | 5, _ => exact at6 w0 b S
 | 6, _ => exact at7 w0 b S
 | 7, _ => exact at8 w0 b S
 | 8, _ => exact at9 w0 b S
theorem okAt {k : Nat} (hk : k < 9) : okF Tryz.prog (atF k) = true ∧ okF Tryz.prog (shF k) = true ∧ okF Tryz.prog (tkF k) = true := by
 match k, hk with
 | 0, _ => exact ⟨by kernel_rfl, by kernel_rfl, by kernel_rfl⟩
 | 1, _ => exact ⟨by kernel_rfl, by kernel_rfl, by kernel_rfl⟩
 | 2, _ => exact ⟨by kernel_rfl, by kernel_rfl, by kernel_rfl⟩
 | 3, _ => exact ⟨by kernel_rfl, by kernel_rfl, by kernel_rfl⟩
 | 4, _ => exact ⟨by kernel_rfl, by kernel_rfl, by kernel_rfl⟩
 | 5, _ => exact ⟨by kernel_rfl, by kernel_rfl, by kernel_rfl⟩
 | 6, _ => exact ⟨by kernel_rfl, by kernel_rfl, by kernel_rfl⟩
 | 7, _ => exact ⟨by kernel_rfl, by kernel_rfl, by kernel_rfl⟩
 | 8, _ => exact ⟨by kernel_rfl, by kernel_rfl, by kernel_rfl⟩
theorem showAt (w0 : W0) (hp : KP w0) (hu : KU w0) {k b c : Nat} {D : List DV} {f : Fl} {S : St} (hk : k < 9) (hb : lk S.box b = some D) (hd : D[k + 1]? = some f.dv) (hf : flOk 1048576 k f) (hc : lk S.box c = some [fv (atF k) []]) :
  ACall Tryz.prog w0 (shF k) [pt b 0, pt c 0] S (fun d S' => d = dS (tx f.shown) ∧ S' = S) := by
 cases f with
 | n x =>
  unfold shF
  rw [if_neg (by rw [hf.1]; decide)]
  exact showN w0 hp (okAt hk).1 (atAt w0 hk b) hb hd hc hf.2.1 hf.2.2
 | t l =>
  unfold shF
  rw [if_pos hf.1]
  exact showT w0 hu (okAt hk).1 (atAt w0 hk b) hb hd hc hf.2
theorem joinP (w0 : W0) (fl : Bool) (xs : List (List UInt8)) (hne : xs ≠ []) (hN : xs.length ≤ 140737488355328) (hlen : (Lib.join xs [32]).length ≤ 140737488355328) (S : St) :
  ACall Tryz.prog w0 34 [.sl 1 fl (keepD xs), dS (tx [32])] S (fun d S' => d = dS (tx (Lib.join xs [32])) ∧ S' = S) := by
 have e : (xs.map tx).map (·.data.toList) = xs := by
  rw [List.map_map]
  exact (List.map_congr_left fun a _ => tx_list a).trans (List.map_id _)
 have h := acall_row (P := Tryz.prog) (w0 := w0) (f := 34) (fl := fl) (xs := xs.map tx) (us := [.string (tx [32])]) (S := S) (r := .string (tx (Lib.join xs [32]))) (d := dS (tx (Lib.join xs [32]))) (fun g => .v _ rfl) (by simpa using hne) (fun bk o c w h1 h2 h3 => by
  have := Tryz.strings_Join bk o c (xs.map tx) (tx [32]) w h1 h2 (by simpa using hN) h3 (by rw [e, tx_list]; exact hlen)
  rw [e, tx_list] at this
  exact this)
 rw [List.map_map] at h
 exact h
theorem rowsF_at (c : Nat → Nat) {k : Nat} (hk : k < 9) : (rowsF c)[k]? = some (fld (fnm.getD k []) (shF k) (tkF k) (c k)) := by
 unfold rowsF
 rw [List.getElem?_map, List.getElem?_range hk]; rfl
theorem el_at {xs : List DV} {k : Nat} {d : DV} (h : xs[k]? = some d) (ho : okE d = true) (F : DV → Prop) : elK xs k F = F d := by
 unfold elK
 apply propext
 constructor
 ·intro g; exact (g d h).2
 ·intro g e he; rw [h] at he; cases he; exact ⟨ho, g⟩
theorem rowsF_len (c : Nat → Nat) : (rowsF c).length = 9 := by simp [rowsF]
theorem lk_new {L : List (Nat × List DV)} (x : FN L) {b : Nat} {ds : List DV} (v : List DV) (h : lk L b = some ds) : lk ((x.n, v) :: L) b = some ds := by
 simp only [lk]
 rw [if_neg]
 ·exact h
 ·intro e
  have := nin_lk x.h
  rw [show x.m = b from e, h] at this
  cases this
theorem keepD_app (a b : List (List UInt8)) : keepD (a ++ b) = keepD a ++ keepD b := by simp [keepD]
theorem keepD_len (a : List (List UInt8)) : (keepD a).length = a.length := by simp [keepD]
theorem zip_at {m : Nat} {o : Ov} (h : OvOk m o) {k : Nat} (hk : k < 9) : ∃ f, o.fs[k]? = some f ∧ (fnm.zip o.fs)[k]? = some (fnm.getD k [], f) ∧ flOk m k f := by
 have h1 : k < o.fs.length := by rw [h.len]; exact hk
 have h2 : k < fnm.length := hk
 refine ⟨o.fs[k], List.getElem?_eq_getElem h1, ?_, h.fl k _ (List.getElem?_eq_getElem h1)⟩
 rw [List.getElem?_zip_eq_some]
 refine ⟨?_, List.getElem?_eq_getElem h1⟩
 rw [List.getD_eq_getElem?_getD, List.getElem?_eq_getElem h2]; rfl
theorem fm_step {m : Nat} {o : Ov} (h : OvOk m o) {k : Nat} (hk : k < 9) {f : Fl} (hf : (fnm.zip o.fs)[k]? = some (fnm.getD k [], f)) : ((fnm.zip o.fs).take (k + 1)).filterMap wordF = ((fnm.zip o.fs).take k).filterMap wordF ++ (wordF (fnm.getD k [], f)).toList := by
 rw [List.take_add_one, hf, List.filterMap_append]
 congr 1
theorem fm_len {m : Nat} {o : Ov} (h : OvOk m o) (k : Nat) : (((fnm.zip o.fs).take k).filterMap wordF).length ≤ 9 := by
 refine Nat.le_trans (List.length_filterMap_le _ _) (Nat.le_trans (List.length_take_le' _ _) ?_)
 rw [List.length_zip, h.len]; decide
theorem showP (w0 : W0) (hg : GlobN w0) (hp : KP w0) (hu : KU w0) {o : Ov} (h : OvOk 1048576 o) (fl : Bool) (S : St) : ACall Tryz.prog w0 12 [.agg (o.ds (.sl 1 fl (keepD o.keep)))] S (fun d S' => d = dS (tx (showO o)) ∧ S' = S) := by
 have hE9 : (o.fs.map Fl.dv ++ [DV.sl 1 fl (keepD o.keep)]).drop 9 = [.sl 1 fl (keepD o.keep)] := by rw [List.drop_append, List.drop_of_length_le (by simp [h.len]), List.nil_append]; simp [h.len]
 have hEl : (o.fs.map Fl.dv ++ [DV.sl 1 fl (keepD o.keep)]).length = 10 := by simp [h.len]
 have hEa : ∀ (i : Nat) (f : Fl), o.fs[i]? = some f → (o.fs.map Fl.dv ++ [DV.sl 1 fl (keepD o.keep)])[i]? = some f.dv := by
  intro i f hf
  obtain ⟨h1, h2⟩ := List.getElem?_eq_some_iff.1 hf
  rw [List.getElem?_append_left (by simpa using h1), List.getElem?_map, hf]; rfl
 unfold Ov.ds
 generalize o.fs.map Fl.dv ++ [DV.sl 1 fl (keepD o.keep)] = E at *
 refine fnS [] mx Tryz.func12 rfl rfl (by kernel_rfl) ?_; simp (maxDischargeDepth := 12) (maxSteps := 1000000) -implicitDefEqProofs only [Tryz.ntmps12, go_sem, Nat.reduceAdd, Nat.reduceSub, Nat.reduceMul, Nat.reduceLeDiff, Nat.reduceEqDiff, Nat.reduceGT, Nat.reduceBEq, reduceCtorEq, ↓reduceIte, Int.reduceToNat, Int.reduceLE, Int.reduceLT, Int.reduceNe, Int.reduceEq]
 intro b
 refine use1 (nameP w0 hg _ _) ?_
 simp (maxDischargeDepth := 12) (maxSteps := 1000000) -implicitDefEqProofs only [go_sem, Nat.reduceAdd, Nat.reduceSub, Nat.reduceMul, Nat.reduceLeDiff, Nat.reduceEqDiff, Nat.reduceGT, Nat.reduceBEq, reduceCtorEq, ↓reduceIte, Int.reduceToNat, Int.reduceLE, Int.reduceLT, Int.reduceNe, Int.reduceEq, tx_list]
 refine ⟨fun hn => by unfold showO; rw [if_pos hn]; rfl, fun hn => ?_⟩
 refine useK (fieldsP w0 _) ?_
 rintro _ _ ⟨B, c, hfr, rfl, rfl, hc⟩
 have hrl := rowsF_len c
 simp (maxDischargeDepth := 12) (maxSteps := 1000000) -implicitDefEqProofs only [go_sem, Nat.reduceAdd, Nat.reduceSub, Nat.reduceMul, Nat.reduceLeDiff, Nat.reduceEqDiff, Nat.reduceGT, Nat.reduceBEq, reduceCtorEq, ↓reduceIte, Int.reduceToNat, Int.reduceLE, Int.reduceLT, Int.reduceNe, Int.reduceEq, hrl]
 refine tailK 4 (s := 1) rfl (by omega) fun l => ?_
 refine loopN [] 9 [1, 4, 17, 18, 19] (fun k => [(4, .acc l.n (1 + (((fnm.zip o.fs).take k).filterMap wordF).length)), (19, dI k)]) (fun k => ⟨B ++ (b.n, dI o.kind :: E) :: S.box, (l.n, .tl 1 (keepD (nm o.kind :: ((fnm.zip o.fs).take k).filterMap wordF))) :: S.acc⟩) (fun _ => True) mx (by kernel_rfl) ?_ ?_
 ·simp (maxDischargeDepth := 12) (maxSteps := 1000000) -implicitDefEqProofs only [go_sem, Nat.reduceAdd, Nat.reduceSub, Nat.reduceMul, Nat.reduceLeDiff, Nat.reduceEqDiff, Nat.reduceGT, Nat.reduceBEq, reduceCtorEq, ↓reduceIte, Int.reduceToNat, Int.reduceLE, Int.reduceLT, Int.reduceNe, Int.reduceEq]
  exact ⟨.refl _, .refl _⟩
 ·intro k hk _
  have e1 : IntKind.i64.wrap ((k : Int) + 1) = ((k + 1 : Nat) : Int) := by rw [w64 (by omega) (by omega)]; omega
  by_cases h9 : k < 9
  ·have hrow := el_at (rowsF_at c h9) rfl
   obtain ⟨f, hf1, hf2, hf3⟩ := zip_at h h9
   have hok := okAt h9
   have hbB : lk (B ++ (b.n, DV.v (.int .i64 o.kind) :: E) :: S.box) b.n = some (DV.v (.int .i64 o.kind) :: E) := hfr.lk (by simp only [lk, if_true])
   have hst := fm_step h h9 hf2
   have hfl := fm_len h k
   have hsl := shown_len hf3
   have hnl : (fnm.getD k []).length ≤ 7 := (zip_mem h (List.mem_of_getElem? hf2)).1
   simp (maxDischargeDepth := 12) (maxSteps := 1000000) -implicitDefEqProofs only [go_sem, Nat.reduceAdd, Nat.reduceSub, Nat.reduceMul, Nat.reduceLeDiff, Nat.reduceEqDiff, Nat.reduceGT, Nat.reduceBEq, reduceCtorEq, ↓reduceIte, Int.reduceToNat, Int.reduceLE, Int.reduceLT, Int.reduceNe, Int.reduceEq, hrl, hrow, e1, hok.2.1]
   refine ⟨fun _ => ⟨by omega, fun x => ?_⟩, fun hh => absurd (by omega) hh⟩
   refine use1 (showAt w0 hp hu h9 (lk_new x _ hbB) (hEa k f hf1) hf3 (lk_new x _ (lk_appB (hc k h9)))) ?_
   simp (maxDischargeDepth := 12) (maxSteps := 1000000) -implicitDefEqProofs only [go_sem, Nat.reduceAdd, Nat.reduceSub, Nat.reduceMul, Nat.reduceLeDiff, Nat.reduceEqDiff, Nat.reduceGT, Nat.reduceBEq, reduceCtorEq, ↓reduceIte, Int.reduceToNat, Int.reduceLE, Int.reduceLT, Int.reduceNe, Int.reduceEq, hbB, tx_list, tx_size]
   have hms : maxLen = 9223372036854775807 := rfl
   refine ⟨fun e => ?_, fun e => ?_⟩
   ·have hw : wordF (fnm.getD k [], f) = none := by unfold wordF; rw [if_pos e]
    rw [hst, hw, Option.toList_none, List.append_nil]
    exact ⟨h9, .refl _, .consB (.refl _)⟩
   ·have hw : wordF (fnm.getD k [], f) = some (fnm.getD k [] ++ 61 :: f.shown) := by unfold wordF; rw [if_neg e]
    rw [hst, hw, Option.toList_some]
    have hkl : ∀ L : List (List UInt8), (keepD (nm o.kind :: L)).length = 1 + L.length := fun L => by rw [keepD_len, List.length_cons]; omega
    rw [hkl, List.length_append, List.length_singleton]
    refine ⟨by omega, by omega, rfl, by omega, by omega, h9, by rw [← Nat.add_assoc]; exact .refl _, ?_⟩
    have et : keepD (nm o.kind :: (List.filterMap wordF (List.take k (fnm.zip o.fs)) ++ [fnm.getD k [] ++ 61 :: f.shown])) = keepD (nm o.kind :: List.filterMap wordF (List.take k (fnm.zip o.fs))) ++ [dS (tx (fnm.getD k []) ++ ⟨#[61]⟩ ++ tx f.shown)] := by
     rw [← List.cons_append, keepD_app]
     congr 1
     show [dS (tx _)] = _
     rw [show (⟨#[61]⟩ : ByteArray) = tx [61] from rfl, tx_app, tx_app, List.append_assoc]; rfl
    rw [et]
    exact .consB (.refl _)
  ·obtain rfl : k = 9 := by omega
   have hfw : ((fnm.zip o.fs).take 9).filterMap wordF = wsF o := by
    rw [List.take_of_length_le (by rw [List.length_zip, h.len]; decide)]; rfl
   rw [hfw]
   have hbB : lk (B ++ (b.n, DV.v (.int .i64 o.kind) :: E) :: S.box) b.n = some (DV.v (.int .i64 o.kind) :: E) := hfr.lk (by simp only [lk, if_true])
   have hkl := keepD_len o.keep
   simp (maxDischargeDepth := 12) (maxSteps := 1000000) -implicitDefEqProofs only [go_sem, Nat.reduceAdd, Nat.reduceSub, Nat.reduceMul, Nat.reduceLeDiff, Nat.reduceEqDiff, Nat.reduceGT, Nat.reduceBEq, reduceCtorEq, ↓reduceIte, Int.reduceToNat, Int.reduceLE, Int.reduceLT, Int.reduceNe, Int.reduceEq, hrl, hbB, hE9, hkl]
   have hkn := h.kn
   have hwn := wsF_num h
   refine loopN [] o.keep.length [4, 38, 39, 40] (fun k => [(4, .acc l.n (1 + (wsF o).length + k)), (40, dI k)]) (fun k => ⟨B ++ (b.n, dI o.kind :: E) :: S.box, (l.n, .tl 1 (keepD (nm o.kind :: (wsF o ++ (o.keep.take k).map wordK)))) :: S.acc⟩) (fun _ => True) mx (by kernel_rfl) ?_ ?_
   ·simp (maxDischargeDepth := 12) (maxSteps := 1000000) -implicitDefEqProofs only [go_sem, Nat.reduceAdd, Nat.reduceSub, Nat.reduceMul, Nat.reduceLeDiff, Nat.reduceEqDiff, Nat.reduceGT, Nat.reduceBEq, reduceCtorEq, ↓reduceIte, Int.reduceToNat, Int.reduceLE, Int.reduceLT, Int.reduceNe, Int.reduceEq]
    exact .refl _
   ·intro k hk _
    have e1 : IntKind.i64.wrap ((k : Int) + 1) = ((k + 1 : Nat) : Int) := by rw [w64 (by omega) (by omega)]; omega
    have hkw : (keepD (nm o.kind :: (wsF o ++ List.map wordK (List.take k o.keep)))).length = 1 + (wsF o).length + k := by
     rw [keepD_len, List.length_cons, List.length_append, List.length_map, List.length_take]; omega
    by_cases hlt : k < o.keep.length
    ·have hke := List.getElem?_eq_getElem hlt
     have hke2 := h.kp _ (List.getElem_mem hlt)
     generalize o.keep[k] = x at hke hke2
     have hrow := el_at (xs := keepD o.keep) (k := k) (d := dS (tx x)) (by unfold keepD; rw [List.getElem?_map, hke]; rfl) rfl
     have hql := qt_len x
     simp (maxDischargeDepth := 12) (maxSteps := 1000000) -implicitDefEqProofs only [go_sem, Nat.reduceAdd, Nat.reduceSub, Nat.reduceMul, Nat.reduceLeDiff, Nat.reduceEqDiff, Nat.reduceGT, Nat.reduceBEq, reduceCtorEq, ↓reduceIte, Int.reduceToNat, Int.reduceLE, Int.reduceLT, Int.reduceNe, Int.reduceEq, hkl, e1, hrow]
     refine ⟨fun _ => ⟨hlt, ?_⟩, fun hh => absurd hlt hh⟩
     refine use1 (quoteP w0 hu (tx x) (by rw [tx_size]; exact hke2) _) ?_
     simp (maxDischargeDepth := 12) (maxSteps := 1000000) -implicitDefEqProofs only [go_sem, Nat.reduceAdd, Nat.reduceSub, Nat.reduceMul, Nat.reduceLeDiff, Nat.reduceEqDiff, Nat.reduceGT, Nat.reduceBEq, reduceCtorEq, ↓reduceIte, Int.reduceToNat, Int.reduceLE, Int.reduceLT, Int.reduceNe, Int.reduceEq, tx_list, tx_size, hkw]
     have hms : maxLen = 9223372036854775807 := rfl
     have et : keepD (nm o.kind :: (wsF o ++ List.map wordK (List.take (k + 1) o.keep))) = keepD (nm o.kind :: (wsF o ++ List.map wordK (List.take k o.keep))) ++ [dS (⟨#[107, 101, 101, 112, 61]⟩ ++ tx (qt x))] := by
      rw [List.take_add_one, hke, Option.toList_some, List.map_append, ← List.append_assoc, ← List.cons_append, keepD_app]
      congr 1
     rw [et]
     exact ⟨by omega, by omega, by omega, hlt, .refl _, .refl _⟩
    ·obtain rfl : k = o.keep.length := by omega
     have hfw : nm o.kind :: (wsF o ++ List.map wordK (List.take o.keep.length o.keep)) = nm o.kind :: wsO o := by rw [List.take_length]; rfl
     rw [hfw] at hkw ⊢
     have hj := join32 (nm o.kind) (wsO o)
     have hjl := show_len h
     have hsh : showO o = Lib.join (nm o.kind :: wsO o) [32] := by rw [hj]; unfold showO; rw [if_neg hn]
     have hwl : (nm o.kind :: wsO o).length = 1 + (wsF o).length + o.keep.length := by rw [← keepD_len, hkw]
     simp (maxDischargeDepth := 12) (maxSteps := 1000000) -implicitDefEqProofs only [go_sem, Nat.reduceAdd, Nat.reduceSub, Nat.reduceMul, Nat.reduceLeDiff, Nat.reduceEqDiff, Nat.reduceGT, Nat.reduceBEq, reduceCtorEq, ↓reduceIte, Int.reduceToNat, Int.reduceLE, Int.reduceLT, Int.reduceNe, Int.reduceEq, hkl, e1]
     refine ⟨fun hh => absurd hh (by omega), fun _ => .inr ⟨hkw, ?_⟩⟩
     have hb2 : 10 + (9 + o.keep.length) * (3 * 1048576 + 30) ≤ 140737488355328 := by
      have := Nat.mul_le_mul_right (3 * 1048576 + 30) (show 9 + o.keep.length ≤ 1048585 by omega)
      omega
     refine use1 (joinP w0 false (nm o.kind :: wsO o) (by simp) (by omega) (by rw [← hsh]; omega) _) ?_
     rw [← hsh]
     simp (maxDischargeDepth := 12) (maxSteps := 1000000) -implicitDefEqProofs only [go_sem, Nat.reduceAdd, Nat.reduceSub, Nat.reduceMul, Nat.reduceLeDiff, Nat.reduceEqDiff, Nat.reduceGT, Nat.reduceBEq, reduceCtorEq, ↓reduceIte, Int.reduceToNat, Int.reduceLE, Int.reduceLT, Int.reduceNe, Int.reduceEq]
     exact ⟨(List.sublist_cons_self _ _).trans (List.sublist_append_right _ _), List.sublist_cons_self _ _⟩
def pieceF (p : List UInt8 × Fl) : List UInt8 := if p.2.shown = [] then [] else 32 :: (p.1 ++ 61 :: p.2.shown)
theorem flat_piece (l : List (List UInt8 × Fl)) : flat32 (l.filterMap wordF) = l.flatMap pieceF := by
 induction l with
 | nil => rfl
 | cons p l ih =>
  rw [List.filterMap_cons, List.flatMap_cons]
  unfold pieceF wordF at *
  split
  ·rename_i h
   split at h
   ·rename_i h2; rw [if_pos h2]; exact ih
   ·cases h
  ·rename_i w h
   split at h
   ·cases h
   ·rename_i h2
    cases h
    rw [if_neg h2]
    unfold flat32 at *
    rw [List.flatMap_cons, ih]
theorem itoa_ne (n : Int) : Lib.itoa n ≠ [] := by
 unfold Lib.itoa
 split
 ·simp
 ·exact dec_ne _
theorem qt_ne (l : List UInt8) : qt l ≠ [] := by unfold qt; simp
theorem ov_form {m : Nat} {o : Ov} (h : OvOk m o) : ∃ a b c d e f g i j, o.fs = [.n a, .n b, .n c, .t d, .t e, .t f, .n g, .n i, .n j] := by
 have hl := h.len
 have hf := h.fl
 generalize o.fs = L at hl hf
 match L, hl with
 | [x0, x1, x2, x3, x4, x5, x6, x7, x8], _ =>
  have k0 := hf 0 _ rfl
  have k1 := hf 1 _ rfl
  have k2 := hf 2 _ rfl
  have k3 := hf 3 _ rfl
  have k4 := hf 4 _ rfl
  have k5 := hf 5 _ rfl
  have k6 := hf 6 _ rfl
  have k7 := hf 7 _ rfl
  have k8 := hf 8 _ rfl
  have N : ∀ {i x}, isT i = false → flOk m i x → ∃ n, x = .n n := by
   intro i x hi hx
   cases x with
   | n y => exact ⟨y, rfl⟩
   | t l => exact absurd hx.1 (by rw [hi]; decide)
  have T : ∀ {i x}, isT i = true → flOk m i x → ∃ n, x = .t n := by
   intro i x hi hx
   cases x with
   | n y => exact absurd hx.1 (by rw [hi]; decide)
   | t l => exact ⟨l, rfl⟩
  obtain ⟨y0, rfl⟩ := N (by decide) k0
  obtain ⟨y1, rfl⟩ := N (by decide) k1
  obtain ⟨y2, rfl⟩ := N (by decide) k2
  obtain ⟨y3, rfl⟩ := T (by decide) k3
  obtain ⟨y4, rfl⟩ := T (by decide) k4
  obtain ⟨y5, rfl⟩ := T (by decide) k5
  obtain ⟨y6, rfl⟩ := N (by decide) k6
  obtain ⟨y7, rfl⟩ := N (by decide) k7
  obtain ⟨y8, rfl⟩ := N (by decide) k8
  exact ⟨_, _, _, _, _, _, _, _, _, rfl⟩
theorem numR (w0 : W0) (nme : ByteArray) (n : Int) (hm : nme.size ≤ 10) (h0 : -9223372036854775808 ≤ n) (h1 : n ≤ 9223372036854775807) (S : St) : ACall Tryz.prog w0 35 [dS nme, dI n] S (fun dd S' => dd = dS (tx (pieceF (nme.data.toList, .n n))) ∧ S' = S) := by
 have hl := itoa_len n h0 h1
 have hs : n ≠ 0 → pieceF (nme.data.toList, .n n) = [32] ++ nme.data.toList ++ [61] ++ Lib.itoa n := by
  intro h
  have : Fl.shown (.n n) = Lib.itoa n := by unfold Fl.shown; dsimp only; rw [if_neg h]
  unfold pieceF; dsimp only; rw [this, if_neg (itoa_ne n)]; simp
 refine fnS [] mx Tryz.func35 rfl rfl (by kernel_rfl) ?_; simp (maxDischargeDepth := 12) (maxSteps := 1000000) -implicitDefEqProofs only [Tryz.ntmps35, go_sem, Nat.reduceAdd, Nat.reduceSub, Nat.reduceMul, Nat.reduceLeDiff, Nat.reduceEqDiff, Nat.reduceGT, Nat.reduceBEq, reduceCtorEq, ↓reduceIte, Int.reduceToNat, Int.reduceLE, Int.reduceLT, Int.reduceNe, Int.reduceEq]
 refine ⟨fun h => by rw [h]; rfl, fun h => ?_⟩
 rw [hs h]
 refine ⟨by omega, by omega, ?_⟩
 refine use1 (numberR w0 n h0 h1 _) ?_
 simp (maxDischargeDepth := 12) (maxSteps := 1000000) -implicitDefEqProofs only [go_sem, Nat.reduceAdd, Nat.reduceSub, Nat.reduceMul, Nat.reduceLeDiff, Nat.reduceEqDiff, Nat.reduceGT, Nat.reduceBEq, reduceCtorEq, ↓reduceIte, Int.reduceToNat, Int.reduceLE, Int.reduceLT, Int.reduceNe, Int.reduceEq, tx_size]
 refine ⟨by omega, ?_⟩
 apply tx_ext
 rw [list_app, list_app, list_app, tx_list, tx_list]; rfl
theorem textR (w0 : W0) (hu : KU w0) (nme s : ByteArray) (hm : nme.size ≤ 10) (h0 : s.size ≤ 1048576) (S : St) : ACall Tryz.prog w0 36 [dS nme, dS s] S (fun dd S' => dd = dS (tx (pieceF (nme.data.toList, .t s.data.toList))) ∧ S' = S) := by
 have hl := qt_len s.data.toList
 have hs : s.data.toList ≠ [] → pieceF (nme.data.toList, .t s.data.toList) = [32] ++ nme.data.toList ++ [61] ++ qt s.data.toList := by
  intro h
  have : Fl.shown (.t s.data.toList) = qt s.data.toList := by unfold Fl.shown; dsimp only; rw [if_neg h]
  unfold pieceF; dsimp only; rw [this, if_neg (qt_ne _)]; simp
 refine fnS [] mx Tryz.func36 rfl rfl (by kernel_rfl) ?_; simp (maxDischargeDepth := 12) (maxSteps := 1000000) -implicitDefEqProofs only [Tryz.ntmps36, go_sem, Nat.reduceAdd, Nat.reduceSub, Nat.reduceMul, Nat.reduceLeDiff, Nat.reduceEqDiff, Nat.reduceGT, Nat.reduceBEq, reduceCtorEq, ↓reduceIte, Int.reduceToNat, Int.reduceLE, Int.reduceLT, Int.reduceNe, Int.reduceEq]
 refine ⟨fun h => by rw [h]; rfl, fun h => ?_⟩
 rw [hs h]
 refine ⟨by omega, by omega, ?_⟩
 refine use1 (quoteR w0 s h0 _) ?_
 simp (maxDischargeDepth := 12) (maxSteps := 1000000) -implicitDefEqProofs only [go_sem, Nat.reduceAdd, Nat.reduceSub, Nat.reduceMul, Nat.reduceLeDiff, Nat.reduceEqDiff, Nat.reduceGT, Nat.reduceBEq, reduceCtorEq, ↓reduceIte, Int.reduceToNat, Int.reduceLE, Int.reduceLT, Int.reduceNe, Int.reduceEq, tx_size]
 have hsz := size_list s
 refine ⟨by omega, ?_⟩
 apply tx_ext
 rw [list_app, list_app, list_app, tx_list, tx_list]; rfl
theorem pieceF_len {m i : Nat} {p : List UInt8 × Fl} (h : flOk m i p.2) (h1 : p.1.length ≤ 10) : (pieceF p).length ≤ 3 * m + 40 := by
 unfold pieceF
 have := shown_len h
 split
 ·simp
 ·rw [List.length_cons, List.length_append, List.length_cons]; omega
theorem showR (w0 : W0) (hu : KU w0) {o : Ov} (h : OvOk 1048576 o) (fl : Bool) (S : St) : ACall Tryz.prog w0 13 [.agg (o.ds (.sl 1 fl (keepD o.keep)))] S (fun dd S' => dd = dS (tx (showO o)) ∧ S' = S) := by
 obtain ⟨a, b, c, d, e, f, g, i, j, hfs⟩ := ov_form h
 have hws : flat32 (wsF o) = pieceF ([108, 101, 118, 101, 108], .n a) ++ pieceF ([115, 101, 115, 115, 105, 111, 110], .n b) ++ pieceF ([115, 110, 97, 112], .n c) ++ (pieceF ([98, 117, 99, 107, 101, 116], .t d) ++ pieceF ([107, 101, 121], .t e) ++ pieceF ([118, 97, 108, 117, 101], .t f)) ++ (pieceF ([108, 97, 98, 101, 108], .n g) ++ pieceF ([116, 111], .n i) ++ pieceF ([110], .n j)) := by
  unfold wsF
  rw [flat_piece, hfs]
  simp [fnm]
 have f0 := h.fl 0 _ (by rw [hfs]; rfl)
 have f1 := h.fl 1 _ (by rw [hfs]; rfl)
 have f2 := h.fl 2 _ (by rw [hfs]; rfl)
 have f3 := h.fl 3 _ (by rw [hfs]; rfl)
 have f4 := h.fl 4 _ (by rw [hfs]; rfl)
 have f5 := h.fl 5 _ (by rw [hfs]; rfl)
 have f6 := h.fl 6 _ (by rw [hfs]; rfl)
 have f7 := h.fl 7 _ (by rw [hfs]; rfl)
 have f8 := h.fl 8 _ (by rw [hfs]; rfl)
 have hds : o.ds (.sl 1 fl (keepD o.keep)) = [dI o.kind, dI a, dI b, dI c, dS (tx d), dS (tx e), dS (tx f), dI g, dI i, dI j, .sl 1 fl (keepD o.keep)] := by unfold Ov.ds; rw [hfs]; rfl
 have k0 : ∀ S, ACall Tryz.prog w0 35 [dS ⟨#[108, 101, 118, 101, 108]⟩, dI a] S (fun dd S' => dd = dS (tx (pieceF ([108, 101, 118, 101, 108], .n a))) ∧ S' = S) := fun S => numR w0 ⟨#[108, 101, 118, 101, 108]⟩ a (by decide) f0.2.1 f0.2.2 S
 have l0 := pieceF_len (p := ([108, 101, 118, 101, 108], .n a)) f0 (by dsimp only; decide)
 have k1 : ∀ S, ACall Tryz.prog w0 35 [dS ⟨#[115, 101, 115, 115, 105, 111, 110]⟩, dI b] S (fun dd S' => dd = dS (tx (pieceF ([115, 101, 115, 115, 105, 111, 110], .n b))) ∧ S' = S) := fun S => numR w0 ⟨#[115, 101, 115, 115, 105, 111, 110]⟩ b (by decide) f1.2.1 f1.2.2 S
 have l1 := pieceF_len (p := ([115, 101, 115, 115, 105, 111, 110], .n b)) f1 (by dsimp only; decide)
 have k2 : ∀ S, ACall Tryz.prog w0 35 [dS ⟨#[115, 110, 97, 112]⟩, dI c] S (fun dd S' => dd = dS (tx (pieceF ([115, 110, 97, 112], .n c))) ∧ S' = S) := fun S => numR w0 ⟨#[115, 110, 97, 112]⟩ c (by decide) f2.2.1 f2.2.2 S
 have l2 := pieceF_len (p := ([115, 110, 97, 112], .n c)) f2 (by dsimp only; decide)
 have k3 : ∀ S, ACall Tryz.prog w0 36 [dS ⟨#[98, 117, 99, 107, 101, 116]⟩, dS (tx d)] S (fun dd S' => dd = dS (tx (pieceF ([98, 117, 99, 107, 101, 116], .t d))) ∧ S' = S) := fun S => by have := textR w0 hu ⟨#[98, 117, 99, 107, 101, 116]⟩ (tx d) (by decide) (by rw [tx_size]; exact f3.2) S; rw [tx_list] at this; exact this
 have l3 := pieceF_len (p := ([98, 117, 99, 107, 101, 116], .t d)) f3 (by dsimp only; decide)
 have k4 : ∀ S, ACall Tryz.prog w0 36 [dS ⟨#[107, 101, 121]⟩, dS (tx e)] S (fun dd S' => dd = dS (tx (pieceF ([107, 101, 121], .t e))) ∧ S' = S) := fun S => by have := textR w0 hu ⟨#[107, 101, 121]⟩ (tx e) (by decide) (by rw [tx_size]; exact f4.2) S; rw [tx_list] at this; exact this
 have l4 := pieceF_len (p := ([107, 101, 121], .t e)) f4 (by dsimp only; decide)
 have k5 : ∀ S, ACall Tryz.prog w0 36 [dS ⟨#[118, 97, 108, 117, 101]⟩, dS (tx f)] S (fun dd S' => dd = dS (tx (pieceF ([118, 97, 108, 117, 101], .t f))) ∧ S' = S) := fun S => by have := textR w0 hu ⟨#[118, 97, 108, 117, 101]⟩ (tx f) (by decide) (by rw [tx_size]; exact f5.2) S; rw [tx_list] at this; exact this
 have l5 := pieceF_len (p := ([118, 97, 108, 117, 101], .t f)) f5 (by dsimp only; decide)
 have k6 : ∀ S, ACall Tryz.prog w0 35 [dS ⟨#[108, 97, 98, 101, 108]⟩, dI g] S (fun dd S' => dd = dS (tx (pieceF ([108, 97, 98, 101, 108], .n g))) ∧ S' = S) := fun S => numR w0 ⟨#[108, 97, 98, 101, 108]⟩ g (by decide) f6.2.1 f6.2.2 S
 have l6 := pieceF_len (p := ([108, 97, 98, 101, 108], .n g)) f6 (by dsimp only; decide)
 have k7 : ∀ S, ACall Tryz.prog w0 35 [dS ⟨#[116, 111]⟩, dI i] S (fun dd S' => dd = dS (tx (pieceF ([116, 111], .n i))) ∧ S' = S) := fun S => numR w0 ⟨#[116, 111]⟩ i (by decide) f7.2.1 f7.2.2 S
 have l7 := pieceF_len (p := ([116, 111], .n i)) f7 (by dsimp only; decide)
 have k8 : ∀ S, ACall Tryz.prog w0 35 [dS ⟨#[110]⟩, dI j] S (fun dd S' => dd = dS (tx (pieceF ([110], .n j))) ∧ S' = S) := fun S => numR w0 ⟨#[110]⟩ j (by decide) f8.2.1 f8.2.2 S
 have l8 := pieceF_len (p := ([110], .n j)) f8 (by dsimp only; decide)
 generalize pieceF ([108, 101, 118, 101, 108], Fl.n a) = p0 at *
 generalize pieceF ([115, 101, 115, 115, 105, 111, 110], Fl.n b) = p1 at *
 generalize pieceF ([115, 110, 97, 112], Fl.n c) = p2 at *
 generalize pieceF ([98, 117, 99, 107, 101, 116], Fl.t d) = p3 at *
 generalize pieceF ([107, 101, 121], Fl.t e) = p4 at *
 generalize pieceF ([118, 97, 108, 117, 101], Fl.t f) = p5 at *
 generalize pieceF ([108, 97, 98, 101, 108], Fl.n g) = p6 at *
 generalize pieceF ([116, 111], Fl.n i) = p7 at *
 generalize pieceF ([110], Fl.n j) = p8 at *
 have hnl := nm_len o.kind
 rw [hds]
 refine fnS [] mx Tryz.func13 rfl rfl (by kernel_rfl) ?_; simp (maxDischargeDepth := 12) (maxSteps := 1000000) -implicitDefEqProofs only [Tryz.ntmps13, go_sem, Nat.reduceAdd, Nat.reduceSub, Nat.reduceMul, Nat.reduceLeDiff, Nat.reduceEqDiff, Nat.reduceGT, Nat.reduceBEq, reduceCtorEq, ↓reduceIte, Int.reduceToNat, Int.reduceLE, Int.reduceLT, Int.reduceNe, Int.reduceEq]
 intro bx
 refine use1 (nameR w0 o.kind _) ?_
 simp (maxDischargeDepth := 12) (maxSteps := 1000000) -implicitDefEqProofs only [go_sem, Nat.reduceAdd, Nat.reduceSub, Nat.reduceMul, Nat.reduceLeDiff, Nat.reduceEqDiff, Nat.reduceGT, Nat.reduceBEq, reduceCtorEq, ↓reduceIte, Int.reduceToNat, Int.reduceLE, Int.reduceLT, Int.reduceNe, Int.reduceEq, tx_list]
 refine ⟨fun hn => by unfold showO; rw [if_pos hn]; rfl, fun hn => ?_⟩
 refine useQ (k0 _) ?_
 simp (maxDischargeDepth := 12) (maxSteps := 1000000) -implicitDefEqProofs only [go_sem, Nat.reduceAdd, Nat.reduceSub, Nat.reduceMul, Nat.reduceLeDiff, Nat.reduceEqDiff, Nat.reduceGT, Nat.reduceBEq, reduceCtorEq, ↓reduceIte, Int.reduceToNat, Int.reduceLE, Int.reduceLT, Int.reduceNe, Int.reduceEq, tx_size, tx_app]
 refine useQ (k1 _) ?_
 simp (maxDischargeDepth := 12) (maxSteps := 1000000) -implicitDefEqProofs only [go_sem, Nat.reduceAdd, Nat.reduceSub, Nat.reduceMul, Nat.reduceLeDiff, Nat.reduceEqDiff, Nat.reduceGT, Nat.reduceBEq, reduceCtorEq, ↓reduceIte, Int.reduceToNat, Int.reduceLE, Int.reduceLT, Int.reduceNe, Int.reduceEq, tx_size, tx_app]
 refine ⟨by omega, ?_⟩
 refine useQ (k2 _) ?_
 simp (maxDischargeDepth := 12) (maxSteps := 1000000) -implicitDefEqProofs only [go_sem, Nat.reduceAdd, Nat.reduceSub, Nat.reduceMul, Nat.reduceLeDiff, Nat.reduceEqDiff, Nat.reduceGT, Nat.reduceBEq, reduceCtorEq, ↓reduceIte, Int.reduceToNat, Int.reduceLE, Int.reduceLT, Int.reduceNe, Int.reduceEq, tx_size, tx_app]
 refine ⟨by omega, by omega, ?_⟩
 refine useQ (k3 _) ?_
 simp (maxDischargeDepth := 12) (maxSteps := 1000000) -implicitDefEqProofs only [go_sem, Nat.reduceAdd, Nat.reduceSub, Nat.reduceMul, Nat.reduceLeDiff, Nat.reduceEqDiff, Nat.reduceGT, Nat.reduceBEq, reduceCtorEq, ↓reduceIte, Int.reduceToNat, Int.reduceLE, Int.reduceLT, Int.reduceNe, Int.reduceEq, tx_size, tx_app]
 refine useQ (k4 _) ?_
 simp (maxDischargeDepth := 12) (maxSteps := 1000000) -implicitDefEqProofs only [go_sem, Nat.reduceAdd, Nat.reduceSub, Nat.reduceMul, Nat.reduceLeDiff, Nat.reduceEqDiff, Nat.reduceGT, Nat.reduceBEq, reduceCtorEq, ↓reduceIte, Int.reduceToNat, Int.reduceLE, Int.reduceLT, Int.reduceNe, Int.reduceEq, tx_size, tx_app]
 refine ⟨by omega, ?_⟩
 refine useQ (k5 _) ?_
 simp (maxDischargeDepth := 12) (maxSteps := 1000000) -implicitDefEqProofs only [go_sem, Nat.reduceAdd, Nat.reduceSub, Nat.reduceMul, Nat.reduceLeDiff, Nat.reduceEqDiff, Nat.reduceGT, Nat.reduceBEq, reduceCtorEq, ↓reduceIte, Int.reduceToNat, Int.reduceLE, Int.reduceLT, Int.reduceNe, Int.reduceEq, tx_size, tx_app]
 refine ⟨by omega, by omega, ?_⟩
 refine useQ (k6 _) ?_
 simp (maxDischargeDepth := 12) (maxSteps := 1000000) -implicitDefEqProofs only [go_sem, Nat.reduceAdd, Nat.reduceSub, Nat.reduceMul, Nat.reduceLeDiff, Nat.reduceEqDiff, Nat.reduceGT, Nat.reduceBEq, reduceCtorEq, ↓reduceIte, Int.reduceToNat, Int.reduceLE, Int.reduceLT, Int.reduceNe, Int.reduceEq, tx_size, tx_app]
 refine useQ (k7 _) ?_
 simp (maxDischargeDepth := 12) (maxSteps := 1000000) -implicitDefEqProofs only [go_sem, Nat.reduceAdd, Nat.reduceSub, Nat.reduceMul, Nat.reduceLeDiff, Nat.reduceEqDiff, Nat.reduceGT, Nat.reduceBEq, reduceCtorEq, ↓reduceIte, Int.reduceToNat, Int.reduceLE, Int.reduceLT, Int.reduceNe, Int.reduceEq, tx_size, tx_app]
 refine ⟨by omega, ?_⟩
 refine useQ (k8 _) ?_
 simp (maxDischargeDepth := 12) (maxSteps := 1000000) -implicitDefEqProofs only [go_sem, Nat.reduceAdd, Nat.reduceSub, Nat.reduceMul, Nat.reduceLeDiff, Nat.reduceEqDiff, Nat.reduceGT, Nat.reduceBEq, reduceCtorEq, ↓reduceIte, Int.reduceToNat, Int.reduceLE, Int.reduceLT, Int.reduceNe, Int.reduceEq, tx_size, tx_app]
 refine ⟨by omega, by omega, ?_⟩
 have hX : (nm o.kind ++ (p0 ++ p1 ++ p2) ++ (p3 ++ p4 ++ p5) ++ (p6 ++ p7 ++ p8)).length ≤ 28400000 := by simp only [List.length_append]; omega
 have hsh : showO o = nm o.kind ++ (p0 ++ p1 ++ p2) ++ (p3 ++ p4 ++ p5) ++ (p6 ++ p7 ++ p8) ++ flat32 (o.keep.map wordK) := by
  unfold showO wsO
  rw [if_neg hn, show flat32 (wsF o ++ o.keep.map wordK) = flat32 (wsF o) ++ flat32 (o.keep.map wordK) by unfold flat32; rw [List.flatMap_append], hws]
  simp only [List.append_assoc]
 generalize hXe : nm o.kind ++ (p0 ++ p1 ++ p2) ++ (p3 ++ p4 ++ p5) ++ (p6 ++ p7 ++ p8) = X at *
 have hkl := keepD_len o.keep
 have hkn := h.kn
 refine loopN [] o.keep.length [1, 3, 4] (fun k => [(3, dS (tx (X ++ flat32 ((o.keep.take k).map wordK)))), (4, dI k)]) (fun _ => ⟨(bx.n, [dI o.kind, dI a, dI b, dI c, dS (tx d), dS (tx e), dS (tx f), dI g, dI i, dI j, .sl 1 fl (keepD o.keep)]) :: S.box, S.acc⟩) (fun _ => True) mx (by kernel_rfl) ?_ ?_
 ·simp (maxDischargeDepth := 12) (maxSteps := 1000000) -implicitDefEqProofs only [go_sem, Nat.reduceAdd, Nat.reduceSub, Nat.reduceMul, Nat.reduceLeDiff, Nat.reduceEqDiff, Nat.reduceGT, Nat.reduceBEq, reduceCtorEq, ↓reduceIte, Int.reduceToNat, Int.reduceLE, Int.reduceLT, Int.reduceNe, Int.reduceEq]
  rw [show flat32 [] = [] from rfl, List.append_nil]
 ·intro k hk _
  have e1 : IntKind.i64.wrap ((k : Int) + 1) = ((k + 1 : Nat) : Int) := by rw [w64 (by omega) (by omega)]; omega
  have hfl : (flat32 ((o.keep.take k).map wordK)).length ≤ 1048576 * 3145800 := by
   refine Nat.le_trans (flat32_len (3 * 1048576 + 30) _ ?_) ?_
   ·intro w hw
    obtain ⟨x, hx, rfl⟩ := List.mem_map.1 hw
    have := h.kp x (List.mem_of_mem_take hx)
    have := qt_len x
    unfold wordK
    rw [List.length_append, List.length_cons]
    have : kpw.length = 4 := rfl
    omega
   ·rw [List.length_map, List.length_take]
    refine Nat.le_trans (Nat.mul_le_mul_right _ (show min k o.keep.length ≤ 1048576 by omega)) (by decide)
  by_cases hlt : k < o.keep.length
  ·have hke := List.getElem?_eq_getElem hlt
   have hke2 := h.kp _ (List.getElem_mem hlt)
   generalize o.keep[k] = x at hke hke2
   have hrow := el_at (xs := keepD o.keep) (k := k) (d := dS (tx x)) (by unfold keepD; rw [List.getElem?_map, hke]; rfl) rfl
   have hql := qt_len x
   simp (maxDischargeDepth := 12) (maxSteps := 1000000) -implicitDefEqProofs only [go_sem, Nat.reduceAdd, Nat.reduceSub, Nat.reduceMul, Nat.reduceLeDiff, Nat.reduceEqDiff, Nat.reduceGT, Nat.reduceBEq, reduceCtorEq, ↓reduceIte, Int.reduceToNat, Int.reduceLE, Int.reduceLT, Int.reduceNe, Int.reduceEq, hkl, e1, hrow]
   refine ⟨fun _ => ⟨hlt, ?_⟩, fun hh => absurd hlt hh⟩
   refine use1 (quoteR w0 (tx x) (by rw [tx_size]; exact hke2) _) ?_
   simp (maxDischargeDepth := 12) (maxSteps := 1000000) -implicitDefEqProofs only [go_sem, Nat.reduceAdd, Nat.reduceSub, Nat.reduceMul, Nat.reduceLeDiff, Nat.reduceEqDiff, Nat.reduceGT, Nat.reduceBEq, reduceCtorEq, ↓reduceIte, Int.reduceToNat, Int.reduceLE, Int.reduceLT, Int.reduceNe, Int.reduceEq, tx_list, tx_size]
   refine ⟨by omega, by omega, hlt, ?_⟩
   apply tx_ext
   rw [list_app, list_app, tx_list, tx_list, tx_list, List.take_add_one, hke, Option.toList_some, List.map_append, show flat32 (List.map wordK (List.take k o.keep) ++ List.map wordK [x]) = flat32 (List.map wordK (List.take k o.keep)) ++ flat32 (List.map wordK [x]) by unfold flat32; rw [List.flatMap_append], List.append_assoc]
   congr 2
   show _ = flat32 [wordK x]
   simp [flat32, wordK, kpw]
  ·obtain rfl : k = o.keep.length := by omega
   simp (maxDischargeDepth := 12) (maxSteps := 1000000) -implicitDefEqProofs only [go_sem, Nat.reduceAdd, Nat.reduceSub, Nat.reduceMul, Nat.reduceLeDiff, Nat.reduceEqDiff, Nat.reduceGT, Nat.reduceBEq, reduceCtorEq, ↓reduceIte, Int.reduceToNat, Int.reduceLE, Int.reduceLT, Int.reduceNe, Int.reduceEq, hkl, e1]
   refine ⟨fun hh => absurd hh (by omega), fun _ => ?_⟩
   rw [hsh]
def wdS : Bool → List UInt8 → List UInt8 → List (List UInt8)
 | _, cur, [] => [cur]
 | q, cur, c :: t => if c = 34 then wdS (!q) (cur ++ [c]) t else if c = 32 ∧ q = false then cur :: wdS q [] t else wdS q (cur ++ [c]) t
def wds (l : List UInt8) : List (List UInt8) := wdS false [] l
theorem wdS_skip (q : Bool) : ∀ (b cur t : List UInt8), (∀ x, x ∈ b → x ≠ 34 ∧ (x ≠ 32 ∨ q = true)) → wdS q cur (b ++ t) = wdS q (cur ++ b) t
 | [], cur, t, _ => by rw [List.append_nil]; rfl
 | c :: b, cur, t, h => by
  have h1 := h c List.mem_cons_self
  rw [List.cons_append, wdS, if_neg h1.1, if_neg, wdS_skip q b _ t fun x hx => h x (List.mem_cons_of_mem _ hx), List.append_assoc]; rfl
  rintro ⟨e, e2⟩
  rcases h1.2 with h | h
  ·exact h e
  ·rw [e2] at h; cases h
theorem wdS_len (q : Bool) : ∀ (cur t : List UInt8), (wdS q cur t).length ≤ t.length + 1 := by
 intro cur t
 induction t generalizing q cur with
 | nil => simp [wdS]
 | cons c t ih =>
  rw [wdS]
  split
  ·have := ih (!q) (cur ++ [c]); rw [List.length_cons]; omega
  ·split
   ·have := ih q []; rw [List.length_cons, List.length_cons]; omega
   ·have := ih q (cur ++ [c]); rw [List.length_cons]; omega
theorem wdS_ne (q : Bool) (cur t : List UInt8) : wdS q cur t ≠ [] := by
 induction t generalizing q cur with
 | nil => simp [wdS]
 | cons c t ih =>
  rw [wdS]
  split
  ·exact ih _ _
  ·split
   ·simp
   ·exact ih _ _
theorem wdS_sz (q : Bool) : ∀ (cur t : List UInt8), ∀ w, w ∈ wdS q cur t → w.length ≤ cur.length + t.length := by
 intro cur t
 induction t generalizing q cur with
 | nil => intro w hw; simp [wdS] at hw; rw [hw]; simp
 | cons c t ih =>
  intro w hw
  rw [wdS] at hw
  split at hw
  ·have := ih _ _ w hw; rw [List.length_append] at this; simp at this ⊢; omega
  ·split at hw
   ·rcases List.mem_cons.1 hw with rfl | hw
    ·simp
    ·have := ih _ _ w hw; simp at this ⊢; omega
   ·have := ih _ _ w hw; rw [List.length_append] at this; simp at this ⊢; omega
theorem rune_hi {l : List UInt8} (hne : l ≠ []) : (∃ c r, l = c :: r ∧ c.toNat < 128 ∧ Lib.decodeL l = (c.toNat, 1)) ∨ (128 ≤ (Lib.decodeL l).1 ∧ ∀ b, b ∈ l.take (Lib.decodeL l).2 → 128 ≤ b.toNat) := by
 have hl : 0 < l.length := List.length_pos_iff.2 hne
 rw [Lib.decodeL_N]
 by_cases h0 : (l.getD 0 0).toNat < 128
 ·left
  match l, hne with
  | c :: r, _ =>
   refine ⟨c, r, rfl, h0, ?_⟩
   unfold Lib.decodeN
   rw [if_pos h0]; rfl
 ·right
  rcases Lib.decodeN_shape l.length (l.getD 0 0).toNat (l.getD 1 0).toNat (l.getD 2 0).toNat (l.getD 3 0).toNat with ⟨c, e⟩ | ⟨c1, c2, c3, cv, e⟩ | ⟨c1, c2, c3, c4, cv, cs, e⟩ | ⟨c1, c2, c3, c4, c5, cv, cw, e⟩ | e
  ·exact absurd c h0
  ·rw [e]
   refine ⟨by dsimp only; omega, fun b hm => ?_⟩
   dsimp only at hm
   rw [Lib.takeB l c2] at hm
   simp only [List.mem_cons, List.not_mem_nil, or_false] at hm
   rcases hm with rfl | rfl <;> omega
  ·rw [e]
   refine ⟨by dsimp only; omega, fun b hm => ?_⟩
   dsimp only at hm
   rw [Lib.takeC l c2] at hm
   simp only [List.mem_cons, List.not_mem_nil, or_false] at hm
   rcases hm with rfl | rfl | rfl <;> omega
  ·rw [e]
   refine ⟨by dsimp only; omega, fun b hm => ?_⟩
   dsimp only at hm
   rw [Lib.takeD l c2] at hm
   simp only [List.mem_cons, List.not_mem_nil, or_false] at hm
   rcases hm with rfl | rfl | rfl | rfl <;> omega
  ·rw [e]
   refine ⟨by dsimp only; omega, fun b hm => ?_⟩
   dsimp only at hm
   rw [Lib.takeA l hl] at hm
   simp only [List.mem_cons, List.not_mem_nil, or_false] at hm
   subst hm; omega
theorem wordsP (w0 : W0) (s : ByteArray) (hs : s.size ≤ 1048576) (S : St) : ACall Tryz.prog w0 40 [dS s] S (fun d S' => d = .sl 1 false (keepD (wds s.data.toList)) ∧ S' = S) := by
 have hlw := wdS_len false [] s.data.toList
 rw [size_list] at hlw
 refine fnS [] mx Tryz.func40 rfl rfl (by kernel_rfl) ?_; simp (maxDischargeDepth := 12) (maxSteps := 1000000) -implicitDefEqProofs only [Tryz.ntmps40, go_sem, Nat.reduceAdd, Nat.reduceSub, Nat.reduceMul, Nat.reduceLeDiff, Nat.reduceEqDiff, Nat.reduceGT, Nat.reduceBEq, reduceCtorEq, ↓reduceIte, Int.reduceToNat, Int.reduceLE, Int.reduceLT, Int.reduceNe, Int.reduceEq]
 intro li
 refine growK 3 1 rfl (by omega) fun l => ?_
 refine loopK [] [0, 3, 4, 5, 9] (σ := Nat × Nat × Bool × List (List UInt8)) (fun p => [(3, .acc l.n p.2.2.2.length), (4, dI p.2.1), (5, dB p.2.2.1)]) (fun p => ⟨S.box, (l.n, .arr 1 (keepD p.2.2.2)) :: (li.n, .xo (.si s p.1)) :: S.acc⟩) (fun p => p.1 ≤ s.size ∧ p.2.1 ≤ p.1 ∧ p.2.2.2 ++ wdS p.2.2.1 ((s.data.toList.take p.1).drop p.2.1) (s.data.toList.drop p.1) = wds s.data.toList) (fun p => s.size - p.1) (0, 0, false, []) mx (by kernel_rfl) ⟨⟨Nat.zero_le _, Nat.le_refl _, rfl⟩, ?_⟩ fun p hp => ?_
 ·simp (maxDischargeDepth := 12) (maxSteps := 1000000) -implicitDefEqProofs only [go_sem, Nat.reduceAdd, Nat.reduceSub, Nat.reduceMul, Nat.reduceLeDiff, Nat.reduceEqDiff, Nat.reduceGT, Nat.reduceBEq, reduceCtorEq, ↓reduceIte, Int.reduceToNat, Int.reduceLE, Int.reduceLT, Int.reduceNe, Int.reduceEq]
  exact .refl _
 ·obtain ⟨k, f, q, W⟩ := p
  obtain ⟨hk1, hf1, hW⟩ := hp
  dsimp only at hk1 hf1 hW
  simp (maxDischargeDepth := 12) (maxSteps := 1000000) -implicitDefEqProofs only [go_sem, Nat.reduceAdd, Nat.reduceSub, Nat.reduceMul, Nat.reduceLeDiff, Nat.reduceEqDiff, Nat.reduceGT, Nat.reduceBEq, reduceCtorEq, ↓reduceIte, Int.reduceToNat, Int.reduceLE, Int.reduceLT, Int.reduceNe, Int.reduceEq]
  have hsz := size_list s
  have hms : maxLen = 9223372036854775807 := rfl
  have hWl : W.length ≤ s.size := by
   have h1 := congrArg List.length hW
   rw [List.length_append] at h1
   have h2 := List.length_pos_iff.2 (wdS_ne q ((s.data.toList.take k).drop f) (s.data.toList.drop k))
   unfold wds at h1; omega
  have hkl := keepD_len W
  have hext : ∀ a b, s.extract a b = tx ((s.data.toList.take b).drop a) := fun a b => tx_ext (by rw [list_ext, tx_list])
  have hdec := dcd_list s k
  generalize Utf8.decode s k = D at hdec ⊢
  generalize s.data.toList = L at *
  refine ⟨fun hk => ?_, fun hk => ?_⟩
  ·have hnil : L.drop k = [] := List.drop_of_length_le (by omega)
   rw [hnil, wdS] at hW
   refine ⟨by omega, hkl, by omega, by omega, ?_⟩
   rw [← hW, keepD_app, hext, List.take_of_length_le (by omega), List.take_of_length_le (i := k) (by omega)]
   exact .refl _
  ·have hne : L.drop k ≠ [] := by intro e; have := congrArg List.length e; rw [List.length_drop] at this; simp at this; omega
   have hle := Lib.decodeL_le _ hne
   have hpos := dl_pos (L.drop k)
   have hr := rune_hi hne
   rw [← hdec] at hle hpos hr
   obtain ⟨c, n⟩ := D
   dsimp only at hle hpos hr ⊢
   rw [List.length_drop] at hle
   have hpc : (L.take (k + n)).drop f = (L.take k).drop f ++ (L.drop k).take n := by
    rw [List.take_add, List.drop_append_of_le_length (by rw [List.length_take]; omega)]
   have hsp : L.drop k = (L.drop k).take n ++ L.drop (k + n) := by rw [← List.drop_drop, List.take_append_drop]
   have pass : ∀ q', wdS q ((L.take k).drop f) (L.drop k) = wdS q' ((L.take k).drop f ++ (L.drop k).take n) (L.drop (k + n)) → ∃ s' : Nat × Nat × Bool × List (List UInt8),
      (s'.fst ≤ s.size ∧ s'.snd.fst ≤ s'.fst ∧ s'.snd.snd.snd ++ wdS s'.snd.snd.fst (List.drop s'.snd.fst (List.take s'.fst L)) (List.drop s'.fst L) = wds L) ∧
       s.size - s'.fst < s.size - k ∧
        (Wk (DV.acc l.n W.length) (DV.acc l.n s'.snd.snd.snd.length) ∧ f = s'.snd.fst ∧ q' = s'.snd.snd.fst) ∧
         Aml.Sub ⟨S.box, (l.n, Ob.arr 1 (keepD s'.snd.snd.snd)) :: (li.n, Ob.xo (XO.si s s'.fst)) :: S.acc⟩ ⟨S.box, (l.n, Ob.arr 1 (keepD W)) :: (li.n, Ob.xo (XO.si s (k + n))) :: S.acc⟩ := by
    intro q' e
    refine ⟨(k + n, f, q', W), ⟨by dsimp only; omega, by dsimp only; omega, ?_⟩, by dsimp only; omega, ⟨.refl _, rfl, rfl⟩, .refl _⟩
    dsimp only
    rw [hpc, ← e]; exact hW
   have skip : ((c : Int) ≠ 34 ∧ ((c : Int) ≠ 32 ∨ q = true)) → wdS q ((L.take k).drop f) (L.drop k) = wdS q ((L.take k).drop f ++ (L.drop k).take n) (L.drop (k + n)) := by
    intro hc
    conv => lhs; rw [hsp]
    refine wdS_skip q _ _ _ fun x hx => ?_
    rcases hr with ⟨c0, r, h1, h2, h3⟩ | ⟨h1, h2⟩
    ·injection h3 with h3 h4
     rw [h1, h4] at hx
     obtain rfl := List.mem_singleton.1 hx
     refine ⟨fun e => hc.1 (by rw [h3, e]; rfl), ?_⟩
     rcases hc.2 with h | h
     ·exact .inl fun e => h (by rw [h3, e]; rfl)
     ·exact .inr h
    ·have := h2 x hx
     exact ⟨fun e => by rw [e] at this; revert this; decide, .inl fun e => by rw [e] at this; revert this; decide⟩
   have one : ∀ x : UInt8, x.toNat < 128 → (c : Int) = x.toNat → L.drop k = x :: L.drop (k + 1) ∧ n = 1 := by
    intro x hx hcx
    rcases hr with ⟨c0, r, h1, h2, h3⟩ | ⟨h1, h2⟩
    ·injection h3 with h3 h4
     have : c0 = x := UInt8.toNat_inj.1 (by omega)
     subst this
     refine ⟨?_, h4⟩
     rw [← List.drop_drop, h1]; rfl
    ·omega
   refine ⟨fun h34 => ?_, fun h34 => ⟨fun h32 => ⟨fun hq => pass _ (skip ⟨h34, .inr hq⟩), fun hq => ?_⟩, fun h32 => pass _ (skip ⟨h34, .inl h32⟩)⟩⟩
   ·obtain ⟨h1, rfl⟩ := one 34 (by decide) h34
    refine pass _ ?_
    rw [h1, wdS, if_pos rfl]; rfl
   ·obtain ⟨h1, rfl⟩ := one 32 (by decide) h32
    have e1 : IntKind.i64.wrap ((k : Int) + 1) = ((k + 1 : Nat) : Int) := by rw [w64 (by omega) (by omega)]; omega
    refine ⟨hf1, hk1, hkl, by omega, by omega, (k + 1, k + 1, q, W ++ [(L.take k).drop f]), ⟨by dsimp only; omega, Nat.le_refl _, ?_⟩, by dsimp only; omega, ⟨by rw [hkl, List.length_append]; exact .refl _, e1, rfl⟩, ?_⟩
    ·dsimp only
     rw [List.drop_of_length_le (i := k + 1) (by rw [List.length_take]; omega), ← hW, h1, wdS, if_neg (by decide), if_pos ⟨rfl, hq⟩, List.append_assoc]; rfl
    ·dsimp only
     rw [keepD_app, hext]
     exact .refl _
def Fl.taken (s : List UInt8) : Fl → Fl
 | .n _ => .n (atV s)
 | .t _ => .t (unP s).1
def tkL (nme s : List UInt8) (fs : List Fl) : List Fl := List.zipWith (fun n f => if n = nme then f.taken s else f) fnm fs
def takeF (o : Ov) (nme s : List UInt8) : Ov := ⟨o.kind, tkL nme s o.fs, if (unP s).2 = true ∧ nme = kpw then o.keep ++ [(unP s).1] else o.keep⟩
theorem qs_ge (l : List UInt8) : l.length ≤ (qs l).length := by
 induction l using rune_ind with
 | h0 => simp
 | h1 l hne ih =>
  have h1 := Lib.decodeL_le l hne
  rw [qs_step hne, List.length_append]
  rw [List.length_drop] at ih
  have h2 : (Lib.decodeL l).2 ≤ (piece l).length := by
   unfold piece
   split
   ·rw [List.length_take]; omega
   ·rw [flat_len, List.length_take]; omega
  omega
theorem unP_len (s : List UInt8) : (unP s).1.length ≤ s.length := by
 by_cases h : ∃ l, qt l = s
 ·obtain ⟨l, rfl⟩ := h
  rw [unP_qt]
  have := qs_ge l
  unfold qt
  simp; omega
 ·rw [unP_no fun l e => h ⟨l, e⟩]; simp
theorem taken_ok {m i : Nat} {f : Fl} {s : List UInt8} (h : flOk m i f) (hs : s.length ≤ m) : flOk m i (f.taken s) := by
 cases f with
 | n x => exact ⟨h.1, atV_in s⟩
 | t l => exact ⟨h.1, Nat.le_trans (unP_len s) hs⟩
theorem tkL_at {nme s : List UInt8} {fs : List Fl} {i : Nat} {f : Fl} (hi : i < 9) (h : fs[i]? = some f) : (tkL nme s fs)[i]? = some (if fnm.getD i [] = nme then f.taken s else f) := by
 unfold tkL
 have h2 : i < fnm.length := hi
 rw [List.getElem?_zipWith, List.getElem?_eq_getElem h2, h]
 simp only [List.getD_eq_getElem?_getD, List.getElem?_eq_getElem h2]; rfl
theorem tkL_len {nme s : List UInt8} {fs : List Fl} (h : fs.length = 9) : (tkL nme s fs).length = 9 := by
 unfold tkL; rw [List.length_zipWith, h]; rfl
theorem tkL_ok {m : Nat} {o : Ov} (h : OvOk m o) {nme s : List UInt8} (hs : s.length ≤ m) : ∀ i f, (tkL nme s o.fs)[i]? = some f → flOk m i f := by
 intro i f h2
 have hi : i < 9 := by have := (List.getElem?_eq_some_iff.1 h2).1; rw [tkL_len h.len] at this; exact this
 have hio : i < o.fs.length := by rw [h.len]; exact hi
 have h1 := List.getElem?_eq_getElem hio
 rw [tkL_at hi h1] at h2
 cases h2
 have h3 := h.fl i _ h1
 split
 ·exact taken_ok h3 hs
 ·exact h3
theorem takeF_ok {m : Nat} {o : Ov} (h : OvOk m o) {nme s : List UInt8} (hs : s.length ≤ m) (hk : o.keep.length + 1 ≤ m) : OvOk m (takeF o nme s) where
 k0 := h.k0
 k1 := h.k1
 len := tkL_len h.len
 fl := tkL_ok h hs
 kp := by
  intro k hk
  unfold takeF at hk
  dsimp only at hk
  split at hk
  ·rcases List.mem_append.1 hk with h1 | h1
   ·exact h.kp k h1
   ·obtain rfl := List.mem_singleton.1 h1
    exact Nat.le_trans (unP_len s) hs
  ·exact h.kp k hk
 kn := by
  unfold takeF
  dsimp only
  split
  ·rw [List.length_append, List.length_singleton]; exact hk
  ·omega
theorem takeAt (w0 : W0) (hu : KU w0) (hk' : KE w0) {k b c : Nat} {D : List DV} {f : Fl} {s : List UInt8} {S : St} (hk : k < 9) (hb : lk S.box b = some D) (hd : D[k + 1]? = some f.dv) (hf : flOk 1048576 k f) (hc : lk S.box c = some [fv (atF k) []]) (hs : s.length ≤ 1048576) :
  ACall Tryz.prog w0 (tkF k) [pt b 0, dS (tx s), pt c 0] S (fun d S' => (∃ x, d = dB x) ∧ S' = ⟨Aml.up S.box b (D.set (k + 1) (f.taken s).dv), S.acc⟩) := by
 cases f with
 | n x =>
  unfold tkF
  rw [if_neg (by rw [hf.1]; decide)]
  exact takeN w0 hk' (okAt hk).1 (atAt w0 hk b) hb hd hc hs
 | t l =>
  unfold tkF
  rw [if_pos hf.1]
  exact takeT w0 hu hk' (okAt hk).1 (atAt w0 hk b) hb hd hc hs
theorem up_up {α : Type} (l : List (Nat × α)) (b : Nat) (x y : α) : Aml.up (Aml.up l b x) b y = Aml.up l b y := by
 induction l with
 | nil => rfl
 | cons p t ih =>
  obtain ⟨k, z⟩ := p
  simp only [Aml.up]
  split
  ·rename_i e; simp only [Aml.up]; rw [if_pos e]
  ·rename_i e; simp only [Aml.up]; rw [if_neg e, ih]
theorem lk_up_same {α : Type} {l : List (Nat × α)} {b : Nat} {x : α} (h : lk l b = some x) (y : α) : lk (Aml.up l b y) b = some y := by
 induction l with
 | nil => cases h
 | cons p t ih =>
  obtain ⟨k, z⟩ := p
  simp only [lk, Aml.up] at h ⊢
  split
  ·rename_i e; simp only [lk]; rw [if_pos e]
  ·rename_i e; rw [if_neg e] at h; simp only [lk]; rw [if_neg e]; exact ih h
theorem Fr.upd {B L : List (Nat × List DV)} (h : Fr B L) {b : Nat} {ds : List DV} (hb : Aml.lk L b = some ds) (v : List DV) : Fr B (Aml.up L b v) := by
 intro p hp
 have h1 := h p hp
 induction L with
 | nil => rfl
 | cons q t ih =>
  obtain ⟨k, z⟩ := q
  simp only [Aml.lk, Aml.up] at hb h1 ⊢
  split at h1
  ·cases h1
  ·rename_i e1
   split
   ·simp only [Aml.lk]; rw [if_neg e1]; exact h1
   ·rename_i e2
    rw [if_neg e2] at hb
    simp only [Aml.lk]; rw [if_neg e1]
    have aux : ∀ (M : List (Nat × List DV)), Aml.lk M p.1 = none → ∀ b' v', Aml.lk M b' ≠ none → Aml.lk (Aml.up M b' v') p.1 = none := by
     intro M
     induction M with
     | nil => intro _ b' v' _; rfl
     | cons r u ihu =>
      obtain ⟨k2, z2⟩ := r
      intro hM b' v' hb'
      simp only [Aml.lk, Aml.up] at hM hb' ⊢
      split at hM
      ·cases hM
      ·rename_i e3
       split
       ·simp only [Aml.lk]; rw [if_neg e3]; exact hM
       ·rename_i e4
        rw [if_neg e4] at hb'
        simp only [Aml.lk]; rw [if_neg e3]; exact ihu hM b' v' hb'
    exact aux t h1 b v (by rw [hb]; simp)
theorem drop_fs {fs : List Fl} {k : Nat} {d : Fl} (h : fs[k]? = some d) : fs.drop k = d :: fs.drop (k + 1) := by
 obtain ⟨h1, h2⟩ := List.getElem?_eq_some_iff.1 h
 rw [List.drop_eq_getElem_cons h1, h2]
def tkS (nme s : List UInt8) (fs : List Fl) (k : Nat) : List Fl := (tkL nme s fs).take k ++ fs.drop k
theorem tkS_at {nme s : List UInt8} {fs : List Fl} (h : fs.length = 9) {k : Nat} (hk : k < 9) : (tkS nme s fs k)[k]? = fs[k]? := by
 unfold tkS
 rw [List.getElem?_append_right (by rw [List.length_take, tkL_len h]; omega), List.length_take, tkL_len h, List.getElem?_drop]
 congr 1; omega
theorem tkS_len {nme s : List UInt8} {fs : List Fl} (h : fs.length = 9) {k : Nat} (hk : k ≤ 9) : (tkS nme s fs k).length = 9 := by
 unfold tkS
 rw [List.length_append, List.length_take, List.length_drop, tkL_len h, h]; omega
theorem tkS_next {nme s : List UInt8} {fs : List Fl} (h : fs.length = 9) {k : Nat} (hk : k < 9) {f : Fl} (hf : fs[k]? = some f) : (tkS nme s fs k).set k (if fnm.getD k [] = nme then f.taken s else f) = tkS nme s fs (k + 1) := by
 unfold tkS
 have h1 := tkL_at (nme := nme) (s := s) hk hf
 have hl : ((tkL nme s fs).take k).length = k := by rw [List.length_take, tkL_len h]; omega
 rw [List.set_append_right _ _ (by omega), hl, Nat.sub_self, List.take_add_one, h1, Option.toList_some, List.append_assoc]
 congr 1
 rw [drop_fs hf]; rfl
theorem ds_set {o : Ov} {kd : DV} {k : Nat} {f : Fl} (hk : k < o.fs.length) : (o.ds kd).set (k + 1) f.dv = (⟨o.kind, o.fs.set k f, o.keep⟩ : Ov).ds kd := by
 unfold Ov.ds
 dsimp only
 rw [List.set_cons_succ, List.set_append_left _ _ (by simpa using hk), List.map_set]
theorem up_new {L : List (Nat × List DV)} (x : FN L) {b : Nat} {ds : List DV} (v y : List DV) (h : lk L b = some ds) : Aml.up ((x.n, v) :: L) b y = (x.n, v) :: Aml.up L b y := by
 simp only [Aml.up]
 rw [if_neg]
 intro e
 have := nin_lk x.h
 rw [show x.m = b from e, h] at this
 cases this
theorem set_same {α : Type} {l : List α} {k : Nat} {x : α} (h : l[k]? = some x) : l.set k x = l := by
 refine List.ext_getElem? fun i => ?_
 rw [List.getElem?_set]
 split
 ·rename_i e; subst e
  rw [if_pos (List.getElem?_eq_some_iff.1 h).1, h]
 ·rfl
theorem takeP (w0 : W0) (hu : KU w0) (hk' : KE w0) {o : Ov} (h : OvOk 1048576 o) {b l : Nat} {nme s : List UInt8} {S : St} (hb : lk S.box b = some (o.ds (.acc l o.keep.length))) (hl : lk S.acc l = some (.arr 1 (keepD o.keep))) (hs : s.length ≤ 1048576) :
  ACall Tryz.prog w0 42 [pt b 0, dS (tx nme), dS (tx s)] S (fun _ S' => S' = ⟨Aml.up S.box b ((takeF o nme s).ds (.acc l (takeF o nme s).keep.length)), Aml.up S.acc l (.arr 1 (keepD (takeF o nme s).keep))⟩) := by
 refine fnP [] mx Tryz.func42 rfl rfl (by kernel_rfl) ?_; simp (maxDischargeDepth := 12) (maxSteps := 1000000) -implicitDefEqProofs only [Tryz.ntmps42, go_sem, Nat.reduceAdd, Nat.reduceSub, Nat.reduceMul, Nat.reduceLeDiff, Nat.reduceEqDiff, Nat.reduceGT, Nat.reduceBEq, reduceCtorEq, ↓reduceIte, Int.reduceToNat, Int.reduceLE, Int.reduceLT, Int.reduceNe, Int.reduceEq]
 refine useK (fieldsP w0 _) ?_
 rintro _ _ ⟨B, c, hfr, rfl, rfl, hc⟩
 have hrl := rowsF_len c
 simp (maxDischargeDepth := 12) (maxSteps := 1000000) -implicitDefEqProofs only [go_sem, Nat.reduceAdd, Nat.reduceSub, Nat.reduceMul, Nat.reduceLeDiff, Nat.reduceEqDiff, Nat.reduceGT, Nat.reduceBEq, reduceCtorEq, ↓reduceIte, Int.reduceToNat, Int.reduceLE, Int.reduceLT, Int.reduceNe, Int.reduceEq, hrl, Tryz.ntmps42]
 refine loopN [] 9 [0, 1, 2, 10, 11, 12] (fun k => [(12, dI k)]) (fun k => ⟨B ++ Aml.up S.box b ((⟨o.kind, tkS nme s o.fs k, o.keep⟩ : Ov).ds (.acc l o.keep.length)), S.acc⟩) (fun _ => True) mx (by kernel_rfl) ?_ ?_
 ·simp (maxDischargeDepth := 12) (maxSteps := 1000000) -implicitDefEqProofs only [go_sem, Nat.reduceAdd, Nat.reduceSub, Nat.reduceMul, Nat.reduceLeDiff, Nat.reduceEqDiff, Nat.reduceGT, Nat.reduceBEq, reduceCtorEq, ↓reduceIte, Int.reduceToNat, Int.reduceLE, Int.reduceLT, Int.reduceNe, Int.reduceEq]
  rw [show tkS nme s o.fs 0 = o.fs by simp [tkS], up_self hb]
  exact .refl _
 ·intro k hk _
  have e1 : IntKind.i64.wrap ((k : Int) + 1) = ((k + 1 : Nat) : Int) := by rw [w64 (by omega) (by omega)]; omega
  by_cases h9 : k < 9
  ·have hrow := el_at (rowsF_at c h9) rfl
   have hok := okAt h9
   simp (maxDischargeDepth := 12) (maxSteps := 1000000) -implicitDefEqProofs only [go_sem, Nat.reduceAdd, Nat.reduceSub, Nat.reduceMul, Nat.reduceLeDiff, Nat.reduceEqDiff, Nat.reduceGT, Nat.reduceBEq, reduceCtorEq, ↓reduceIte, Int.reduceToNat, Int.reduceLE, Int.reduceLT, Int.reduceNe, Int.reduceEq, hrl, hrow, e1, hok.2.2, tx_list]
   have hio : k < o.fs.length := by rw [h.len]; exact h9
   have hof := List.getElem?_eq_getElem hio
   generalize o.fs[k] = f at hof
   have hfo := h.fl k f hof
   have htl := tkS_len (nme := nme) (s := s) h.len (Nat.le_of_lt h9)
   have hnx := tkS_next (nme := nme) (s := s) h.len h9 hof
   have hta : (tkS nme s o.fs k)[k]? = some f := (tkS_at h.len h9).trans hof
   generalize tkS nme s o.fs k = T at *
   have hbk := lk_up_same hb ((⟨o.kind, T, o.keep⟩ : Ov).ds (.acc l o.keep.length))
   have hbB := (hfr.upd hb ((⟨o.kind, T, o.keep⟩ : Ov).ds (.acc l o.keep.length))).lk hbk
   refine ⟨fun _ => ⟨by omega, fun x => ⟨fun hn => ?_, fun hn => ?_⟩⟩, fun hh => absurd (by omega) hh⟩
   ·refine useK (takeAt w0 hu hk' h9 (lk_new x _ hbB) (ds_at (o := ⟨o.kind, T, o.keep⟩) hta) hfo (lk_new x _ (lk_appB (hc k h9))) hs) ?_
    rintro d S' ⟨⟨y, rfl⟩, rfl⟩
    rw [if_pos hn] at hnx
    rw [up_new x _ _ hbB, (hfr.upd hb _).up hbk, up_up, ds_set (o := ⟨o.kind, T, o.keep⟩) (by dsimp only; rw [htl]; exact h9), hnx]
    simp (maxDischargeDepth := 12) (maxSteps := 1000000) -implicitDefEqProofs only [go_sem, Nat.reduceAdd, Nat.reduceSub, Nat.reduceMul, Nat.reduceLeDiff, Nat.reduceEqDiff, Nat.reduceGT, Nat.reduceBEq, reduceCtorEq, ↓reduceIte, Int.reduceToNat, Int.reduceLE, Int.reduceLT, Int.reduceNe, Int.reduceEq]
    exact h9
   ·rw [if_neg hn, set_same hta] at hnx
    rw [← hnx]
    exact ⟨h9, .consB (.refl _)⟩
  ·obtain rfl : k = 9 := by omega
   rw [show tkS nme s o.fs 9 = tkL nme s o.fs by unfold tkS; rw [List.take_of_length_le (by rw [tkL_len h.len]; omega), List.drop_of_length_le (by rw [h.len]; omega), List.append_nil]]
   have hun := fun S => unquoteP w0 hu hk' (tx s) (by rw [tx_size]; exact hs) S
   rw [tx_list] at hun
   have h9o : OvOk 1048576 ⟨o.kind, tkL nme s o.fs, o.keep⟩ := ⟨h.k0, h.k1, tkL_len h.len, tkL_ok h hs, h.kp, h.kn⟩
   have hbk := lk_up_same hb ((⟨o.kind, tkL nme s o.fs, o.keep⟩ : Ov).ds (.acc l o.keep.length))
   have hfB := (hfr.upd hb ((⟨o.kind, tkL nme s o.fs, o.keep⟩ : Ov).ds (.acc l o.keep.length)))
   have hbB := hfB.lk hbk
   have hD := drop_at (ds_kp h9o (.acc l o.keep.length))
   have hDl := ds_len h9o (.acc l o.keep.length)
   have hset : ∀ kd, (((⟨o.kind, tkL nme s o.fs, o.keep⟩ : Ov).ds (.acc l o.keep.length))).set 10 kd = (⟨o.kind, tkL nme s o.fs, o.keep⟩ : Ov).ds kd := by
    intro kd
    unfold Ov.ds
    rw [List.set_cons_succ, List.set_append_right _ _ (by simp [tkL_len h.len])]
    simp [tkL_len h.len]
   have hkl := keepD_len o.keep
   have hkn := h.kn
   have hms : maxLen = 9223372036854775807 := rfl
   have hno : ¬ ((unP s).2 = true ∧ nme = kpw) → takeF o nme s = ⟨o.kind, tkL nme s o.fs, o.keep⟩ := by intro h; unfold takeF; rw [if_neg h]
   have hyes : ((unP s).2 = true ∧ nme = kpw) → takeF o nme s = ⟨o.kind, tkL nme s o.fs, o.keep ++ [(unP s).1]⟩ := by intro h; unfold takeF; rw [if_pos h]
   simp (maxDischargeDepth := 12) (maxSteps := 1000000) -implicitDefEqProofs only [go_sem, Nat.reduceAdd, Nat.reduceSub, Nat.reduceMul, Nat.reduceLeDiff, Nat.reduceEqDiff, Nat.reduceGT, Nat.reduceBEq, reduceCtorEq, ↓reduceIte, Int.reduceToNat, Int.reduceLE, Int.reduceLT, Int.reduceNe, Int.reduceEq, hrl, e1]
   refine use1 (hun _) ?_
   generalize hDe : (⟨o.kind, tkL nme s o.fs, o.keep⟩ : Ov).ds (.acc l o.keep.length) = D at *
   simp (maxDischargeDepth := 12) (maxSteps := 1000000) -implicitDefEqProofs only [go_sem, Nat.reduceAdd, Nat.reduceSub, Nat.reduceMul, Nat.reduceLeDiff, Nat.reduceEqDiff, Nat.reduceGT, Nat.reduceBEq, reduceCtorEq, ↓reduceIte, Int.reduceToNat, Int.reduceLE, Int.reduceLT, Int.reduceNe, Int.reduceEq, tx_list, hbB, hD, hl, hDl, hkl]
   refine ⟨fun h1 => ⟨fun h2 => ?_, fun h2 => ?_⟩, fun h1 => ?_⟩
   ·rw [hyes ⟨h1, h2⟩]
    refine ⟨by omega, by omega, _, _, .refl _, ?_, rfl⟩
    rw [hfB.up hbk, up_up, hset]
    dsimp only
    rw [keepD_app, List.length_append]
    exact ⟨List.sublist_append_right _ _, List.Sublist.refl _⟩
   ·rw [hno (fun h => h2 h.2)]
    refine ⟨_, _, .refl _, ?_, rfl⟩
    dsimp only
    rw [hDe, up_self hl]
    exact ⟨List.sublist_append_right _ _, List.Sublist.refl _⟩
   ·rw [hno (fun h => by rw [h1] at h; cases h.1)]
    refine ⟨_, _, .refl _, ?_, rfl⟩
    dsimp only
    rw [hDe, up_self hl]
    exact ⟨List.sublist_append_right _ _, List.Sublist.refl _⟩
def kdP (w : List UInt8) : Nat := (List.range 17).findIdx fun k : Nat => decide (nm (k : Int) = w)
theorem kdP_le (w : List UInt8) : kdP w ≤ 17 := by
 have := List.findIdx_le_length (p := fun k : Nat => decide (nm (k : Int) = w)) (xs := List.range 17)
 rwa [List.length_range] at this
theorem kdP_at {w : List UInt8} (h : kdP w < 17) : nm (kdP w : Int) = w := by
 have h1 : (List.range 17).findIdx (fun k : Nat => decide (nm (k : Int) = w)) < (List.range 17).length := by rw [List.length_range]; exact h
 have := List.findIdx_getElem (w := h1)
 rw [List.getElem_range] at this
 exact of_decide_eq_true this
theorem kdP_lt {w : List UInt8} {k : Nat} (h : k < kdP w) : nm (k : Int) ≠ w := by
 have h1 := List.not_of_lt_findIdx (p := fun k : Nat => decide (nm (k : Int) = w)) (xs := List.range 17) h
 rw [List.getElem_range] at h1
 simpa using h1
def zfs : List Fl := [.n 0, .n 0, .n 0, .t [], .t [], .t [], .n 0, .n 0, .n 0]
def zOv : Ov := ⟨0, zfs, []⟩
def takeW (o : Ov) (w : List UInt8) : Ov := takeF o (Lib.cut w [61]).1 (Lib.cut w [61]).2.1
def pO (s : List UInt8) : Ov := (wds s).tail.foldl takeW ⟨kdP ((wds s).headD []), zfs, []⟩
def pF (s : List UInt8) : Ov × Int := if (pO s).kind = 17 ∨ showO (pO s) ≠ s then (zOv, 13) else (pO s, 0)
theorem zfs_ok (m i : Nat) (f : Fl) (h : zfs[i]? = some f) : flOk m i f := by
 match i, h with
 | 0, h => cases h; exact ⟨rfl, by decide, by decide⟩
 | 1, h => cases h; exact ⟨rfl, by decide, by decide⟩
 | 2, h => cases h; exact ⟨rfl, by decide, by decide⟩
 | 3, h => cases h; exact ⟨rfl, by simp⟩
 | 4, h => cases h; exact ⟨rfl, by simp⟩
 | 5, h => cases h; exact ⟨rfl, by simp⟩
 | 6, h => cases h; exact ⟨rfl, by decide, by decide⟩
 | 7, h => cases h; exact ⟨rfl, by decide, by decide⟩
 | 8, h => cases h; exact ⟨rfl, by decide, by decide⟩
 | n + 9, h => cases h
theorem z_ok (m : Nat) (k : Nat) (hk : k ≤ 17) : OvOk m ⟨k, zfs, []⟩ := ⟨by dsimp only; omega, by dsimp only; omega, rfl, zfs_ok m, (fun k h => by cases h), Nat.zero_le _⟩
theorem cut_len (w : List UInt8) : (Lib.cut w [61]).1.length ≤ w.length ∧ (Lib.cut w [61]).2.1.length ≤ w.length := by
 unfold Lib.cut
 split
 ·exact ⟨by rw [List.length_take]; omega, by rw [List.length_drop]; omega⟩
 ·exact ⟨Nat.le_refl _, Nat.zero_le _⟩
theorem keep_le (o : Ov) (w : List UInt8) : (takeW o w).keep.length ≤ o.keep.length + 1 := by
 unfold takeW takeF
 dsimp only
 split
 ·rw [List.length_append]; simp
 ·omega
theorem fold_kind (ws : List (List UInt8)) (o : Ov) : (ws.foldl takeW o).kind = o.kind := by
 induction ws generalizing o with
 | nil => rfl
 | cons w ws ih => rw [List.foldl_cons, ih]; rfl
theorem fold_ok {m : Nat} (ws : List (List UInt8)) (hw : ∀ w, w ∈ ws → w.length ≤ m) : ∀ (o : Ov), OvOk m o → o.keep.length + ws.length ≤ m → OvOk m (ws.foldl takeW o) ∧ (ws.foldl takeW o).keep.length ≤ o.keep.length + ws.length := by
 induction ws with
 | nil => intro o h hl; exact ⟨h, Nat.le_refl _⟩
 | cons w ws ih =>
  intro o h hl
  rw [List.length_cons] at hl
  have h1 := hw w List.mem_cons_self
  have h2 := keep_le o w
  obtain ⟨h3, h4⟩ := ih (fun x hx => hw x (List.mem_cons_of_mem _ hx)) (takeW o w) (takeF_ok h (Nat.le_trans (cut_len w).2 h1) (by omega)) (by omega)
  rw [List.foldl_cons, List.length_cons]
  exact ⟨h3, by omega⟩
theorem pO_ok {m : Nat} {s : List UInt8} (h : s.length ≤ m) : OvOk m (pO s) := by
 unfold pO
 have h1 := wdS_len false [] s
 have h2 := wdS_sz false [] s
 refine (fold_ok _ (fun w hw => ?_) _ (z_ok m _ (kdP_le _)) ?_).1
 ·have := h2 w (List.mem_of_mem_tail hw); simp at this; omega
 ·rw [List.length_tail]; unfold wds; simp; omega
theorem wk_zero : Wk (.tup [.agg [dI 0, dI 0, dI 0, dI 0, dS ByteArray.empty, dS ByteArray.empty, dS ByteArray.empty, dI 0, dI 0, dI 0, .sl 0 true []], dI 13]) (.tup [.agg (((zOv, (13 : Int)) : Ov × Int).1.ds (.sl 1 false (keepD ((zOv, (13 : Int)) : Ov × Int).1.keep))), dI ((zOv, (13 : Int)) : Ov × Int).2]) := by
 show Wk (.tup [.agg [dI 0, dI 0, dI 0, dI 0, dS ByteArray.empty, dS ByteArray.empty, dS ByteArray.empty, dI 0, dI 0, dI 0, .sl 0 true []], dI 13]) (.tup [.agg [dI 0, dI 0, dI 0, dI 0, dS ByteArray.empty, dS ByteArray.empty, dS ByteArray.empty, dI 0, dI 0, dI 0, .sl 1 false []], dI 13])
 simp (maxDischargeDepth := 12) (maxSteps := 1000000) -implicitDefEqProofs only [go_sem, Nat.reduceAdd, Nat.reduceSub, Nat.reduceMul, Nat.reduceLeDiff, Nat.reduceEqDiff, Nat.reduceGT, Nat.reduceBEq, reduceCtorEq, ↓reduceIte, Int.reduceToNat, Int.reduceLE, Int.reduceLT, Int.reduceNe, Int.reduceEq]
theorem parseP' (w0 : W0) (hg : GlobN w0) (hp : KP w0) (hu : KU w0) (hk' : KE w0) (hm : KM w0) (s : ByteArray) (hs : s.size ≤ 1048576) (S : St) :
  ACall Tryz.prog w0 15 [dS s] S (fun d S' => d = .tup [.agg ((pF s.data.toList).1.ds (.sl 1 false (keepD (pF s.data.toList).1.keep))), dI (pF s.data.toList).2] ∧ S' = S) := by
 refine fnS [11] mx Tryz.func15 rfl rfl (by kernel_rfl) ?_; simp (maxDischargeDepth := 12) (maxSteps := 1000000) -implicitDefEqProofs only [Tryz.ntmps15, go_sem, Nat.reduceAdd, Nat.reduceSub, Nat.reduceMul, Nat.reduceLeDiff, Nat.reduceEqDiff, Nat.reduceGT, Nat.reduceBEq, reduceCtorEq, ↓reduceIte, Int.reduceToNat, Int.reduceLE, Int.reduceLT, Int.reduceNe, Int.reduceEq]
 intro b2
 refine use1 (wordsP w0 s hs _) ?_
 simp (maxDischargeDepth := 12) (maxSteps := 1000000) -implicitDefEqProofs only [go_sem, Nat.reduceAdd, Nat.reduceSub, Nat.reduceMul, Nat.reduceLeDiff, Nat.reduceEqDiff, Nat.reduceGT, Nat.reduceBEq, reduceCtorEq, ↓reduceIte, Int.reduceToNat, Int.reduceLE, Int.reduceLT, Int.reduceNe, Int.reduceEq]
 intro b
 refine awp_growB b.n 10 1 (by omega) (ds := [dI 0, dI 0, dI 0, dI 0, dS ByteArray.empty, dS ByteArray.empty, dS ByteArray.empty, dI 0, dI 0, dI 0, .sl 0 true []]) (by simp (maxDischargeDepth := 12) (maxSteps := 1000000) -implicitDefEqProofs only [go_sem, Nat.reduceAdd, Nat.reduceSub, Nat.reduceMul, Nat.reduceLeDiff, Nat.reduceEqDiff, Nat.reduceGT, Nat.reduceBEq, reduceCtorEq, ↓reduceIte, Int.reduceToNat, Int.reduceLE, Int.reduceLT, Int.reduceNe, Int.reduceEq]) rfl fun l => ?_
 have hwl := wdS_len false [] s.data.toList
 have hws := wdS_sz false [] s.data.toList
 have hwn := wdS_ne false [] s.data.toList
 have hpk := pO_ok (m := 1048576) (s := s.data.toList) (by rw [size_list]; exact hs)
 have hfok := fun (l : List (List UInt8)) (h1 : ∀ w, w ∈ l → w.length ≤ 1048576) h2 => fold_ok l h1 (⟨kdP ((wds s.data.toList).headD []), zfs, []⟩ : Ov) (z_ok 1048576 _ (kdP_le _)) h2
 rw [size_list] at hwl
 unfold pF
 unfold pO at hpk ⊢
 unfold wds at *
 generalize hWe : wdS false [] s.data.toList = W at *
 match W, hwn with
 | w :: ws, _ =>
 rw [List.headD_cons, List.tail_cons] at *
 have hkl := kdP_le w
 refine loopN [] (kdP w) [0, 2, 4, 5] (fun _ => []) (fun k => ⟨(b.n, (⟨k, zfs, []⟩ : Ov).ds (.acc l.n 0)) :: (b2.n, [dI 0, dI 0, dI 0, dI 0, dS ByteArray.empty, dS ByteArray.empty, dS ByteArray.empty, dI 0, dI 0, dI 0, .sl 0 true []]) :: S.box, (l.n, .arr 1 []) :: S.acc⟩) (fun _ => True) mx (by kernel_rfl) ?_ ?_
 ·simp (maxDischargeDepth := 12) (maxSteps := 1000000) -implicitDefEqProofs only [go_sem, Nat.reduceAdd, Nat.reduceSub, Nat.reduceMul, Nat.reduceLeDiff, Nat.reduceEqDiff, Nat.reduceGT, Nat.reduceBEq, reduceCtorEq, ↓reduceIte, Int.reduceToNat, Int.reduceLE, Int.reduceLT, Int.reduceNe, Int.reduceEq]
  exact .refl _
 ·intro k hk _
  have e1 : IntKind.i64.wrap ((k : Int) + 1) = ((k + 1 : Nat) : Int) := by rw [w64 (by omega) (by omega)]; omega
  simp (maxDischargeDepth := 12) (maxSteps := 1000000) -implicitDefEqProofs only [go_sem, Nat.reduceAdd, Nat.reduceSub, Nat.reduceMul, Nat.reduceLeDiff, Nat.reduceEqDiff, Nat.reduceGT, Nat.reduceBEq, reduceCtorEq, ↓reduceIte, Int.reduceToNat, Int.reduceLE, Int.reduceLT, Int.reduceNe, Int.reduceEq, e1, Ov.ds, keepD]
  have hcut : ∀ (a : List UInt8), a.length ≤ 1048576 → ∀ S, ACall Tryz.prog w0 41 [dS (tx a), dS ⟨#[61]⟩] S (fun d S' => d = .tup [dS (tx (Lib.cut a [61]).1), dS (tx (Lib.cut a [61]).2.1), dB (Lib.cut a [61]).2.2] ∧ S' = S) := by
   intro a ha S
   have := cutP w0 hm (tx a) (tx [61]) (by rw [tx_size]; omega) S
   rw [tx_list, tx_list] at this
   exact this
  refine ⟨fun h17 => ?_, fun h17 => ⟨by omega, ?fin1⟩⟩
  refine useQ (nameP w0 hg k _) ?_
  simp (maxDischargeDepth := 12) (maxSteps := 1000000) -implicitDefEqProofs only [go_sem, Nat.reduceAdd, Nat.reduceSub, Nat.reduceMul, Nat.reduceLeDiff, Nat.reduceEqDiff, Nat.reduceGT, Nat.reduceBEq, reduceCtorEq, ↓reduceIte, Int.reduceToNat, Int.reduceLE, Int.reduceLT, Int.reduceNe, Int.reduceEq, e1, tx_list]
  refine ⟨by omega, fun hnm => ⟨by omega, ?fin2⟩, fun hnm => ?fin3⟩
  case fin3 =>
   rcases Nat.lt_or_ge k (kdP w) with h | h
   ·exact h
   ·obtain rfl : k = kdP w := by omega
    exact absurd (kdP_at (w := w) (by omega)) hnm
  all_goals
   obtain rfl : k = kdP w := by
    first
     | omega
     | (rcases Nat.lt_or_ge k (kdP w) with h | h
        ·exact absurd hnm (kdP_lt h)
        ·omega)
   have hws2 : ∀ x, x ∈ ws → x.length ≤ 1048576 := by
    intro x hx
    have := hws x (List.mem_cons_of_mem _ hx)
    rw [size_list] at this; simp at this; omega
   have hwsl : ws.length ≤ 1048576 := by simp at hwl; omega
   refine loopN [] ws.length [0, 2, 5, 30, 31, 32] (fun j => [(32, dI j)]) (fun j => ⟨(b.n, ((ws.take j).foldl takeW ⟨kdP w, zfs, []⟩).ds (.acc l.n ((ws.take j).foldl takeW ⟨kdP w, zfs, []⟩).keep.length)) :: (b2.n, [dI 0, dI 0, dI 0, dI 0, dS ByteArray.empty, dS ByteArray.empty, dS ByteArray.empty, dI 0, dI 0, dI 0, .sl 0 true []]) :: S.box, (l.n, .arr 1 (keepD ((ws.take j).foldl takeW ⟨kdP w, zfs, []⟩).keep)) :: S.acc⟩) (fun _ => True) mx (by kernel_rfl) ?_ ?_
   ·simp (maxDischargeDepth := 12) (maxSteps := 1000000) -implicitDefEqProofs only [go_sem, Nat.reduceAdd, Nat.reduceSub, Nat.reduceMul, Nat.reduceLeDiff, Nat.reduceEqDiff, Nat.reduceGT, Nat.reduceBEq, reduceCtorEq, ↓reduceIte, Int.reduceToNat, Int.reduceLE, Int.reduceLT, Int.reduceNe, Int.reduceEq]
    exact .refl _
   ·intro j hj _
    have e2 : IntKind.i64.wrap ((j : Int) + 1) = ((j + 1 : Nat) : Int) := by rw [w64 (by omega) (by omega)]; omega
    have hO := hfok (ws.take j) (fun x hx => hws2 x (List.mem_of_mem_take hx)) (by dsimp only; rw [List.length_take]; simp; omega)
    by_cases hlt : j < ws.length
    ·have hje := List.getElem?_eq_getElem hlt
     have hja := hws2 _ (List.getElem_mem hlt)
     generalize ws[j] = a at hje hja
     have hst : (ws.take (j + 1)).foldl takeW ⟨kdP w, zfs, []⟩ = takeW ((ws.take j).foldl takeW ⟨kdP w, zfs, []⟩) a := by
      rw [List.take_add_one, hje, Option.toList_some, List.foldl_append]; rfl
     rw [hst]
     generalize (ws.take j).foldl takeW ⟨kdP w, zfs, []⟩ = O at *
     simp (maxDischargeDepth := 12) (maxSteps := 1000000) -implicitDefEqProofs only [go_sem, Nat.reduceAdd, Nat.reduceSub, Nat.reduceMul, Nat.reduceLeDiff, Nat.reduceEqDiff, Nat.reduceGT, Nat.reduceBEq, reduceCtorEq, ↓reduceIte, Int.reduceToNat, Int.reduceLE, Int.reduceLT, Int.reduceNe, Int.reduceEq, e2]
     refine ⟨fun _ => ⟨hlt, fun a2 ha2 => ?_⟩, fun hh => absurd hlt hh⟩
     obtain rfl : a = a2 := by rw [hje] at ha2; exact Option.some.inj ha2
     refine use1 (hcut a hja _) ?_
     simp (maxDischargeDepth := 12) (maxSteps := 1000000) -implicitDefEqProofs only [go_sem, Nat.reduceAdd, Nat.reduceSub, Nat.reduceMul, Nat.reduceLeDiff, Nat.reduceEqDiff, Nat.reduceGT, Nat.reduceBEq, reduceCtorEq, ↓reduceIte, Int.reduceToNat, Int.reduceLE, Int.reduceLT, Int.reduceNe, Int.reduceEq]
     refine useK (takeP w0 hu hk' (o := O) hO.1 (b := b.n) (l := l.n) (nme := (Lib.cut a [61]).1) (s := (Lib.cut a [61]).2.1) (by simp (maxDischargeDepth := 12) (maxSteps := 1000000) -implicitDefEqProofs only [go_sem, Nat.reduceAdd, Nat.reduceSub, Nat.reduceMul, Nat.reduceLeDiff, Nat.reduceEqDiff, Nat.reduceGT, Nat.reduceBEq, reduceCtorEq, ↓reduceIte, Int.reduceToNat, Int.reduceLE, Int.reduceLT, Int.reduceNe, Int.reduceEq]) (by simp (maxDischargeDepth := 12) (maxSteps := 1000000) -implicitDefEqProofs only [go_sem, Nat.reduceAdd, Nat.reduceSub, Nat.reduceMul, Nat.reduceLeDiff, Nat.reduceEqDiff, Nat.reduceGT, Nat.reduceBEq, reduceCtorEq, ↓reduceIte, Int.reduceToNat, Int.reduceLE, Int.reduceLT, Int.reduceNe, Int.reduceEq]) (Nat.le_trans (cut_len a).2 hja)) ?_
     rintro d S' rfl
     simp (maxDischargeDepth := 12) (maxSteps := 1000000) -implicitDefEqProofs only [go_sem, Nat.reduceAdd, Nat.reduceSub, Nat.reduceMul, Nat.reduceLeDiff, Nat.reduceEqDiff, Nat.reduceGT, Nat.reduceBEq, reduceCtorEq, ↓reduceIte, Int.reduceToNat, Int.reduceLE, Int.reduceLT, Int.reduceNe, Int.reduceEq]
     exact ⟨hlt, e2, .refl _⟩
    ·obtain rfl : j = ws.length := by omega
     rw [List.take_length] at *
     generalize ws.foldl takeW ⟨kdP w, zfs, []⟩ = O at *
     simp (maxDischargeDepth := 12) (maxSteps := 1000000) -implicitDefEqProofs only [go_sem, Nat.reduceAdd, Nat.reduceSub, Nat.reduceMul, Nat.reduceLeDiff, Nat.reduceEqDiff, Nat.reduceGT, Nat.reduceBEq, reduceCtorEq, ↓reduceIte, Int.reduceToNat, Int.reduceLE, Int.reduceLT, Int.reduceNe, Int.reduceEq, e2]
     refine ⟨fun hh => absurd hh (by omega), fun _ => ?_⟩
     have hdk := ds_kp hpk (.acc l.n O.keep.length)
     have hset : ∀ kd, (O.ds (.acc l.n O.keep.length)).set 10 kd = O.ds kd := by
      intro kd
      unfold Ov.ds
      rw [List.set_cons_succ, List.set_append_right _ _ (by simp [hpk.len])]
      simp [hpk.len]
     refine shrB (s := 1) b.n 10 (by simp (maxDischargeDepth := 12) (maxSteps := 1000000) -implicitDefEqProofs only [go_sem, Nat.reduceAdd, Nat.reduceSub, Nat.reduceMul, Nat.reduceLeDiff, Nat.reduceEqDiff, Nat.reduceGT, Nat.reduceBEq, reduceCtorEq, ↓reduceIte, Int.reduceToNat, Int.reduceLE, Int.reduceLT, Int.reduceNe, Int.reduceEq]) (hdk.trans (by rw [keepD_len])) (by simp (maxDischargeDepth := 12) (maxSteps := 1000000) -implicitDefEqProofs only [go_sem, Nat.reduceAdd, Nat.reduceSub, Nat.reduceMul, Nat.reduceLeDiff, Nat.reduceEqDiff, Nat.reduceGT, Nat.reduceBEq, reduceCtorEq, ↓reduceIte, Int.reduceToNat, Int.reduceLE, Int.reduceLT, Int.reduceNe, Int.reduceEq]) ?_
     rw [hset]
     have hsh := fun S => showP w0 hg hp hu hpk false S
     obtain ⟨x1, x2, x3, x4, x5, x6, x7, x8, x9, hfs⟩ := ov_form hpk
     have hds : O.ds (.sl 1 false (keepD O.keep)) = [dI O.kind, dI x1, dI x2, dI x3, dS (tx x4), dS (tx x5), dS (tx x6), dI x7, dI x8, dI x9, .sl 1 false (keepD O.keep)] := by unfold Ov.ds; rw [hfs]; rfl
     have hok : ¬ (O.kind = 17 ∨ showO O ≠ s.data.toList) → (if O.kind = 17 ∨ showO O ≠ s.data.toList then (zOv, (13 : Int)) else (O, 0)) = (O, 0) := fun h => if_neg h
     have hno : (O.kind = 17 ∨ showO O ≠ s.data.toList) → (if O.kind = 17 ∨ showO O ≠ s.data.toList then (zOv, (13 : Int)) else (O, 0)) = (zOv, 13) := fun h => if_pos h
     generalize (if O.kind = 17 ∨ showO O ≠ s.data.toList then (zOv, (13 : Int)) else (O, 0)) = R at *
     rw [hds] at hsh ⊢
     refine shrK [] [] mx (by kernel_rfl) ?_
     simp (maxDischargeDepth := 12) (maxSteps := 1000000) -implicitDefEqProofs only [go_sem, Nat.reduceAdd, Nat.reduceSub, Nat.reduceMul, Nat.reduceLeDiff, Nat.reduceEqDiff, Nat.reduceGT, Nat.reduceBEq, reduceCtorEq, ↓reduceIte, Int.reduceToNat, Int.reduceLE, Int.reduceLT, Int.reduceNe, Int.reduceEq]
     refine ⟨fun hk17 => ?_, fun hk17 => ?_⟩
     ·rw [hno (.inl hk17)]
      exact wk_zero
     ·refine use1 (hsh _) ?_
      simp (maxDischargeDepth := 12) (maxSteps := 1000000) -implicitDefEqProofs only [go_sem, Nat.reduceAdd, Nat.reduceSub, Nat.reduceMul, Nat.reduceLeDiff, Nat.reduceEqDiff, Nat.reduceGT, Nat.reduceBEq, reduceCtorEq, ↓reduceIte, Int.reduceToNat, Int.reduceLE, Int.reduceLT, Int.reduceNe, Int.reduceEq, tx_list]
      refine ⟨fun hne => ?_, fun heq => ?_⟩
      ·rw [hok (by rintro (h | h); exact hk17 h; exact h hne)]
       show Wk _ (.tup [.agg (O.ds (.sl 1 false (keepD O.keep))), dI 0])
       rw [hds]
       exact .refl _
      ·rw [hno (.inr heq)]
       exact wk_zero
def stB (t r : List UInt8) : Bool := decide (r.take t.length = t)
def stN (t r : List UInt8) : Nat := if stB t r then t.length else 0
theorem stB_len {t r : List UInt8} (h : stB t r = true) : t.length ≤ r.length := by
 have h1 := congrArg List.length (of_decide_eq_true h)
 rw [List.length_take] at h1; omega
theorem stN_le (t r : List UInt8) : stN t r ≤ r.length := by
 unfold stN
 split
 ·exact stB_len (by assumption)
 ·omega
def isD (c : UInt8) : Bool := decide (48 ≤ c.toNat) && decide (c.toNat ≤ 57)
def negV (ds : List UInt8) : Int := ds.foldl (fun n c => IntKind.i64.wrap (IntKind.i64.wrap (10 * n) - ((c.toNat - 48 : Nat) : Int))) 0
def tg (nme : List UInt8) : List UInt8 := [32] ++ nme ++ [61]
def numQ (nme r : List UInt8) : Int × Nat :=
 if stB (tg nme) r then
  let r1 := r.drop (tg nme).length
  let r2 := r1.drop (stN [45] r1)
  let ds := r2.takeWhile isD
  (if stB [45] r1 then negV ds else IntKind.i64.wrap (0 - negV ds), (tg nme).length + stN [45] r1 + ds.length)
 else (0, 0)
def notQ (c : UInt8) : Bool := decide (c ≠ 34)
def quN (r : List UInt8) : Nat :=
 let r1 := r.drop (stN [34] r)
 let b := (r1.takeWhile notQ).length
 stN [34] r + b + stN [34] (r1.drop b)
def quQ (r : List UInt8) : List UInt8 := (unR (r.take (quN r))).1
def txtQ (nme r : List UInt8) : List UInt8 × Nat := if stB (tg nme) r then (quQ (r.drop (tg nme).length), (tg nme).length + quN (r.drop (tg nme).length)) else ([], 0)
theorem tw_le (p : UInt8 → Bool) (r : List UInt8) : (r.takeWhile p).length ≤ r.length := (List.takeWhile_sublist p).length_le
theorem quN_le (r : List UInt8) : quN r ≤ r.length := by
 unfold quN
 have h1 := stN_le [34] r
 have h2 := tw_le notQ (r.drop (stN [34] r))
 have h3 := stN_le [34] ((r.drop (stN [34] r)).drop ((r.drop (stN [34] r)).takeWhile notQ).length)
 rw [List.length_drop] at h2
 rw [List.length_drop, List.length_drop] at h3
 dsimp only; omega
theorem numQ_le (nme r : List UInt8) : (numQ nme r).2 ≤ r.length := by
 unfold numQ
 split
 ·rename_i h
  have h0 := stB_len h
  have h1 := stN_le [45] (r.drop (tg nme).length)
  have h2 := tw_le isD ((r.drop (tg nme).length).drop (stN [45] (r.drop (tg nme).length)))
  rw [List.length_drop] at h1
  rw [List.length_drop, List.length_drop] at h2
  dsimp only; omega
 ·exact Nat.zero_le _
theorem txtQ_le (nme r : List UInt8) : (txtQ nme r).2 ≤ r.length := by
 unfold txtQ
 split
 ·rename_i h
  have h0 := stB_len h
  have h1 := quN_le (r.drop (tg nme).length)
  rw [List.length_drop] at h1
  dsimp only; omega
 ·exact Nat.zero_le _
theorem startsR (w0 : W0) {s t : ByteArray} {i b : Nat} {S : St} (hs : s.size ≤ 1048576) (ht : t.size ≤ 1048576) (hi : i ≤ s.size) (hb : lk S.box b = some [dS s, dI i]) :
  ACall Tryz.prog w0 46 [pt b 0, dS t] S (fun d S' => d = dB (stB t.data.toList (s.data.toList.drop i)) ∧ S' = ⟨Aml.up S.box b [dS s, dI ((i + stN t.data.toList (s.data.toList.drop i) : Nat))], S.acc⟩) := by
 have he : IntKind.i64.wrap ((i : Int) + (t.size : Int)) = ((i + t.size : Nat) : Int) := by rw [w64 (by omega) (by omega)]; omega
 have hT := size_list t
 have hL := size_list s
 have hex : (s.extract i (i + t.size)).data.toList = (s.data.toList.drop i).take t.data.toList.length := by rw [list_ext, hT, List.drop_take, Nat.add_sub_cancel_left]
 have yes : (s.data.toList.drop i).take t.data.toList.length = t.data.toList → stB t.data.toList (s.data.toList.drop i) = true ∧ stN t.data.toList (s.data.toList.drop i) = t.size := by
  intro h
  have : stB t.data.toList (s.data.toList.drop i) = true := decide_eq_true h
  exact ⟨this, by unfold stN; rw [if_pos this, hT]⟩
 have no : (s.data.toList.drop i).take t.data.toList.length ≠ t.data.toList → stB t.data.toList (s.data.toList.drop i) = false ∧ stN t.data.toList (s.data.toList.drop i) = 0 := by
  intro h
  have : stB t.data.toList (s.data.toList.drop i) = false := decide_eq_false h
  exact ⟨this, by unfold stN; rw [this]; rfl⟩
 have hsub : Aml.Sub ⟨Aml.up S.box b [DV.v (.string s), DV.v (.int .i64 i)], S.acc⟩ S := by rw [show Aml.up S.box b [DV.v (.string s), DV.v (.int .i64 i)] = S.box from up_self hb]; exact .refl _
 refine fnP [] mx Tryz.func46 rfl rfl (by kernel_rfl) ?_; simp (maxDischargeDepth := 12) (maxSteps := 1000000) -implicitDefEqProofs only [Tryz.ntmps46, go_sem, Nat.reduceAdd, Nat.reduceSub, Nat.reduceMul, Nat.reduceLeDiff, Nat.reduceEqDiff, Nat.reduceGT, Nat.reduceBEq, reduceCtorEq, ↓reduceIte, Int.reduceToNat, Int.reduceLE, Int.reduceLT, Int.reduceNe, Int.reduceEq, hb, he]
 refine ⟨fun h1 => ?_, fun h1 => ⟨by omega, by omega, fun h2 => ?_, fun h2 => ?_⟩⟩
 ·obtain ⟨e1, e2⟩ := no fun e => by
   have := congrArg List.length e
   rw [List.length_take, List.length_drop] at this; omega
  rw [e1, e2]
  exact ⟨_, _, .refl _, by rw [Nat.add_zero]; exact hsub, rfl, rfl⟩
 ·rw [hex] at h2
  obtain ⟨e1, e2⟩ := yes h2
  rw [e1, e2]
  exact ⟨_, _, .refl _, .refl _, rfl, rfl⟩
 ·rw [hex] at h2
  obtain ⟨e1, e2⟩ := no h2
  rw [e1, e2]
  exact ⟨_, _, .refl _, by rw [Nat.add_zero]; exact hsub, rfl, rfl⟩
theorem tw_get (p : UInt8 → Bool) : ∀ (l : List UInt8) (k : Nat), k ≤ (l.takeWhile p).length → (k < (l.takeWhile p).length → ∃ c, l[k]? = some c ∧ p c = true) ∧ (k = (l.takeWhile p).length → ∀ c, l[k]? = some c → p c = false)
 | [], k, h => by simp at h; subst h; simp
 | c :: l, k, h => by
  rw [List.takeWhile_cons] at h ⊢
  by_cases hp : p c = true
  ·rw [if_pos hp] at h ⊢
   cases k with
   | zero => exact ⟨fun _ => ⟨c, rfl, hp⟩, fun h => by simp at h⟩
   | succ k =>
    rw [List.length_cons] at h ⊢
    obtain ⟨h1, h2⟩ := tw_get p l k (by omega)
    exact ⟨fun hk => h1 (by omega), fun hk => h2 (by omega)⟩
  ·rw [if_neg hp] at h ⊢
   simp at h
   subst h
   exact ⟨fun h => by simp at h, fun _ d hd => by simp at hd; subst hd; simpa using hp⟩
theorem quotedR (w0 : W0) {s : ByteArray} {i b : Nat} {S : St} (hs : s.size ≤ 1048576) (hi : i ≤ s.size) (hb : lk S.box b = some [dS s, dI i]) :
  ACall Tryz.prog w0 47 [pt b 0] S (fun d S' => d = dS (tx (quQ (s.data.toList.drop i))) ∧ S' = ⟨Aml.up S.box b [dS s, dI ((i + quN (s.data.toList.drop i) : Nat))], S.acc⟩) := by
 have hL := size_list s
 have h1 := fun S hb => startsR w0 (s := s) (t := ⟨#[34]⟩) (i := i) (b := b) (S := S) hs (by decide) hi hb
 have hn1 := stN_le [34] (s.data.toList.drop i)
 refine fnP [] mx Tryz.func47 rfl rfl (by kernel_rfl) ?_; simp (maxDischargeDepth := 12) (maxSteps := 1000000) -implicitDefEqProofs only [Tryz.ntmps47, go_sem, Nat.reduceAdd, Nat.reduceSub, Nat.reduceMul, Nat.reduceLeDiff, Nat.reduceEqDiff, Nat.reduceGT, Nat.reduceBEq, reduceCtorEq, ↓reduceIte, Int.reduceToNat, Int.reduceLE, Int.reduceLT, Int.reduceNe, Int.reduceEq, hb]
 refine useK (h1 _ (by simp (maxDischargeDepth := 12) (maxSteps := 1000000) -implicitDefEqProofs only [go_sem, Nat.reduceAdd, Nat.reduceSub, Nat.reduceMul, Nat.reduceLeDiff, Nat.reduceEqDiff, Nat.reduceGT, Nat.reduceBEq, reduceCtorEq, ↓reduceIte, Int.reduceToNat, Int.reduceLE, Int.reduceLT, Int.reduceNe, Int.reduceEq, hb])) ?_
 rintro d S' ⟨rfl, rfl⟩
 have hus := fun v => lk_up_same hb v
 simp (maxDischargeDepth := 12) (maxSteps := 1000000) -implicitDefEqProofs only [go_sem, Nat.reduceAdd, Nat.reduceSub, Nat.reduceMul, Nat.reduceLeDiff, Nat.reduceEqDiff, Nat.reduceGT, Nat.reduceBEq, reduceCtorEq, ↓reduceIte, Int.reduceToNat, Int.reduceLE, Int.reduceLT, Int.reduceNe, Int.reduceEq]
 have hq : quN (s.data.toList.drop i) = stN [34] (s.data.toList.drop i) + ((s.data.toList.drop (i + stN [34] (s.data.toList.drop i))).takeWhile notQ).length + stN [34] (s.data.toList.drop (i + stN [34] (s.data.toList.drop i) + ((s.data.toList.drop (i + stN [34] (s.data.toList.drop i))).takeWhile notQ).length)) := by
  unfold quN; simp only [List.drop_drop]
 have hqx : quQ (s.data.toList.drop i) = (unR ((s.data.toList.drop i).take (quN (s.data.toList.drop i)))).1 := rfl
 have hqle := quN_le (s.data.toList.drop i)
 rw [List.length_drop] at hn1 hqle
 generalize stN [34] (s.data.toList.drop i) = a at *
 have htw := tw_le notQ (s.data.toList.drop (i + a))
 have htg := tw_get notQ (s.data.toList.drop (i + a))
 rw [List.length_drop] at htw
 generalize ((s.data.toList.drop (i + a)).takeWhile notQ).length = n at *
 have h2 := fun S hb => startsR w0 (s := s) (t := ⟨#[34]⟩) (i := i + a + n) (b := b) (S := S) hs (by decide) (by omega) hb
 rw [show (⟨#[34]⟩ : ByteArray).data.toList = [34] from rfl] at h2
 refine loopN [] n [0, 3] (fun _ => []) (fun k => ⟨Aml.up S.box b [dS s, dI ((i + a + k : Nat))], S.acc⟩) (fun _ => True) mx (by kernel_rfl) ?_ ?_
 ·simp (maxDischargeDepth := 12) (maxSteps := 1000000) -implicitDefEqProofs only [go_sem, Nat.reduceAdd, Nat.reduceSub, Nat.reduceMul, Nat.reduceLeDiff, Nat.reduceEqDiff, Nat.reduceGT, Nat.reduceBEq, reduceCtorEq, ↓reduceIte, Int.reduceToNat, Int.reduceLE, Int.reduceLT, Int.reduceNe, Int.reduceEq]
  rw [Nat.add_zero]; exact .refl _
 ·intro k hk _
  have e1 : IntKind.i64.wrap (((i + a + k : Nat) : Int) + 1) = ((i + a + (k + 1) : Nat) : Int) := by rw [w64 (by omega) (by omega)]; omega
  have huk := hus [dS s, dI ((i + a + k : Nat))]
  simp (maxDischargeDepth := 12) (maxSteps := 1000000) -implicitDefEqProofs only [go_sem, Nat.reduceAdd, Nat.reduceSub, Nat.reduceMul, Nat.reduceLeDiff, Nat.reduceEqDiff, Nat.reduceGT, Nat.reduceBEq, reduceCtorEq, ↓reduceIte, Int.reduceToNat, Int.reduceLE, Int.reduceLT, Int.reduceNe, Int.reduceEq, huk, e1, hus, up_up]
  have hd : ∀ j, (s.data.toList.drop (i + a))[j]? = s.data.toList[i + a + j]? := fun j => List.getElem?_drop
  obtain ⟨g1, g2⟩ := htg k hk
  rw [hd] at g1 g2
  refine ⟨fun hlt => ⟨hlt, fun c hc => ⟨fun h34 => ?_, fun h34 => ?f1⟩⟩, fun hlt => ?f2⟩
  ·rcases Nat.lt_or_ge k n with h | h
   ·exact h
   ·have := g2 (by omega) c hc
    unfold notQ at this
    exact absurd (of_decide_eq_false this) (by intro e; exact e fun e2 => h34 (by rw [e2]; rfl))
  all_goals
   obtain rfl : k = n := by
    rcases Nat.lt_or_ge k n with h | h
    ·obtain ⟨c2, h3, h4⟩ := g1 h
     unfold notQ at h4
     have h4 := of_decide_eq_true h4
     first
      | (rw [hc] at h3; cases h3; exact absurd (UInt8.toNat_inj.1 (show c.toNat = (34 : UInt8).toNat by have : (34 : UInt8).toNat = 34 := rfl; omega)) h4)
      | (have := (List.getElem?_eq_some_iff.1 h3).1; omega)
    ·omega
   refine useK (h2 _ (hus _)) ?_
   rintro d S' ⟨rfl, rfl⟩
   generalize stN [34] (s.data.toList.drop (i + a + k)) = m at *
   rw [hqx]
   rw [hq] at hqle ⊢
   rw [show i + (a + k + m) = i + a + k + m by omega]
   have hex : s.extract i (i + a + k + m) = tx ((s.data.toList.drop i).take (a + k + m)) := tx_ext (by rw [list_ext, tx_list, List.drop_take, show i + a + k + m - i = a + k + m by omega])
   simp (maxDischargeDepth := 12) (maxSteps := 1000000) -implicitDefEqProofs only [go_sem, Nat.reduceAdd, Nat.reduceSub, Nat.reduceMul, Nat.reduceLeDiff, Nat.reduceEqDiff, Nat.reduceGT, Nat.reduceBEq, reduceCtorEq, ↓reduceIte, Int.reduceToNat, Int.reduceLE, Int.reduceLT, Int.reduceNe, Int.reduceEq, hb, up_up, hex]
   refine ⟨by omega, by omega, ?_⟩
   refine useQ (unquoteR w0 (tx ((s.data.toList.drop i).take (a + k + m))) (by rw [tx_size, List.length_take, List.length_drop]; omega) _) ?_
   simp (maxDischargeDepth := 12) (maxSteps := 1000000) -implicitDefEqProofs only [go_sem, Nat.reduceAdd, Nat.reduceSub, Nat.reduceMul, Nat.reduceLeDiff, Nat.reduceEqDiff, Nat.reduceGT, Nat.reduceBEq, reduceCtorEq, ↓reduceIte, Int.reduceToNat, Int.reduceLE, Int.reduceLT, Int.reduceNe, Int.reduceEq, hb, up_up, tx_list]
   exact ⟨_, _, .refl _, .refl _, rfl, rfl⟩
theorem tx_tg (nme : List UInt8) : (⟨#[32]⟩ : ByteArray) ++ tx nme ++ ⟨#[61]⟩ = tx (tg nme) := by
 show tx [32] ++ tx nme ++ tx [61] = _
 rw [tx_app, tx_app]; rfl
theorem tg_len (nme : List UInt8) : (tg nme).length = nme.length + 2 := by unfold tg; simp
theorem textQ (w0 : W0) {s : ByteArray} {nme : List UInt8} {i b : Nat} {S : St} (hs : s.size ≤ 1048576) (hn : nme.length ≤ 10) (hi : i ≤ s.size) (hb : lk S.box b = some [dS s, dI i]) :
  ACall Tryz.prog w0 45 [pt b 0, dS (tx nme)] S (fun d S' => d = dS (tx (txtQ nme (s.data.toList.drop i)).1) ∧ S' = ⟨Aml.up S.box b [dS s, dI ((i + (txtQ nme (s.data.toList.drop i)).2 : Nat))], S.acc⟩) := by
 have hL := size_list s
 have hus := fun v => lk_up_same hb v
 have htl := tg_len nme
 have h1 := fun S hb => startsR w0 (s := s) (t := tx (tg nme)) (i := i) (b := b) (S := S) hs (by rw [tx_size]; omega) hi hb
 rw [tx_list] at h1
 have e := tx_tg nme
 refine fnP [] mx Tryz.func45 rfl rfl (by kernel_rfl) ?_; simp (maxDischargeDepth := 12) (maxSteps := 1000000) -implicitDefEqProofs only [Tryz.ntmps45, go_sem, Nat.reduceAdd, Nat.reduceSub, Nat.reduceMul, Nat.reduceLeDiff, Nat.reduceEqDiff, Nat.reduceGT, Nat.reduceBEq, reduceCtorEq, ↓reduceIte, Int.reduceToNat, Int.reduceLE, Int.reduceLT, Int.reduceNe, Int.reduceEq, tx_size, e]
 refine ⟨by omega, by omega, ?_⟩
 refine useK (h1 _ hb) ?_
 rintro d S' ⟨rfl, rfl⟩
 unfold txtQ stN
 cases hst : stB (tg nme) (s.data.toList.drop i) with
 | false =>
  simp (maxDischargeDepth := 12) (maxSteps := 1000000) -implicitDefEqProofs only [go_sem, Nat.reduceAdd, Nat.reduceSub, Nat.reduceMul, Nat.reduceLeDiff, Nat.reduceEqDiff, Nat.reduceGT, Nat.reduceBEq, reduceCtorEq, ↓reduceIte, Int.reduceToNat, Int.reduceLE, Int.reduceLT, Int.reduceNe, Int.reduceEq]
  exact ⟨_, _, .refl _, .refl _, rfl, rfl⟩
 | true =>
  have hle := stB_len hst
  rw [List.length_drop] at hle
  have h2 := fun S hb => quotedR w0 (s := s) (i := i + (tg nme).length) (b := b) (S := S) hs (by omega) hb
  simp (maxDischargeDepth := 12) (maxSteps := 1000000) -implicitDefEqProofs only [go_sem, Nat.reduceAdd, Nat.reduceSub, Nat.reduceMul, Nat.reduceLeDiff, Nat.reduceEqDiff, Nat.reduceGT, Nat.reduceBEq, reduceCtorEq, ↓reduceIte, Int.reduceToNat, Int.reduceLE, Int.reduceLT, Int.reduceNe, Int.reduceEq]
  refine useK (h2 _ (hus _)) ?_
  rintro d S' ⟨rfl, rfl⟩
  rw [List.drop_drop]
  simp (maxDischargeDepth := 12) (maxSteps := 1000000) -implicitDefEqProofs only [go_sem, Nat.reduceAdd, Nat.reduceSub, Nat.reduceMul, Nat.reduceLeDiff, Nat.reduceEqDiff, Nat.reduceGT, Nat.reduceBEq, reduceCtorEq, ↓reduceIte, Int.reduceToNat, Int.reduceLE, Int.reduceLT, Int.reduceNe, Int.reduceEq, up_up]
  refine ⟨_, _, .refl _, ?_, rfl, rfl⟩
  rw [Nat.add_assoc]; exact .refl _
theorem numberQ (w0 : W0) {s : ByteArray} {nme : List UInt8} {i b : Nat} {S : St} (hs : s.size ≤ 1048576) (hn : nme.length ≤ 10) (hi : i ≤ s.size) (hb : lk S.box b = some [dS s, dI i]) :
  ACall Tryz.prog w0 44 [pt b 0, dS (tx nme)] S (fun d S' => d = dI (numQ nme (s.data.toList.drop i)).1 ∧ S' = ⟨Aml.up S.box b [dS s, dI ((i + (numQ nme (s.data.toList.drop i)).2 : Nat))], S.acc⟩) := by
 have hL := size_list s
 have hus := fun v => lk_up_same hb v
 have htl := tg_len nme
 have h1 := fun S hb => startsR w0 (s := s) (t := tx (tg nme)) (i := i) (b := b) (S := S) hs (by rw [tx_size]; omega) hi hb
 rw [tx_list] at h1
 have e := tx_tg nme
 refine fnP [] mx Tryz.func44 rfl rfl (by kernel_rfl) ?_; simp (maxDischargeDepth := 12) (maxSteps := 1000000) -implicitDefEqProofs only [Tryz.ntmps44, go_sem, Nat.reduceAdd, Nat.reduceSub, Nat.reduceMul, Nat.reduceLeDiff, Nat.reduceEqDiff, Nat.reduceGT, Nat.reduceBEq, reduceCtorEq, ↓reduceIte, Int.reduceToNat, Int.reduceLE, Int.reduceLT, Int.reduceNe, Int.reduceEq, tx_size, e]
 refine ⟨by omega, by omega, ?_⟩
 refine useK (h1 _ hb) ?_
 rintro d S' ⟨rfl, rfl⟩
 unfold numQ
 rw [show stN (tg nme) (s.data.toList.drop i) = if stB (tg nme) (s.data.toList.drop i) then (tg nme).length else 0 from rfl]
 cases hst : stB (tg nme) (s.data.toList.drop i) with
 | false =>
  simp (maxDischargeDepth := 12) (maxSteps := 1000000) -implicitDefEqProofs only [go_sem, Nat.reduceAdd, Nat.reduceSub, Nat.reduceMul, Nat.reduceLeDiff, Nat.reduceEqDiff, Nat.reduceGT, Nat.reduceBEq, reduceCtorEq, ↓reduceIte, Int.reduceToNat, Int.reduceLE, Int.reduceLT, Int.reduceNe, Int.reduceEq]
  exact ⟨_, _, .refl _, .refl _, rfl, rfl⟩
 | true =>
  have hle := stB_len hst
  rw [List.length_drop] at hle
  have h2 := fun S hb => startsR w0 (s := s) (t := ⟨#[45]⟩) (i := i + (tg nme).length) (b := b) (S := S) hs (by decide) (by omega) hb
  rw [show (⟨#[45]⟩ : ByteArray).data.toList = [45] from rfl] at h2
  have hn1 := stN_le [45] (s.data.toList.drop (i + (tg nme).length))
  rw [List.length_drop] at hn1
  simp only [if_true, List.drop_drop]
  simp (maxDischargeDepth := 12) (maxSteps := 1000000) -implicitDefEqProofs only [go_sem, Nat.reduceAdd, Nat.reduceSub, Nat.reduceMul, Nat.reduceLeDiff, Nat.reduceEqDiff, Nat.reduceGT, Nat.reduceBEq, reduceCtorEq, ↓reduceIte, Int.reduceToNat, Int.reduceLE, Int.reduceLT, Int.reduceNe, Int.reduceEq]
  refine useK (h2 _ (hus _)) ?_
  rintro d S' ⟨rfl, rfl⟩
  simp (maxDischargeDepth := 12) (maxSteps := 1000000) -implicitDefEqProofs only [go_sem, Nat.reduceAdd, Nat.reduceSub, Nat.reduceMul, Nat.reduceLeDiff, Nat.reduceEqDiff, Nat.reduceGT, Nat.reduceBEq, reduceCtorEq, ↓reduceIte, Int.reduceToNat, Int.reduceLE, Int.reduceLT, Int.reduceNe, Int.reduceEq, up_up]
  generalize hj : i + (tg nme).length + stN [45] (s.data.toList.drop (i + (tg nme).length)) = j at *
  have hj2 : i + ((tg nme).length + stN [45] (s.data.toList.drop (i + (tg nme).length))) = j := by rw [← hj, Nat.add_assoc]
  have hjl : j ≤ s.size := by omega
  generalize hm : stB [45] (s.data.toList.drop (i + (tg nme).length)) = m at *
  have htw := tw_le isD (s.data.toList.drop j)
  have htg := tw_get isD (s.data.toList.drop j)
  have hpre := List.prefix_iff_eq_take.1 (List.takeWhile_prefix (l := s.data.toList.drop j) isD)
  rw [List.length_drop] at htw
  generalize hds : (s.data.toList.drop j).takeWhile isD = ds at *
  refine loopN [] ds.length [0, 5, 6] (fun k => [(6, dI (negV (ds.take k)))]) (fun k => ⟨Aml.up S.box b [dS s, dI ((j + k : Nat))], S.acc⟩) (fun _ => True) mx (by kernel_rfl) ?_ ?_
  ·simp (maxDischargeDepth := 12) (maxSteps := 1000000) -implicitDefEqProofs only [go_sem, Nat.reduceAdd, Nat.reduceSub, Nat.reduceMul, Nat.reduceLeDiff, Nat.reduceEqDiff, Nat.reduceGT, Nat.reduceBEq, reduceCtorEq, ↓reduceIte, Int.reduceToNat, Int.reduceLE, Int.reduceLT, Int.reduceNe, Int.reduceEq]
   exact ⟨rfl, .refl _⟩
  ·intro k hk _
   have e1 : IntKind.i64.wrap (((j + k : Nat) : Int) + 1) = ((j + (k + 1) : Nat) : Int) := by rw [w64 (by omega) (by omega)]; omega
   have hd : ∀ q, (s.data.toList.drop j)[q]? = s.data.toList[j + q]? := fun q => List.getElem?_drop
   obtain ⟨g1, g2⟩ := htg k hk
   rw [hd] at g1 g2
   simp (maxDischargeDepth := 12) (maxSteps := 1000000) -implicitDefEqProofs only [go_sem, Nat.reduceAdd, Nat.reduceSub, Nat.reduceMul, Nat.reduceLeDiff, Nat.reduceEqDiff, Nat.reduceGT, Nat.reduceBEq, reduceCtorEq, ↓reduceIte, Int.reduceToNat, Int.reduceLE, Int.reduceLT, Int.reduceNe, Int.reduceEq, hb, up_up, e1]
   have hdig : ∀ c, s.data.toList[j + k]? = some c → (isD c = true → k < ds.length) ∧ (isD c = false → k = ds.length) := by
    intro c hc
    rcases Nat.lt_or_ge k ds.length with h | h
    ·obtain ⟨c2, h3, h4⟩ := g1 h
     rw [hc] at h3; cases h3
     exact ⟨fun _ => h, fun h5 => by rw [h4] at h5; cases h5⟩
    ·have h5 := g2 (by omega) c hc
     exact ⟨(fun h6 => by rw [h5] at h6; cases h6), fun _ => by omega⟩
   have hend : ¬ j + k < s.size → k = ds.length := by
    intro hh
    rcases Nat.lt_or_ge k ds.length with h | h
    ·obtain ⟨c2, h3, h4⟩ := g1 h
     have := (List.getElem?_eq_some_iff.1 h3).1; omega
    ·omega
   refine ⟨fun h1 => ⟨h1, fun c hc => ⟨fun h48 => ⟨h1, fun c2 hc2 => ⟨fun h57 => ⟨h1, fun c3 hc3 => ?_⟩, fun h57 => ?x1⟩⟩, fun h48 => ?x2⟩⟩, fun h1 => ?x3⟩
   ·obtain rfl : c = c3 := by rw [hc] at hc3; exact Option.some.inj hc3
    obtain rfl : c = c2 := by rw [hc] at hc2; exact Option.some.inj hc2
    have hD : isD c = true := by unfold isD; simp; omega
    have hlt := (hdig c hc).1 hD
    have hk2 : ds[k]? = some c := by rw [hpre, List.getElem?_take, if_pos hlt, hd]; exact hc
    refine ⟨hlt, ?_⟩
    unfold negV
    rw [List.take_add_one, hk2, Option.toList_some, List.foldl_append, List.foldl_cons, List.foldl_nil]
    rw [show IntKind.u8.wrap ((c.toNat : Int) - 48) = ((c.toNat - 48 : Nat) : Int) by rw [wu8 (by omega) (by omega)]; omega, show IntKind.i64.wrap ((c.toNat - 48 : Nat) : Int) = ((c.toNat - 48 : Nat) : Int) by rw [w64 (by omega) (by omega)]]
   all_goals
    have hkn : k = ds.length := by
     first
      | exact hend h1
      | (refine (hdig c hc).2 ?_; unfold isD; simp; omega)
      | (obtain rfl : c = c2 := by rw [hc] at hc2; exact Option.some.inj hc2
         refine (hdig c hc).2 ?_; unfold isD; simp; omega)
    subst hkn
    rw [List.take_length, ← Nat.add_assoc i, hj2]
    exact ⟨fun h => ⟨_, _, .refl _, .refl _, by rw [if_pos h], rfl⟩, fun h => ⟨_, _, .refl _, .refl _, by rw [if_neg (by rw [h]; decide)], rfl⟩⟩
def matchK (s : List UInt8) (k : Nat) : Bool := decide (s.take (nm k).length = nm k) && (decide (s.length = (nm k).length) || decide (s[(nm k).length]? = some 32))
def kdR (s : List UInt8) : Nat := (List.range 17).findIdx (matchK s)
theorem kdR_le (s : List UInt8) : kdR s ≤ 17 := by
 have := List.findIdx_le_length (p := matchK s) (xs := List.range 17)
 rwa [List.length_range] at this
theorem kdR_at {s : List UInt8} (h : kdR s < 17) : matchK s (kdR s) = true := by
 have h1 : (List.range 17).findIdx (matchK s) < (List.range 17).length := by rw [List.length_range]; exact h
 have := List.findIdx_getElem (w := h1)
 rw [List.getElem_range] at this
 exact this
theorem kdR_lt {s : List UInt8} {k : Nat} (h : k < kdR s) : matchK s k = false := by
 have h1 := List.not_of_lt_findIdx (p := matchK s) (xs := List.range 17) h
 rw [List.getElem_range] at h1
 simpa using h1
def kw : List UInt8 := [32, 107, 101, 101, 112, 61]
def keepG (r : List UInt8) : List (List UInt8) := if h : stB kw r = true then quQ (r.drop 6) :: keepG ((r.drop 6).drop (quN (r.drop 6))) else []
termination_by r.length
decreasing_by
 have h1 := stB_len h
 have h2 : kw.length = 6 := rfl
 rw [List.length_drop, List.length_drop]
 omega
theorem keepG_yes {r : List UInt8} (h : stB kw r = true) : keepG r = quQ (r.drop 6) :: keepG ((r.drop 6).drop (quN (r.drop 6))) := by rw [keepG, dif_pos h]
theorem keepG_no {r : List UInt8} (h : stB kw r = false) : keepG r = [] := by rw [keepG, dif_neg (by rw [h]; decide)]
theorem quQ_len (r : List UInt8) : (quQ r).length ≤ r.length := by
 unfold quQ
 rw [← unP_unR]
 refine Nat.le_trans (unP_len _) ?_
 rw [List.length_take]; omega
theorem keepG_ok (n : Nat) : ∀ r : List UInt8, r.length ≤ n → (∀ k, k ∈ keepG r → k.length ≤ r.length) ∧ (keepG r).length ≤ r.length := by
 induction n with
 | zero =>
  intro r hr
  have h : stB kw r = false := by
   cases h : stB kw r with
   | false => rfl
   | true => have := stB_len h; have h2 : kw.length = 6 := rfl; omega
  rw [keepG_no h]
  exact ⟨fun k hk => (by cases hk), Nat.zero_le _⟩
 | succ n ih =>
  intro r hr
  cases h : stB kw r with
  | false =>
   rw [keepG_no h]
   exact ⟨fun k hk => (by cases hk), Nat.zero_le _⟩
  | true =>
   have h1 := stB_len h
   have h2 : kw.length = 6 := rfl
   rw [keepG_yes h]
   obtain ⟨h3, h4⟩ := ih ((r.drop 6).drop (quN (r.drop 6))) (by rw [List.length_drop, List.length_drop]; omega)
   rw [List.length_drop, List.length_drop] at h3 h4
   refine ⟨fun k hk => ?_, by rw [List.length_cons]; omega⟩
   rcases List.mem_cons.1 hk with rfl | hk
   ·have := quQ_len (r.drop 6); rw [List.length_drop] at this; omega
   ·have := h3 k hk; omega
theorem i64_in (x : Int) : -9223372036854775808 ≤ IntKind.i64.wrap x ∧ IntKind.i64.wrap x ≤ 9223372036854775807 := by
 show -9223372036854775808 ≤ (if (true && decide (x % 18446744073709551616 ≥ 9223372036854775808)) = true then x % 18446744073709551616 - 18446744073709551616 else x % 18446744073709551616) ∧ (if (true && decide (x % 18446744073709551616 ≥ 9223372036854775808)) = true then x % 18446744073709551616 - 18446744073709551616 else x % 18446744073709551616) ≤ 9223372036854775807
 by_cases h : x % 18446744073709551616 ≥ 9223372036854775808
 ·rw [if_pos (by simpa using h)]; omega
 ·rw [if_neg (by simpa using h)]; simp at h; omega
theorem negV_in (ds : List UInt8) : -9223372036854775808 ≤ negV ds ∧ negV ds ≤ 9223372036854775807 := by
 rcases List.eq_nil_or_concat ds with rfl | ⟨l, c, rfl⟩
 ·decide
 ·unfold negV
  rw [List.concat_eq_append, List.foldl_append]
  exact i64_in _
theorem numQ_in (nme r : List UInt8) : -9223372036854775808 ≤ (numQ nme r).1 ∧ (numQ nme r).1 ≤ 9223372036854775807 := by
 unfold numQ
 split
 ·dsimp only
  split
  ·exact negV_in _
  ·exact i64_in _
 ·exact ⟨by decide, by decide⟩
theorem txtQ_len (nme r : List UInt8) : (txtQ nme r).1.length ≤ r.length := by
 unfold txtQ
 split
 ·have := quQ_len (r.drop (tg nme).length); rw [List.length_drop] at this; dsimp only; omega
 ·exact Nat.zero_le _
structure Rp where
 a : Int × Nat
 b : Int × Nat
 c : Int × Nat
 d : List UInt8 × Nat
 e : List UInt8 × Nat
 f : List UInt8 × Nat
 g : Int × Nat
 i : Int × Nat
 j : Int × Nat
 z : List UInt8
def rPg (N : List UInt8 → List UInt8 → Int × Nat) (X : List UInt8 → List UInt8 → List UInt8 × Nat) (r : List UInt8) : Rp :=
 let a := N (fnm.getD 0 []) r
 let r1 := r.drop a.2
 let b := N (fnm.getD 1 []) r1
 let r2 := r1.drop b.2
 let c := N (fnm.getD 2 []) r2
 let r3 := r2.drop c.2
 let d := X (fnm.getD 3 []) r3
 let r4 := r3.drop d.2
 let e := X (fnm.getD 4 []) r4
 let r5 := r4.drop e.2
 let f := X (fnm.getD 5 []) r5
 let r6 := r5.drop f.2
 let g := N (fnm.getD 6 []) r6
 let r7 := r6.drop g.2
 let i := N (fnm.getD 7 []) r7
 let r8 := r7.drop i.2
 let j := N (fnm.getD 8 []) r8
 ⟨a, b, c, d, e, f, g, i, j, r8.drop j.2⟩
def rP (r : List UInt8) : Rp := rPg numQ txtQ r
theorem rPg_chain (N : List UInt8 → List UInt8 → Int × Nat) (X : List UInt8 → List UInt8 → List UInt8 × Nat) (r : List UInt8) : N (fnm.getD 0 []) (r) = (rPg N X r).a ∧ N (fnm.getD 1 []) (r.drop (rPg N X r).a.2) = (rPg N X r).b ∧ N (fnm.getD 2 []) ((r.drop (rPg N X r).a.2).drop (rPg N X r).b.2) = (rPg N X r).c ∧ X (fnm.getD 3 []) (((r.drop (rPg N X r).a.2).drop (rPg N X r).b.2).drop (rPg N X r).c.2) = (rPg N X r).d ∧ X (fnm.getD 4 []) ((((r.drop (rPg N X r).a.2).drop (rPg N X r).b.2).drop (rPg N X r).c.2).drop (rPg N X r).d.2) = (rPg N X r).e ∧ X (fnm.getD 5 []) (((((r.drop (rPg N X r).a.2).drop (rPg N X r).b.2).drop (rPg N X r).c.2).drop (rPg N X r).d.2).drop (rPg N X r).e.2) = (rPg N X r).f ∧ N (fnm.getD 6 []) ((((((r.drop (rPg N X r).a.2).drop (rPg N X r).b.2).drop (rPg N X r).c.2).drop (rPg N X r).d.2).drop (rPg N X r).e.2).drop (rPg N X r).f.2) = (rPg N X r).g ∧ N (fnm.getD 7 []) (((((((r.drop (rPg N X r).a.2).drop (rPg N X r).b.2).drop (rPg N X r).c.2).drop (rPg N X r).d.2).drop (rPg N X r).e.2).drop (rPg N X r).f.2).drop (rPg N X r).g.2) = (rPg N X r).i ∧ N (fnm.getD 8 []) ((((((((r.drop (rPg N X r).a.2).drop (rPg N X r).b.2).drop (rPg N X r).c.2).drop (rPg N X r).d.2).drop (rPg N X r).e.2).drop (rPg N X r).f.2).drop (rPg N X r).g.2).drop (rPg N X r).i.2) = (rPg N X r).j ∧ ((((((((r.drop (rPg N X r).a.2).drop (rPg N X r).b.2).drop (rPg N X r).c.2).drop (rPg N X r).d.2).drop (rPg N X r).e.2).drop (rPg N X r).f.2).drop (rPg N X r).g.2).drop (rPg N X r).i.2).drop (rPg N X r).j.2 = (rPg N X r).z := ⟨rfl, rfl, rfl, rfl, rfl, rfl, rfl, rfl, rfl, rfl⟩
theorem rP_chain (r : List UInt8) : numQ (fnm.getD 0 []) (r) = (rP r).a ∧ numQ (fnm.getD 1 []) (r.drop (rP r).a.2) = (rP r).b ∧ numQ (fnm.getD 2 []) ((r.drop (rP r).a.2).drop (rP r).b.2) = (rP r).c ∧ txtQ (fnm.getD 3 []) (((r.drop (rP r).a.2).drop (rP r).b.2).drop (rP r).c.2) = (rP r).d ∧ txtQ (fnm.getD 4 []) ((((r.drop (rP r).a.2).drop (rP r).b.2).drop (rP r).c.2).drop (rP r).d.2) = (rP r).e ∧ txtQ (fnm.getD 5 []) (((((r.drop (rP r).a.2).drop (rP r).b.2).drop (rP r).c.2).drop (rP r).d.2).drop (rP r).e.2) = (rP r).f ∧ numQ (fnm.getD 6 []) ((((((r.drop (rP r).a.2).drop (rP r).b.2).drop (rP r).c.2).drop (rP r).d.2).drop (rP r).e.2).drop (rP r).f.2) = (rP r).g ∧ numQ (fnm.getD 7 []) (((((((r.drop (rP r).a.2).drop (rP r).b.2).drop (rP r).c.2).drop (rP r).d.2).drop (rP r).e.2).drop (rP r).f.2).drop (rP r).g.2) = (rP r).i ∧ numQ (fnm.getD 8 []) ((((((((r.drop (rP r).a.2).drop (rP r).b.2).drop (rP r).c.2).drop (rP r).d.2).drop (rP r).e.2).drop (rP r).f.2).drop (rP r).g.2).drop (rP r).i.2) = (rP r).j ∧ ((((((((r.drop (rP r).a.2).drop (rP r).b.2).drop (rP r).c.2).drop (rP r).d.2).drop (rP r).e.2).drop (rP r).f.2).drop (rP r).g.2).drop (rP r).i.2).drop (rP r).j.2 = (rP r).z := rPg_chain numQ txtQ r
def rO (s : List UInt8) (k : Nat) : Ov :=
 let p := rP (s.drop (nm k).length)
 ⟨k, [.n p.a.1, .n p.b.1, .n p.c.1, .t p.d.1, .t p.e.1, .t p.f.1, .n p.g.1, .n p.i.1, .n p.j.1], keepG p.z⟩
def rF (s : List UInt8) : Ov × Int := if kdR s = 17 then (zOv, 13) else if showO (rO s (kdR s)) ≠ s then (zOv, 13) else (rO s (kdR s), 0)
def inI (x : Int) : Prop := -9223372036854775808 ≤ x ∧ x ≤ 9223372036854775807
theorem rP_ok (r : List UInt8) : inI (rP r).a.1 ∧ inI (rP r).b.1 ∧ inI (rP r).c.1 ∧ (rP r).d.1.length ≤ r.length ∧ (rP r).e.1.length ≤ r.length ∧ (rP r).f.1.length ≤ r.length ∧ inI (rP r).g.1 ∧ inI (rP r).i.1 ∧ inI (rP r).j.1 ∧ (rP r).z.length ≤ r.length := by
 have T : ∀ nme q, q.length ≤ r.length → (txtQ nme q).1.length ≤ r.length := fun nme q hq => Nat.le_trans (txtQ_len _ _) hq
 have D : ∀ (q : List UInt8) n, q.length ≤ r.length → (q.drop n).length ≤ r.length := fun q n hq => by rw [List.length_drop]; omega
 have I := fun nme q => numQ_in nme q
 unfold rP rPg inI
 generalize hN : numQ = N at *
 generalize hX : txtQ = X at *
 dsimp only
 refine ⟨I _ _, I _ _, I _ _, T _ _ ?_, T _ _ ?_, T _ _ ?_, I _ _, I _ _, I _ _, ?_⟩ <;> (repeat' refine D _ _ ?_) <;> exact Nat.le_refl _
theorem rO_ok {m : Nat} {s : List UInt8} (h : s.length ≤ m) {k : Nat} (hk : k ≤ 17) : OvOk m (rO s k) := by
 have hl : (s.drop (nm k).length).length ≤ m := by rw [List.length_drop]; omega
 unfold rO
 obtain ⟨h1, h2, h3, h4, h5, h6, h7, h8, h9, hz⟩ := rP_ok (s.drop (nm k).length)
 generalize rP (s.drop (nm k).length) = p at *
 have hg := keepG_ok p.z.length p.z (Nat.le_refl _)
 dsimp only
 generalize keepG p.z = G at *
 refine ⟨by dsimp only; omega, by dsimp only; omega, rfl, ?_, ?_, ?_⟩
 ·intro i f hf
  dsimp only at hf
  match i, hf with
  | 0, hf => cases hf; exact ⟨rfl, h1⟩
  | 1, hf => cases hf; exact ⟨rfl, h2⟩
  | 2, hf => cases hf; exact ⟨rfl, h3⟩
  | 3, hf => cases hf; exact ⟨rfl, Nat.le_trans h4 hl⟩
  | 4, hf => cases hf; exact ⟨rfl, Nat.le_trans h5 hl⟩
  | 5, hf => cases hf; exact ⟨rfl, Nat.le_trans h6 hl⟩
  | 6, hf => cases hf; exact ⟨rfl, h7⟩
  | 7, hf => cases hf; exact ⟨rfl, h8⟩
  | 8, hf => cases hf; exact ⟨rfl, h9⟩
  | n + 9, hf => cases hf
 ·intro x hx
  have := hg.1 x hx; omega
 ·have := hg.2; dsimp only; omega
theorem has11 {b l : Nat} {x : List DV} {o : Ob} {B : List (Nat × List DV)} {A : List (Nat × Ob)} : Has ⟨[(b, x)], [(l, o)]⟩ ⟨(b, x) :: B, (l, o) :: A⟩ := by
 constructor
 ·intro c y hc
  simp only [lk] at hc ⊢
  split at hc
  ·rw [if_pos (by assumption)]; exact hc
  ·cases hc
 ·intro c y hc
  simp only [lk] at hc ⊢
  split at hc
  ·rw [if_pos (by assumption)]; exact hc
  ·cases hc
theorem ordS {P : Program} {w0 : W0} (S0 : St) (gs ns ord : List Nat) {id : Nat} {l : List Oper} {fr : List DV} {S : St} {Q : Exit → List DV → St → Prop} (hm : P.follows .mixedOrders = true) (hB : Y.okO l gs ns ord = true) (h : Y.vcLO P w0 S0 gs ns l.toArray (fun fr S => normF fr fun fr => Q .normal fr S) ord fr S) : AWp P w0 (.region id l.toArray true) fr S Q := by
 simp only [Y.okO, Bool.and_eq_true, beq_iff_eq] at hB
 refine Y.awp_drawO hm hB.1.2 hB.2 (Y.vcLO_sound (fun i o ho => ?_) ord h)
 have : l[i]? = some o := by simpa using ho
 exact List.all_eq_true.1 hB.1.1 o (List.mem_of_getElem? this)
theorem parseR (w0 : W0) (hu : KU w0) (s : ByteArray) (hs : s.size ≤ 1048576) (S : St) :
  ACall Tryz.prog w0 18 [dS s] S (fun d S' => d = .tup [.agg ((rF s.data.toList).1.ds (.sl 1 false (keepD (rF s.data.toList).1.keep))), dI (rF s.data.toList).2] ∧ S' = S) := by
 have hL := size_list s
 have hkl := kdR_le s.data.toList
 have hat := @kdR_at s.data.toList
 have hlt := @kdR_lt s.data.toList
 have hok := fun k hk => rO_ok (m := 1048576) (s := s.data.toList) (by rw [hL]; exact hs) (k := k) hk
 unfold rF
 generalize kdR s.data.toList = K at *
 refine fnS [23] mx Tryz.func18 rfl rfl (by kernel_rfl) ?_; simp (maxDischargeDepth := 12) (maxSteps := 1000000) -implicitDefEqProofs only [Tryz.ntmps18, go_sem, Nat.reduceAdd, Nat.reduceSub, Nat.reduceMul, Nat.reduceLeDiff, Nat.reduceEqDiff, Nat.reduceGT, Nat.reduceBEq, reduceCtorEq, ↓reduceIte, Int.reduceToNat, Int.reduceLE, Int.reduceLT, Int.reduceNe, Int.reduceEq]
 intro b2 bp bo
 refine loopN [] (if K < 17 then K + 1 else 17) [0, 2, 4, 5, 6] (fun k => [(6, dI k)]) (fun k => ⟨(bo.n, [dI (if k ≤ K then -1 else K), dI 0, dI 0, dI 0, dS ByteArray.empty, dS ByteArray.empty, dS ByteArray.empty, dI 0, dI 0, dI 0, .sl 0 true []]) :: (bp.n, [dS s, dI ((if k ≤ K then 0 else (nm K).length : Nat))]) :: (b2.n, [dI 0, dI 0, dI 0, dI 0, dS ByteArray.empty, dS ByteArray.empty, dS ByteArray.empty, dI 0, dI 0, dI 0, .sl 0 true []]) :: S.box, S.acc⟩) (fun _ => True) mx (by kernel_rfl) ?_ ?_
 ·rw [if_pos (Nat.zero_le _), if_pos (Nat.zero_le _)]
  simp (maxDischargeDepth := 12) (maxSteps := 1000000) -implicitDefEqProofs only [go_sem, Nat.reduceAdd, Nat.reduceSub, Nat.reduceMul, Nat.reduceLeDiff, Nat.reduceEqDiff, Nat.reduceGT, Nat.reduceBEq, reduceCtorEq, ↓reduceIte, Int.reduceToNat, Int.reduceLE, Int.reduceLT, Int.reduceNe, Int.reduceEq]
 ·intro k hk _
  have e1 : IntKind.i64.wrap ((k : Int) + 1) = ((k + 1 : Nat) : Int) := by rw [w64 (by split at hk <;> omega) (by split at hk <;> omega)]; omega
  rcases (show (k ≤ K ∧ k < 17) ∨ (k = K + 1 ∧ K < 17) ∨ (k = 17 ∧ K = 17) by split at hk <;> omega) with ⟨hkK, hk17⟩ | ⟨rfl, hK17⟩ | ⟨rfl, rfl⟩
  ·have hnl := nm_len (k : Int)
   rw [if_pos hkK, if_pos hkK]
   simp (maxDischargeDepth := 12) (maxSteps := 1000000) -implicitDefEqProofs only [go_sem, Nat.reduceAdd, Nat.reduceSub, Nat.reduceMul, Nat.reduceLeDiff, Nat.reduceEqDiff, Nat.reduceGT, Nat.reduceBEq, reduceCtorEq, ↓reduceIte, Int.reduceToNat, Int.reduceLE, Int.reduceLT, Int.reduceNe, Int.reduceEq, e1]
   refine ⟨fun _ => ?_, fun hh => absurd (by omega) hh⟩
   refine use1 (nameR w0 k _) ?_
   simp (maxDischargeDepth := 12) (maxSteps := 1000000) -implicitDefEqProofs only [go_sem, Nat.reduceAdd, Nat.reduceSub, Nat.reduceMul, Nat.reduceLeDiff, Nat.reduceEqDiff, Nat.reduceGT, Nat.reduceBEq, reduceCtorEq, ↓reduceIte, Int.reduceToNat, Int.reduceLE, Int.reduceLT, Int.reduceNe, Int.reduceEq, e1, tx_size]
   have hno : matchK s.data.toList k = false → k + 1 ≤ K := by
    intro h
    rcases Nat.lt_or_ge k K with h1 | h1
    ·exact h1
    ·obtain rfl : k = K := by omega
     rw [hat hk17] at h; cases h
   have hyes : matchK s.data.toList k = true → k = K := by
    intro h
    rcases Nat.lt_or_ge k K with h1 | h1
    ·rw [hlt h1] at h; cases h
    ·omega
   have hex : (s.extract 0 (nm k).length).data.toList = s.data.toList.take (nm k).length := by rw [list_ext]; simp
   refine ⟨fun hle => ⟨hle, ?_⟩, fun hle => ?_⟩
   ·refine useQ (nameR w0 k _) ?_
    simp (maxDischargeDepth := 12) (maxSteps := 1000000) -implicitDefEqProofs only [go_sem, Nat.reduceAdd, Nat.reduceSub, Nat.reduceMul, Nat.reduceLeDiff, Nat.reduceEqDiff, Nat.reduceGT, Nat.reduceBEq, reduceCtorEq, ↓reduceIte, Int.reduceToNat, Int.reduceLE, Int.reduceLT, Int.reduceNe, Int.reduceEq, e1, tx_size, tx_list, hex]
    refine ⟨fun h1 => ⟨fun h2 => ?y1, fun h2 => ⟨by omega, fun c hc => ⟨fun h3 => ?y2, fun h3 => ?n1⟩⟩⟩, fun h1 => ?n2⟩
    case y1 | y2 =>
     obtain rfl : k = K := hyes (by
      unfold matchK
      rw [decide_eq_true h1]
      first
       | (rw [decide_eq_true (show s.data.toList.length = (nm k).length by rw [hL]; exact h2)]; rfl)
       | (rw [decide_eq_true (show s.data.toList[(nm k).length]? = some 32 by rw [hc, UInt8.toNat_inj.1 (show c.toNat = (32 : UInt8).toNat by have : (32 : UInt8).toNat = 32 := rfl; omega)]), Bool.or_true]; rfl))
     rw [if_neg (show ¬ k + 1 ≤ k by omega), if_neg (show ¬ k + 1 ≤ k by omega)]
     exact ⟨by rw [if_pos hk17]; omega, .refl _⟩
    case n1 | n2 =>
     have h := hno (by
      unfold matchK
      first
       | (rw [decide_eq_false h1]; rfl)
       | (rw [decide_eq_false (show ¬ s.data.toList.length = (nm k).length by rw [hL]; exact h2), decide_eq_false (show ¬ s.data.toList[(nm k).length]? = some 32 by rw [hc]; intro e; cases e; exact h3 rfl), Bool.or_false, Bool.and_false]))
     rw [if_pos h, if_pos h]
     exact ⟨by split <;> omega, .refl _⟩
   ·have h := hno (by
     unfold matchK
     rw [decide_eq_false (fun e => by have := congrArg List.length e; rw [List.length_take] at this; omega)]; rfl)
    rw [if_pos h, if_pos h]
    exact ⟨by split <;> omega, .refl _⟩
  ·rw [if_neg (show ¬ K + 1 ≤ K by omega), if_neg (show ¬ K + 1 ≤ K by omega), if_neg (show ¬ K = 17 by omega)]
   have hm := hat hK17
   have hi0 : (nm K).length ≤ s.size := by
    unfold matchK at hm
    have h1 := congrArg List.length (of_decide_eq_true (Bool.and_eq_true_iff.1 hm).1)
    rw [List.length_take] at h1; omega
   have hok := hok K (by omega)
   have hrO : rO s.data.toList K = ⟨K, [.n (rP (s.data.toList.drop (nm K).length)).a.1, .n (rP (s.data.toList.drop (nm K).length)).b.1, .n (rP (s.data.toList.drop (nm K).length)).c.1, .t (rP (s.data.toList.drop (nm K).length)).d.1, .t (rP (s.data.toList.drop (nm K).length)).e.1, .t (rP (s.data.toList.drop (nm K).length)).f.1, .n (rP (s.data.toList.drop (nm K).length)).g.1, .n (rP (s.data.toList.drop (nm K).length)).i.1, .n (rP (s.data.toList.drop (nm K).length)).j.1], keepG (rP (s.data.toList.drop (nm K).length)).z⟩ := rfl
   rw [hrO] at hok ⊢
   generalize hi : (nm K).length = i0 at *
   have hch := rP_chain (s.data.toList.drop i0)
   generalize rP (s.data.toList.drop i0) = p at *
   simp only [List.drop_drop] at hch
   obtain ⟨q0, q1, q2, q3, q4, q5, q6, q7, q8, hz⟩ := hch
   have k0 : ∀ S, lk S.box bp.n = some [dS s, dI ((i0 : Nat))] → ACall Tryz.prog w0 44 [pt bp.n 0, dS ⟨#[108, 101, 118, 101, 108]⟩] S (fun d S' => d = dI p.a.1 ∧ S' = ⟨Aml.up S.box bp.n [dS s, dI ((i0 + p.a.2 : Nat))], S.acc⟩) := by
    intro S hb
    have := numberQ w0 (s := s) (nme := [108, 101, 118, 101, 108]) (i := i0) (b := bp.n) (S := S) hs (by decide) (by omega) hb
    rw [show ([108, 101, 118, 101, 108] : List UInt8) = fnm.getD 0 [] from rfl, q0] at this
    exact this
   have l0 : i0 + p.a.2 ≤ s.size := by
    have := numQ_le (fnm.getD 0 []) (s.data.toList.drop (i0))
    rw [q0, List.length_drop] at this; omega
   have k1 : ∀ S, lk S.box bp.n = some [dS s, dI ((i0 + p.a.2 : Nat))] → ACall Tryz.prog w0 44 [pt bp.n 0, dS ⟨#[115, 101, 115, 115, 105, 111, 110]⟩] S (fun d S' => d = dI p.b.1 ∧ S' = ⟨Aml.up S.box bp.n [dS s, dI ((i0 + p.a.2 + p.b.2 : Nat))], S.acc⟩) := by
    intro S hb
    have := numberQ w0 (s := s) (nme := [115, 101, 115, 115, 105, 111, 110]) (i := i0 + p.a.2) (b := bp.n) (S := S) hs (by decide) (by omega) hb
    rw [show ([115, 101, 115, 115, 105, 111, 110] : List UInt8) = fnm.getD 1 [] from rfl, q1] at this
    exact this
   have l1 : i0 + p.a.2 + p.b.2 ≤ s.size := by
    have := numQ_le (fnm.getD 1 []) (s.data.toList.drop (i0 + p.a.2))
    rw [q1, List.length_drop] at this; omega
   have k2 : ∀ S, lk S.box bp.n = some [dS s, dI ((i0 + p.a.2 + p.b.2 : Nat))] → ACall Tryz.prog w0 44 [pt bp.n 0, dS ⟨#[115, 110, 97, 112]⟩] S (fun d S' => d = dI p.c.1 ∧ S' = ⟨Aml.up S.box bp.n [dS s, dI ((i0 + p.a.2 + p.b.2 + p.c.2 : Nat))], S.acc⟩) := by
    intro S hb
    have := numberQ w0 (s := s) (nme := [115, 110, 97, 112]) (i := i0 + p.a.2 + p.b.2) (b := bp.n) (S := S) hs (by decide) (by omega) hb
    rw [show ([115, 110, 97, 112] : List UInt8) = fnm.getD 2 [] from rfl, q2] at this
    exact this
   have l2 : i0 + p.a.2 + p.b.2 + p.c.2 ≤ s.size := by
    have := numQ_le (fnm.getD 2 []) (s.data.toList.drop (i0 + p.a.2 + p.b.2))
    rw [q2, List.length_drop] at this; omega
   have k3 : ∀ S, lk S.box bp.n = some [dS s, dI ((i0 + p.a.2 + p.b.2 + p.c.2 : Nat))] → ACall Tryz.prog w0 45 [pt bp.n 0, dS ⟨#[98, 117, 99, 107, 101, 116]⟩] S (fun d S' => d = dS (tx p.d.1) ∧ S' = ⟨Aml.up S.box bp.n [dS s, dI ((i0 + p.a.2 + p.b.2 + p.c.2 + p.d.2 : Nat))], S.acc⟩) := by
    intro S hb
    have := textQ w0 (s := s) (nme := [98, 117, 99, 107, 101, 116]) (i := i0 + p.a.2 + p.b.2 + p.c.2) (b := bp.n) (S := S) hs (by decide) (by omega) hb
    rw [show ([98, 117, 99, 107, 101, 116] : List UInt8) = fnm.getD 3 [] from rfl, q3] at this
    exact this
   have l3 : i0 + p.a.2 + p.b.2 + p.c.2 + p.d.2 ≤ s.size := by
    have := txtQ_le (fnm.getD 3 []) (s.data.toList.drop (i0 + p.a.2 + p.b.2 + p.c.2))
    rw [q3, List.length_drop] at this; omega
   have k4 : ∀ S, lk S.box bp.n = some [dS s, dI ((i0 + p.a.2 + p.b.2 + p.c.2 + p.d.2 : Nat))] → ACall Tryz.prog w0 45 [pt bp.n 0, dS ⟨#[107, 101, 121]⟩] S (fun d S' => d = dS (tx p.e.1) ∧ S' = ⟨Aml.up S.box bp.n [dS s, dI ((i0 + p.a.2 + p.b.2 + p.c.2 + p.d.2 + p.e.2 : Nat))], S.acc⟩) := by
    intro S hb
    have := textQ w0 (s := s) (nme := [107, 101, 121]) (i := i0 + p.a.2 + p.b.2 + p.c.2 + p.d.2) (b := bp.n) (S := S) hs (by decide) (by omega) hb
    rw [show ([107, 101, 121] : List UInt8) = fnm.getD 4 [] from rfl, q4] at this
    exact this
   have l4 : i0 + p.a.2 + p.b.2 + p.c.2 + p.d.2 + p.e.2 ≤ s.size := by
    have := txtQ_le (fnm.getD 4 []) (s.data.toList.drop (i0 + p.a.2 + p.b.2 + p.c.2 + p.d.2))
    rw [q4, List.length_drop] at this; omega
   have k5 : ∀ S, lk S.box bp.n = some [dS s, dI ((i0 + p.a.2 + p.b.2 + p.c.2 + p.d.2 + p.e.2 : Nat))] → ACall Tryz.prog w0 45 [pt bp.n 0, dS ⟨#[118, 97, 108, 117, 101]⟩] S (fun d S' => d = dS (tx p.f.1) ∧ S' = ⟨Aml.up S.box bp.n [dS s, dI ((i0 + p.a.2 + p.b.2 + p.c.2 + p.d.2 + p.e.2 + p.f.2 : Nat))], S.acc⟩) := by
    intro S hb
    have := textQ w0 (s := s) (nme := [118, 97, 108, 117, 101]) (i := i0 + p.a.2 + p.b.2 + p.c.2 + p.d.2 + p.e.2) (b := bp.n) (S := S) hs (by decide) (by omega) hb
    rw [show ([118, 97, 108, 117, 101] : List UInt8) = fnm.getD 5 [] from rfl, q5] at this
    exact this
   have l5 : i0 + p.a.2 + p.b.2 + p.c.2 + p.d.2 + p.e.2 + p.f.2 ≤ s.size := by
    have := txtQ_le (fnm.getD 5 []) (s.data.toList.drop (i0 + p.a.2 + p.b.2 + p.c.2 + p.d.2 + p.e.2))
    rw [q5, List.length_drop] at this; omega
   have k6 : ∀ S, lk S.box bp.n = some [dS s, dI ((i0 + p.a.2 + p.b.2 + p.c.2 + p.d.2 + p.e.2 + p.f.2 : Nat))] → ACall Tryz.prog w0 44 [pt bp.n 0, dS ⟨#[108, 97, 98, 101, 108]⟩] S (fun d S' => d = dI p.g.1 ∧ S' = ⟨Aml.up S.box bp.n [dS s, dI ((i0 + p.a.2 + p.b.2 + p.c.2 + p.d.2 + p.e.2 + p.f.2 + p.g.2 : Nat))], S.acc⟩) := by
    intro S hb
    have := numberQ w0 (s := s) (nme := [108, 97, 98, 101, 108]) (i := i0 + p.a.2 + p.b.2 + p.c.2 + p.d.2 + p.e.2 + p.f.2) (b := bp.n) (S := S) hs (by decide) (by omega) hb
    rw [show ([108, 97, 98, 101, 108] : List UInt8) = fnm.getD 6 [] from rfl, q6] at this
    exact this
   have l6 : i0 + p.a.2 + p.b.2 + p.c.2 + p.d.2 + p.e.2 + p.f.2 + p.g.2 ≤ s.size := by
    have := numQ_le (fnm.getD 6 []) (s.data.toList.drop (i0 + p.a.2 + p.b.2 + p.c.2 + p.d.2 + p.e.2 + p.f.2))
    rw [q6, List.length_drop] at this; omega
   have k7 : ∀ S, lk S.box bp.n = some [dS s, dI ((i0 + p.a.2 + p.b.2 + p.c.2 + p.d.2 + p.e.2 + p.f.2 + p.g.2 : Nat))] → ACall Tryz.prog w0 44 [pt bp.n 0, dS ⟨#[116, 111]⟩] S (fun d S' => d = dI p.i.1 ∧ S' = ⟨Aml.up S.box bp.n [dS s, dI ((i0 + p.a.2 + p.b.2 + p.c.2 + p.d.2 + p.e.2 + p.f.2 + p.g.2 + p.i.2 : Nat))], S.acc⟩) := by
    intro S hb
    have := numberQ w0 (s := s) (nme := [116, 111]) (i := i0 + p.a.2 + p.b.2 + p.c.2 + p.d.2 + p.e.2 + p.f.2 + p.g.2) (b := bp.n) (S := S) hs (by decide) (by omega) hb
    rw [show ([116, 111] : List UInt8) = fnm.getD 7 [] from rfl, q7] at this
    exact this
   have l7 : i0 + p.a.2 + p.b.2 + p.c.2 + p.d.2 + p.e.2 + p.f.2 + p.g.2 + p.i.2 ≤ s.size := by
    have := numQ_le (fnm.getD 7 []) (s.data.toList.drop (i0 + p.a.2 + p.b.2 + p.c.2 + p.d.2 + p.e.2 + p.f.2 + p.g.2))
    rw [q7, List.length_drop] at this; omega
   have k8 : ∀ S, lk S.box bp.n = some [dS s, dI ((i0 + p.a.2 + p.b.2 + p.c.2 + p.d.2 + p.e.2 + p.f.2 + p.g.2 + p.i.2 : Nat))] → ACall Tryz.prog w0 44 [pt bp.n 0, dS ⟨#[110]⟩] S (fun d S' => d = dI p.j.1 ∧ S' = ⟨Aml.up S.box bp.n [dS s, dI ((i0 + p.a.2 + p.b.2 + p.c.2 + p.d.2 + p.e.2 + p.f.2 + p.g.2 + p.i.2 + p.j.2 : Nat))], S.acc⟩) := by
    intro S hb
    have := numberQ w0 (s := s) (nme := [110]) (i := i0 + p.a.2 + p.b.2 + p.c.2 + p.d.2 + p.e.2 + p.f.2 + p.g.2 + p.i.2) (b := bp.n) (S := S) hs (by decide) (by omega) hb
    rw [show ([110] : List UInt8) = fnm.getD 8 [] from rfl, q8] at this
    exact this
   have l8 : i0 + p.a.2 + p.b.2 + p.c.2 + p.d.2 + p.e.2 + p.f.2 + p.g.2 + p.i.2 + p.j.2 ≤ s.size := by
    have := numQ_le (fnm.getD 8 []) (s.data.toList.drop (i0 + p.a.2 + p.b.2 + p.c.2 + p.d.2 + p.e.2 + p.f.2 + p.g.2 + p.i.2))
    rw [q8, List.length_drop] at this; omega
   simp (maxDischargeDepth := 12) (maxSteps := 1000000) -implicitDefEqProofs only [go_sem, Nat.reduceAdd, Nat.reduceSub, Nat.reduceMul, Nat.reduceLeDiff, Nat.reduceEqDiff, Nat.reduceGT, Nat.reduceBEq, reduceCtorEq, ↓reduceIte, Int.reduceToNat, Int.reduceLE, Int.reduceLT, Int.reduceNe, Int.reduceEq, e1]
   refine ⟨fun _ => ⟨fun h => absurd h (by omega), fun _ => ⟨fun h => absurd h (by omega), fun _ => ?g1⟩⟩, fun _ => ⟨fun h => absurd h (by omega), fun _ => ?g2⟩⟩
   all_goals
    refine useK (k0 _ (by simp (maxDischargeDepth := 12) (maxSteps := 1000000) -implicitDefEqProofs only [go_sem, Nat.reduceAdd, Nat.reduceSub, Nat.reduceMul, Nat.reduceLeDiff, Nat.reduceEqDiff, Nat.reduceGT, Nat.reduceBEq, reduceCtorEq, ↓reduceIte, Int.reduceToNat, Int.reduceLE, Int.reduceLT, Int.reduceNe, Int.reduceEq])) ?_
    rintro d S' ⟨rfl, rfl⟩
    simp (maxDischargeDepth := 12) (maxSteps := 1000000) -implicitDefEqProofs only [go_sem, Nat.reduceAdd, Nat.reduceSub, Nat.reduceMul, Nat.reduceLeDiff, Nat.reduceEqDiff, Nat.reduceGT, Nat.reduceBEq, reduceCtorEq, ↓reduceIte, Int.reduceToNat, Int.reduceLE, Int.reduceLT, Int.reduceNe, Int.reduceEq]
    refine useK (k1 _ (by simp (maxDischargeDepth := 12) (maxSteps := 1000000) -implicitDefEqProofs only [go_sem, Nat.reduceAdd, Nat.reduceSub, Nat.reduceMul, Nat.reduceLeDiff, Nat.reduceEqDiff, Nat.reduceGT, Nat.reduceBEq, reduceCtorEq, ↓reduceIte, Int.reduceToNat, Int.reduceLE, Int.reduceLT, Int.reduceNe, Int.reduceEq])) ?_
    rintro d S' ⟨rfl, rfl⟩
    simp (maxDischargeDepth := 12) (maxSteps := 1000000) -implicitDefEqProofs only [go_sem, Nat.reduceAdd, Nat.reduceSub, Nat.reduceMul, Nat.reduceLeDiff, Nat.reduceEqDiff, Nat.reduceGT, Nat.reduceBEq, reduceCtorEq, ↓reduceIte, Int.reduceToNat, Int.reduceLE, Int.reduceLT, Int.reduceNe, Int.reduceEq]
    refine useK (k2 _ (by simp (maxDischargeDepth := 12) (maxSteps := 1000000) -implicitDefEqProofs only [go_sem, Nat.reduceAdd, Nat.reduceSub, Nat.reduceMul, Nat.reduceLeDiff, Nat.reduceEqDiff, Nat.reduceGT, Nat.reduceBEq, reduceCtorEq, ↓reduceIte, Int.reduceToNat, Int.reduceLE, Int.reduceLT, Int.reduceNe, Int.reduceEq])) ?_
    rintro d S' ⟨rfl, rfl⟩
    simp (maxDischargeDepth := 12) (maxSteps := 1000000) -implicitDefEqProofs only [go_sem, Nat.reduceAdd, Nat.reduceSub, Nat.reduceMul, Nat.reduceLeDiff, Nat.reduceEqDiff, Nat.reduceGT, Nat.reduceBEq, reduceCtorEq, ↓reduceIte, Int.reduceToNat, Int.reduceLE, Int.reduceLT, Int.reduceNe, Int.reduceEq]
    refine useK (k3 _ (by simp (maxDischargeDepth := 12) (maxSteps := 1000000) -implicitDefEqProofs only [go_sem, Nat.reduceAdd, Nat.reduceSub, Nat.reduceMul, Nat.reduceLeDiff, Nat.reduceEqDiff, Nat.reduceGT, Nat.reduceBEq, reduceCtorEq, ↓reduceIte, Int.reduceToNat, Int.reduceLE, Int.reduceLT, Int.reduceNe, Int.reduceEq])) ?_
    rintro d S' ⟨rfl, rfl⟩
    simp (maxDischargeDepth := 12) (maxSteps := 1000000) -implicitDefEqProofs only [go_sem, Nat.reduceAdd, Nat.reduceSub, Nat.reduceMul, Nat.reduceLeDiff, Nat.reduceEqDiff, Nat.reduceGT, Nat.reduceBEq, reduceCtorEq, ↓reduceIte, Int.reduceToNat, Int.reduceLE, Int.reduceLT, Int.reduceNe, Int.reduceEq]
    refine useK (k4 _ (by simp (maxDischargeDepth := 12) (maxSteps := 1000000) -implicitDefEqProofs only [go_sem, Nat.reduceAdd, Nat.reduceSub, Nat.reduceMul, Nat.reduceLeDiff, Nat.reduceEqDiff, Nat.reduceGT, Nat.reduceBEq, reduceCtorEq, ↓reduceIte, Int.reduceToNat, Int.reduceLE, Int.reduceLT, Int.reduceNe, Int.reduceEq])) ?_
    rintro d S' ⟨rfl, rfl⟩
    simp (maxDischargeDepth := 12) (maxSteps := 1000000) -implicitDefEqProofs only [go_sem, Nat.reduceAdd, Nat.reduceSub, Nat.reduceMul, Nat.reduceLeDiff, Nat.reduceEqDiff, Nat.reduceGT, Nat.reduceBEq, reduceCtorEq, ↓reduceIte, Int.reduceToNat, Int.reduceLE, Int.reduceLT, Int.reduceNe, Int.reduceEq]
    refine useK (k5 _ (by simp (maxDischargeDepth := 12) (maxSteps := 1000000) -implicitDefEqProofs only [go_sem, Nat.reduceAdd, Nat.reduceSub, Nat.reduceMul, Nat.reduceLeDiff, Nat.reduceEqDiff, Nat.reduceGT, Nat.reduceBEq, reduceCtorEq, ↓reduceIte, Int.reduceToNat, Int.reduceLE, Int.reduceLT, Int.reduceNe, Int.reduceEq])) ?_
    rintro d S' ⟨rfl, rfl⟩
    simp (maxDischargeDepth := 12) (maxSteps := 1000000) -implicitDefEqProofs only [go_sem, Nat.reduceAdd, Nat.reduceSub, Nat.reduceMul, Nat.reduceLeDiff, Nat.reduceEqDiff, Nat.reduceGT, Nat.reduceBEq, reduceCtorEq, ↓reduceIte, Int.reduceToNat, Int.reduceLE, Int.reduceLT, Int.reduceNe, Int.reduceEq]
    refine useK (k6 _ (by simp (maxDischargeDepth := 12) (maxSteps := 1000000) -implicitDefEqProofs only [go_sem, Nat.reduceAdd, Nat.reduceSub, Nat.reduceMul, Nat.reduceLeDiff, Nat.reduceEqDiff, Nat.reduceGT, Nat.reduceBEq, reduceCtorEq, ↓reduceIte, Int.reduceToNat, Int.reduceLE, Int.reduceLT, Int.reduceNe, Int.reduceEq])) ?_
    rintro d S' ⟨rfl, rfl⟩
    simp (maxDischargeDepth := 12) (maxSteps := 1000000) -implicitDefEqProofs only [go_sem, Nat.reduceAdd, Nat.reduceSub, Nat.reduceMul, Nat.reduceLeDiff, Nat.reduceEqDiff, Nat.reduceGT, Nat.reduceBEq, reduceCtorEq, ↓reduceIte, Int.reduceToNat, Int.reduceLE, Int.reduceLT, Int.reduceNe, Int.reduceEq]
    refine useK (k7 _ (by simp (maxDischargeDepth := 12) (maxSteps := 1000000) -implicitDefEqProofs only [go_sem, Nat.reduceAdd, Nat.reduceSub, Nat.reduceMul, Nat.reduceLeDiff, Nat.reduceEqDiff, Nat.reduceGT, Nat.reduceBEq, reduceCtorEq, ↓reduceIte, Int.reduceToNat, Int.reduceLE, Int.reduceLT, Int.reduceNe, Int.reduceEq])) ?_
    rintro d S' ⟨rfl, rfl⟩
    simp (maxDischargeDepth := 12) (maxSteps := 1000000) -implicitDefEqProofs only [go_sem, Nat.reduceAdd, Nat.reduceSub, Nat.reduceMul, Nat.reduceLeDiff, Nat.reduceEqDiff, Nat.reduceGT, Nat.reduceBEq, reduceCtorEq, ↓reduceIte, Int.reduceToNat, Int.reduceLE, Int.reduceLT, Int.reduceNe, Int.reduceEq]
    refine useK (k8 _ (by simp (maxDischargeDepth := 12) (maxSteps := 1000000) -implicitDefEqProofs only [go_sem, Nat.reduceAdd, Nat.reduceSub, Nat.reduceMul, Nat.reduceLeDiff, Nat.reduceEqDiff, Nat.reduceGT, Nat.reduceBEq, reduceCtorEq, ↓reduceIte, Int.reduceToNat, Int.reduceLE, Int.reduceLT, Int.reduceNe, Int.reduceEq])) ?_
    rintro d S' ⟨rfl, rfl⟩
    simp (maxDischargeDepth := 12) (maxSteps := 1000000) -implicitDefEqProofs only [go_sem, Nat.reduceAdd, Nat.reduceSub, Nat.reduceMul, Nat.reduceLeDiff, Nat.reduceEqDiff, Nat.reduceGT, Nat.reduceBEq, reduceCtorEq, ↓reduceIte, Int.reduceToNat, Int.reduceLE, Int.reduceLT, Int.reduceNe, Int.reduceEq]
    clear k0 k1 k2 k3 k4 k5 k6 k7 k8 l0 l1 l2 l3 l4 l5 l6 l7 q0 q1 q2 q3 q4 q5 q6 q7 q8
    generalize i0 + p.a.2 + p.b.2 + p.c.2 + p.d.2 + p.e.2 + p.f.2 + p.g.2 + p.i.2 + p.j.2 = i9 at *
    refine awp_growB bo.n 10 1 (by omega) (ds := [dI K, dI p.a.1, dI p.b.1, dI p.c.1, dS (tx p.d.1), dS (tx p.e.1), dS (tx p.f.1), dI p.g.1, dI p.i.1, dI p.j.1, .sl 0 true []]) (by simp (maxDischargeDepth := 12) (maxSteps := 1000000) -implicitDefEqProofs only [go_sem, Nat.reduceAdd, Nat.reduceSub, Nat.reduceMul, Nat.reduceLeDiff, Nat.reduceEqDiff, Nat.reduceGT, Nat.reduceBEq, reduceCtorEq, ↓reduceIte, Int.reduceToNat, Int.reduceLE, Int.reduceLT, Int.reduceNe, Int.reduceEq]) rfl fun l => ?_
    refine loopK [22] [0, 2, 4, 5] (σ := Nat × List (List UInt8)) (fun _ => []) (fun q => ⟨(bo.n, [dI K, dI p.a.1, dI p.b.1, dI p.c.1, dS (tx p.d.1), dS (tx p.e.1), dS (tx p.f.1), dI p.g.1, dI p.i.1, dI p.j.1, .acc l.n q.2.length]) :: (bp.n, [dS s, dI ((q.1 : Nat))]) :: (b2.n, [dI 0, dI 0, dI 0, dI 0, dS ByteArray.empty, dS ByteArray.empty, dS ByteArray.empty, dI 0, dI 0, dI 0, .sl 0 true []]) :: S.box, (l.n, .arr 1 (keepD q.2)) :: S.acc⟩) (fun q => q.1 ≤ s.size ∧ q.2.length ≤ q.1 ∧ q.2 ++ keepG (s.data.toList.drop q.1) = keepG p.z) (fun q => s.size - q.1) (i9, []) mx (by kernel_rfl) ⟨⟨l8, Nat.zero_le _, by rw [hz]; rfl⟩, ?_⟩ fun q hq => ?_
    ·simp (maxDischargeDepth := 12) (maxSteps := 1000000) -implicitDefEqProofs only [go_sem, Nat.reduceAdd, Nat.reduceSub, Nat.reduceMul, Nat.reduceLeDiff, Nat.reduceEqDiff, Nat.reduceGT, Nat.reduceBEq, reduceCtorEq, ↓reduceIte, Int.reduceToNat, Int.reduceLE, Int.reduceLT, Int.reduceNe, Int.reduceEq]
     exact .refl _
    ·obtain ⟨i, W⟩ := q
     obtain ⟨p1, p2, p3⟩ := hq
     dsimp only at p1 p2 p3
     have h1 := fun S hb => startsR w0 (s := s) (t := ⟨#[32, 107, 101, 101, 112, 61]⟩) (i := i) (b := bp.n) (S := S) hs (by decide) p1 hb
     simp (maxDischargeDepth := 12) (maxSteps := 1000000) -implicitDefEqProofs only [go_sem, Nat.reduceAdd, Nat.reduceSub, Nat.reduceMul, Nat.reduceLeDiff, Nat.reduceEqDiff, Nat.reduceGT, Nat.reduceBEq, reduceCtorEq, ↓reduceIte, Int.reduceToNat, Int.reduceLE, Int.reduceLT, Int.reduceNe, Int.reduceEq]
     refine useK (h1 _ (by simp (maxDischargeDepth := 12) (maxSteps := 1000000) -implicitDefEqProofs only [go_sem, Nat.reduceAdd, Nat.reduceSub, Nat.reduceMul, Nat.reduceLeDiff, Nat.reduceEqDiff, Nat.reduceGT, Nat.reduceBEq, reduceCtorEq, ↓reduceIte, Int.reduceToNat, Int.reduceLE, Int.reduceLT, Int.reduceNe, Int.reduceEq])) ?_
     rintro d S' ⟨rfl, rfl⟩
     simp (maxDischargeDepth := 12) (maxSteps := 1000000) -implicitDefEqProofs only [go_sem, Nat.reduceAdd, Nat.reduceSub, Nat.reduceMul, Nat.reduceLeDiff, Nat.reduceEqDiff, Nat.reduceGT, Nat.reduceBEq, reduceCtorEq, ↓reduceIte, Int.reduceToNat, Int.reduceLE, Int.reduceLT, Int.reduceNe, Int.reduceEq]
     refine ⟨fun hst => ?_, fun hst => ?_⟩
     ·refine ordS ⟨[(bo.n, [dI K, dI p.a.1, dI p.b.1, dI p.c.1, dS (tx p.d.1), dS (tx p.e.1), dS (tx p.f.1), dI p.g.1, dI p.i.1, dI p.j.1, .acc l.n W.length])], [(l.n, .arr 1 (keepD W))]⟩ [3] [5, 7] [0, 2, 1, 3, 4, 5, 6, 7] mx (by kernel_rfl) ?_
      simp (maxDischargeDepth := 12) (maxSteps := 1000000) -implicitDefEqProofs only [go_sem, Nat.reduceAdd, Nat.reduceSub, Nat.reduceMul, Nat.reduceLeDiff, Nat.reduceEqDiff, Nat.reduceGT, Nat.reduceBEq, reduceCtorEq, ↓reduceIte, Int.reduceToNat, Int.reduceLE, Int.reduceLT, Int.reduceNe, Int.reduceEq]
      have hle := stB_len hst
      rw [List.length_drop, show ([32, 107, 101, 101, 112, 61] : List UInt8).length = 6 from rfl] at hle
      have hsn : stN [32, 107, 101, 101, 112, 61] (s.data.toList.drop i) = 6 := by unfold stN; rw [if_pos hst]; rfl
      rw [hsn]
      have hq := quotedR w0 (s := s) (i := i + 6) (b := bp.n) (S := ⟨(bo.n, [dI K, dI p.a.1, dI p.b.1, dI p.c.1, dS (tx p.d.1), dS (tx p.e.1), dS (tx p.f.1), dI p.g.1, dI p.i.1, dI p.j.1, .acc l.n W.length]) :: (bp.n, [dS s, dI ((i + 6 : Nat))]) :: (b2.n, [dI 0, dI 0, dI 0, dI 0, dS ByteArray.empty, dS ByteArray.empty, dS ByteArray.empty, dI 0, dI 0, dI 0, .sl 0 true []]) :: S.box, (l.n, .arr 1 (keepD W)) :: S.acc⟩) hs (by omega) (by simp (maxDischargeDepth := 12) (maxSteps := 1000000) -implicitDefEqProofs only [go_sem, Nat.reduceAdd, Nat.reduceSub, Nat.reduceMul, Nat.reduceLeDiff, Nat.reduceEqDiff, Nat.reduceGT, Nat.reduceBEq, reduceCtorEq, ↓reduceIte, Int.reduceToNat, Int.reduceLE, Int.reduceLT, Int.reduceNe, Int.reduceEq])
      refine ⟨has11, useK hq ?_⟩
      rintro d S' ⟨rfl, rfl⟩
      have hqn := quN_le (s.data.toList.drop (i + 6))
      rw [List.length_drop] at hqn
      have hkl := keepD_len W
      have hms : maxLen = 9223372036854775807 := rfl
      simp (maxDischargeDepth := 12) (maxSteps := 1000000) -implicitDefEqProofs only [go_sem, Nat.reduceAdd, Nat.reduceSub, Nat.reduceMul, Nat.reduceLeDiff, Nat.reduceEqDiff, Nat.reduceGT, Nat.reduceBEq, reduceCtorEq, ↓reduceIte, Int.reduceToNat, Int.reduceLE, Int.reduceLT, Int.reduceNe, Int.reduceEq, hkl]
      have hye := keepG_yes hst
      simp only [List.drop_drop] at hye
      refine ⟨has11, by omega, by omega, (i + 6 + quN (s.data.toList.drop (i + 6)), W ++ [quQ (s.data.toList.drop (i + 6))]), ⟨by dsimp only; omega, by dsimp only; rw [List.length_append, List.length_singleton]; omega, ?_⟩, by dsimp only; omega, ?_⟩
      ·dsimp only
       rw [List.append_assoc, List.singleton_append, ← hye]
       exact p3
      ·dsimp only
       rw [keepD_app, List.length_append]
       exact .refl _
     ·have hsn : stN [32, 107, 101, 101, 112, 61] (s.data.toList.drop i) = 0 := by unfold stN; rw [hst]; rfl
      rw [hsn]
      have hkg : keepG (s.data.toList.drop i) = [] := keepG_no hst
      rw [hkg, List.append_nil] at p3
      rw [← p3] at hok ⊢
      refine shrB (s := 1) bo.n 10 (ds := [dI K, dI p.a.1, dI p.b.1, dI p.c.1, dS (tx p.d.1), dS (tx p.e.1), dS (tx p.f.1), dI p.g.1, dI p.i.1, dI p.j.1, .acc l.n W.length]) (xs := keepD W) (by simp (maxDischargeDepth := 12) (maxSteps := 1000000) -implicitDefEqProofs only [go_sem, Nat.reduceAdd, Nat.reduceSub, Nat.reduceMul, Nat.reduceLeDiff, Nat.reduceEqDiff, Nat.reduceGT, Nat.reduceBEq, reduceCtorEq, ↓reduceIte, Int.reduceToNat, Int.reduceLE, Int.reduceLT, Int.reduceNe, Int.reduceEq]) (by rw [keepD_len]; rfl) (by simp (maxDischargeDepth := 12) (maxSteps := 1000000) -implicitDefEqProofs only [go_sem, Nat.reduceAdd, Nat.reduceSub, Nat.reduceMul, Nat.reduceLeDiff, Nat.reduceEqDiff, Nat.reduceGT, Nat.reduceBEq, reduceCtorEq, ↓reduceIte, Int.reduceToNat, Int.reduceLE, Int.reduceLT, Int.reduceNe, Int.reduceEq]) ?_
      have hsh := fun S => showR w0 hu hok false S
      have hds : (⟨K, [.n p.a.1, .n p.b.1, .n p.c.1, .t p.d.1, .t p.e.1, .t p.f.1, .n p.g.1, .n p.i.1, .n p.j.1], W⟩ : Ov).ds (.sl 1 false (keepD W)) = [dI K, dI p.a.1, dI p.b.1, dI p.c.1, dS (tx p.d.1), dS (tx p.e.1), dS (tx p.f.1), dI p.g.1, dI p.i.1, dI p.j.1, .sl 1 false (keepD W)] := rfl
      rw [hds] at hsh
      refine shrK [] [] mx (by kernel_rfl) ?_
      simp (maxDischargeDepth := 12) (maxSteps := 1000000) -implicitDefEqProofs only [go_sem, Nat.reduceAdd, Nat.reduceSub, Nat.reduceMul, Nat.reduceLeDiff, Nat.reduceEqDiff, Nat.reduceGT, Nat.reduceBEq, reduceCtorEq, ↓reduceIte, Int.reduceToNat, Int.reduceLE, Int.reduceLT, Int.reduceNe, Int.reduceEq]
      refine use1 (hsh _) ?_
      simp (maxDischargeDepth := 12) (maxSteps := 1000000) -implicitDefEqProofs only [go_sem, Nat.reduceAdd, Nat.reduceSub, Nat.reduceMul, Nat.reduceLeDiff, Nat.reduceEqDiff, Nat.reduceGT, Nat.reduceBEq, reduceCtorEq, ↓reduceIte, Int.reduceToNat, Int.reduceLE, Int.reduceLT, Int.reduceNe, Int.reduceEq, tx_list]
      refine ⟨fun h => ?_, fun h => ?_⟩
      ·rw [if_neg fun g => g h]
       exact .refl _
      ·rw [if_pos h]
       exact wk_zero
  ·rw [if_pos (Nat.le_refl _), if_pos (Nat.le_refl _)]
   simp (maxDischargeDepth := 12) (maxSteps := 1000000) -implicitDefEqProofs only [go_sem, Nat.reduceAdd, Nat.reduceSub, Nat.reduceMul, Nat.reduceLeDiff, Nat.reduceEqDiff, Nat.reduceGT, Nat.reduceBEq, reduceCtorEq, ↓reduceIte, Int.reduceToNat, Int.reduceLE, Int.reduceLT, Int.reduceNe, Int.reduceEq, e1]
   exact wk_zero
def Whole (w : List UInt8) : Prop := ∀ cur t, wdS false cur (w ++ t) = wdS false (cur ++ w) t
theorem whole_plain {w : List UInt8} (h : ∀ x, x ∈ w → x ≠ 34 ∧ x ≠ 32) : Whole w := fun cur t => wdS_skip false w cur t fun x hx => ⟨(h x hx).1, .inl (h x hx).2⟩
theorem whole_app {a b : List UInt8} (ha : Whole a) (hb : Whole b) : Whole (a ++ b) := by
 intro cur t
 rw [List.append_assoc, ha, hb, List.append_assoc]
theorem whole_qt (l : List UInt8) : Whole (qt l) := by
 intro cur t
 have hn := qs_no l
 unfold qt
 rw [List.cons_append, wdS, if_pos rfl, List.append_assoc]
 show wdS true _ _ = _
 rw [wdS_skip true (qs l) _ _ fun x hx => ⟨hn x hx, .inr rfl⟩, List.cons_append, wdS, if_pos rfl]
 simp
theorem wds_flat (ws : List (List UInt8)) (h : ∀ w, w ∈ ws → Whole w) : ∀ cur, wdS false cur (flat32 ws) = cur :: ws := by
 induction ws with
 | nil => intro cur; rfl
 | cons w ws ih =>
  intro cur
  unfold flat32 at ih ⊢
  rw [List.flatMap_cons, List.cons_append, wdS, if_neg (by decide), if_pos ⟨rfl, rfl⟩, h w List.mem_cons_self, ih fun x hx => h x (List.mem_cons_of_mem _ hx)]; rfl
theorem itoa_all (n : Int) : ∀ c, c ∈ Lib.itoa n → c ≠ 34 ∧ c ≠ 32 ∧ c ≠ 61 := by
 intro c hc
 have key : ∀ u, c ∈ Lib.decDigits u → c ≠ 34 ∧ c ≠ 32 ∧ c ≠ 61 := by
  intro u h
  have h1 := dec_all u c h
  refine ⟨?_, ?_, ?_⟩ <;> (rintro rfl; revert h1; decide)
 unfold Lib.itoa at hc
 split at hc
 ·rcases List.mem_cons.1 hc with rfl | hc
  ·decide
  ·exact key _ hc
 ·exact key _ hc
theorem fnm_all : ∀ w, w ∈ fnm → ∀ c, c ∈ w → c ≠ 34 ∧ c ≠ 32 ∧ c ≠ 61 := by decide
theorem kpw_all : ∀ c, c ∈ kpw → c ≠ 34 ∧ c ≠ 32 ∧ c ≠ 61 := by decide
theorem nms_all : ∀ w, w ∈ nms → ∀ c, c ∈ w → c ≠ 34 ∧ c ≠ 32 ∧ c ≠ 61 := by decide
theorem nm_all (k : Int) : ∀ c, c ∈ nm k → c ≠ 34 ∧ c ≠ 32 ∧ c ≠ 61 := by
 unfold nm
 split
 ·rw [List.getD_eq_getElem?_getD]
  cases h : nms[k.toNat]? with
  | none => intro c hc; cases hc
  | some w => exact nms_all w (List.mem_of_getElem? h)
 ·intro c hc; cases hc
theorem whole_named {nme x : List UInt8} (hn : ∀ c, c ∈ nme → c ≠ 34 ∧ c ≠ 32 ∧ c ≠ 61) (hx : Whole x) : Whole (nme ++ 61 :: x) := by
 refine whole_app (whole_plain fun c hc => ⟨(hn c hc).1, (hn c hc).2.1⟩) (whole_app (a := [61]) (whole_plain ?_) hx)
 intro c hc
 obtain rfl := List.mem_singleton.1 hc
 decide
theorem whole_shown (f : Fl) : Whole f.shown := by
 cases f with
 | n x =>
  unfold Fl.shown; dsimp only
  split
  ·exact whole_plain fun c hc => by cases hc
  ·exact whole_plain fun c hc => ⟨(itoa_all x c hc).1, (itoa_all x c hc).2.1⟩
 | t l =>
  unfold Fl.shown; dsimp only
  split
  ·exact whole_plain fun c hc => by cases hc
  ·exact whole_qt l
theorem whole_ws (o : Ov) : ∀ w, w ∈ wsO o → Whole w := by
 intro w hw
 unfold wsO at hw
 rcases List.mem_append.1 hw with hw | hw
 ·unfold wsF at hw
  rw [List.mem_filterMap] at hw
  obtain ⟨p, hp, hpw⟩ := hw
  unfold wordF at hpw
  split at hpw
  ·cases hpw
  ·cases hpw
   exact whole_named (fnm_all _ (List.of_mem_zip hp).1) (whole_shown _)
 ·obtain ⟨k, hk, rfl⟩ := List.mem_map.1 hw
  exact whole_named kpw_all (whole_qt k)
theorem wds_show {o : Ov} (h : nm o.kind ≠ []) : wds (showO o) = nm o.kind :: wsO o := by
 unfold showO wds
 rw [if_neg h, whole_plain (fun c hc => ⟨(nm_all _ c hc).1, (nm_all _ c hc).2.1⟩), wds_flat _ (whole_ws o)]
 rfl
theorem index_named (x : List UInt8) : ∀ {nme : List UInt8}, (∀ c, c ∈ nme → c ≠ 61) → Lib.index (nme ++ 61 :: x) [61] = nme.length
 | [], _ => by simp [Lib.index]
 | c :: nme, h => by
  have h1 := h c List.mem_cons_self
  have h2 := index_named x fun d hd => h d (List.mem_cons_of_mem _ hd)
  rw [List.cons_append, Lib.index, h2]
  have h3 : ([61] : List UInt8).isPrefixOf (c :: (nme ++ 61 :: x)) = false := by
   simp [List.isPrefixOf]; exact fun e => h1 e.symm
  rw [h3]
  simp
theorem cut_named {nme x : List UInt8} (hn : ∀ c, c ∈ nme → c ≠ 34 ∧ c ≠ 32 ∧ c ≠ 61) : Lib.cut (nme ++ 61 :: x) [61] = (nme, x, true) := by
 unfold Lib.cut
 rw [index_named x fun c hc => (hn c hc).2.2, if_pos (by omega), Int.toNat_natCast, List.take_left]
 congr 1
 rw [← List.drop_drop, List.drop_left]; rfl
theorem nms_inj : ∀ i, i < 17 → ∀ j, j < 17 → nms.getD i [] = nms.getD j [] → i = j := by decide
theorem nm_inj {a b : Int} (ha : nm a ≠ []) (h : nm a = nm b) : a = b := by
 have hb : nm b ≠ [] := by rw [← h]; exact ha
 unfold nm at ha hb h
 split at ha
 ·split at hb
  ·rename_i h1 h2
   rw [if_pos h1, if_pos h2] at h
   have := nms_inj a.toNat (by omega) b.toNat (by omega) h
   omega
  ·exact absurd rfl hb
 ·exact absurd rfl ha
theorem nm_dom {a : Int} (ha : nm a ≠ []) : 0 ≤ a ∧ a < 17 := by
 unfold nm at ha
 split at ha
 ·assumption
 ·exact absurd rfl ha
theorem kdP_nm {a : Int} (ha : nm a ≠ []) : (kdP (nm a) : Int) = a := by
 have hd := nm_dom ha
 have hlt : kdP (nm a) < 17 := by
  rcases Nat.lt_or_ge (kdP (nm a)) 17 with h | h
  ·exact h
  ·exfalso
   have h1 := kdP_lt (w := nm a) (k := a.toNat) (by omega)
   rw [show ((a.toNat : Nat) : Int) = a by omega] at h1
   exact h1 rfl
 have h1 := kdP_at hlt
 exact (nm_inj ha h1.symm).symm
theorem fnm_inj : ∀ i, i < 9 → ∀ j, j < 9 → fnm.getD i [] = fnm.getD j [] → i = j := by decide
theorem fnm_kpw : ∀ i, i < 9 → fnm.getD i [] ≠ kpw := by decide
theorem fnm_mem {i : Nat} (h : i < 9) : fnm.getD i [] ∈ fnm := by
 have h2 : i < fnm.length := h
 rw [List.getD_eq_getElem?_getD, List.getElem?_eq_getElem h2]
 exact List.getElem_mem h2
theorem shown_no {m i : Nat} {f : Fl} (h : flOk m i f) (hs : f.shown = []) (hi : i < 9) : zfs[i]? = some f := by
 have key : ∀ j, j < 9 → zfs[j]? = some (if isT j then .t [] else .n 0) := by
  intro j hj
  match j, hj with
  | 0, _ | 1, _ | 2, _ | 3, _ | 4, _ | 5, _ | 6, _ | 7, _ | 8, _ => rfl
 rw [key i hi]
 cases f with
 | n x =>
  rw [h.1]
  unfold Fl.shown at hs; dsimp only at hs
  split at hs
  ·rename_i e; rw [e]; rfl
  ·exact absurd hs (itoa_ne x)
 | t l =>
  rw [h.1]
  unfold Fl.shown at hs; dsimp only at hs
  split at hs
  ·rename_i e; rw [e]; rfl
  ·exact absurd hs (qt_ne l)
theorem taken_shown {m i : Nat} {f g : Fl} (h : flOk m i f) (hg : flOk m i g) (hs : f.shown ≠ []) : g.taken f.shown = f := by
 cases f with
 | n x =>
  cases g with
  | n y =>
   unfold Fl.shown at hs ⊢; dsimp only at hs ⊢
   split at hs
   ·exact absurd rfl hs
   ·rw [if_neg (by assumption)]
    unfold Fl.taken
    rw [atV_itoa x h.2.1 h.2.2]
  | t l => have := h.1; rw [hg.1] at this; cases this
 | t l =>
  cases g with
  | n y => have := h.1; rw [hg.1] at this; cases this
  | t l2 =>
   unfold Fl.shown at hs ⊢; dsimp only at hs ⊢
   split at hs
   ·exact absurd rfl hs
   ·rw [if_neg (by assumption)]
    unfold Fl.taken
    rw [unP_qt]
theorem fold_fields {m : Nat} {o : Ov} (h : OvOk m o) (K : Int) : ∀ j, j ≤ 9 → (((fnm.zip o.fs).take j).filterMap wordF).foldl takeW ⟨K, zfs, []⟩ = ⟨K, o.fs.take j ++ zfs.drop j, []⟩ := by
 intro j
 induction j with
 | zero => intro _; simp
 | succ j ih =>
  intro hj
  have ih := ih (by omega)
  obtain ⟨f, hf1, hf2, hf3⟩ := zip_at h (show j < 9 by omega)
  have hzl : zfs.length = 9 := rfl
  rw [fm_step h (by omega) hf2, List.foldl_append, ih]
  have hdz : ∀ i, j < i → (o.fs.take (j + 1) ++ zfs.drop (j + 1))[i]? = zfs[i]? := by
   intro i hi
   rw [List.getElem?_append_right (by rw [List.length_take, h.len]; omega), List.length_take, h.len, List.getElem?_drop]
   congr 1; omega
  have hdz0 : ∀ i, j ≤ i → (o.fs.take j ++ zfs.drop j)[i]? = zfs[i]? := by
   intro i hi
   rw [List.getElem?_append_right (by rw [List.length_take, h.len]; omega), List.length_take, h.len, List.getElem?_drop]
   congr 1; omega
  have hlo : ∀ k i, i < k → k ≤ 9 → (o.fs.take k ++ zfs.drop k)[i]? = o.fs[i]? := by
   intro k i hi hk
   rw [List.getElem?_append_left (by rw [List.length_take, h.len]; omega), List.getElem?_take, if_pos hi]
  have hlen : ∀ k, k ≤ 9 → (o.fs.take k ++ zfs.drop k).length = 9 := by
   intro k hk
   rw [List.length_append, List.length_take, List.length_drop, h.len, hzl]; omega
  unfold wordF
  dsimp only
  by_cases hs : f.shown = []
  ·rw [if_pos hs]
   have hz := shown_no hf3 hs (by omega)
   show (⟨K, o.fs.take j ++ zfs.drop j, []⟩ : Ov) = _
   congr 1
   refine List.ext_getElem? fun i => ?_
   rcases Nat.lt_trichotomy i j with hi | rfl | hi
   ·rw [hlo j i hi (by omega), hlo (j + 1) i (by omega) hj]
   ·rw [hdz0 i (Nat.le_refl _), hlo (i + 1) i (by omega) hj, hz, hf1]
   ·rw [hdz0 i (by omega), hdz i hi]
  ·rw [if_neg hs]
   show takeW ⟨K, o.fs.take j ++ zfs.drop j, []⟩ (fnm.getD j [] ++ 61 :: f.shown) = _
   unfold takeW
   rw [cut_named (fnm_all _ (fnm_mem (by omega)))]
   unfold takeF
   dsimp only
   rw [if_neg (fun e => fnm_kpw j (by omega) e.2)]
   congr 1
   refine List.ext_getElem? fun i => ?_
   rcases Nat.lt_or_ge i 9 with h9 | h9
   ·rcases Nat.lt_trichotomy i j with hi | rfl | hi
    ·rw [hlo (j + 1) i (by omega) hj]
     have ho : i < o.fs.length := by rw [h.len]; exact h9
     have e := hlo j i hi (by omega)
     rw [List.getElem?_eq_getElem ho] at e ⊢
     rw [tkL_at h9 e, if_neg fun e2 => by have := fnm_inj i h9 j (by omega) e2; omega]
    ·rw [hlo (i + 1) i (by omega) hj, hf1]
     have hz9 : i < zfs.length := by rw [hzl]; exact h9
     have e := hdz0 i (Nat.le_refl _)
     rw [List.getElem?_eq_getElem hz9] at e
     rw [tkL_at h9 e, if_pos rfl]
     have hzo := zfs_ok m i _ (List.getElem?_eq_getElem hz9)
     rw [taken_shown hf3 hzo hs]
    ·rw [hdz i hi]
     have hz9 : i < zfs.length := by rw [hzl]; exact h9
     have e := hdz0 i (by omega)
     rw [List.getElem?_eq_getElem hz9] at e ⊢
     rw [tkL_at h9 e, if_neg fun e2 => by have := fnm_inj i h9 j (by omega) e2; omega]
   ·rw [List.getElem?_eq_none (by rw [tkL_len (hlen j (by omega))]; exact h9), List.getElem?_eq_none (by rw [hlen (j + 1) hj]; exact h9)]
theorem tkL_no {nme s : List UInt8} {fs : List Fl} (h : fs.length = 9) (hn : ∀ i, i < 9 → fnm.getD i [] ≠ nme) : tkL nme s fs = fs := by
 refine List.ext_getElem? fun i => ?_
 rcases Nat.lt_or_ge i 9 with h9 | h9
 ·have ho : i < fs.length := by rw [h]; exact h9
  rw [tkL_at h9 (List.getElem?_eq_getElem ho), if_neg (hn i h9), List.getElem?_eq_getElem ho]
 ·rw [List.getElem?_eq_none (by rw [tkL_len h]; exact h9), List.getElem?_eq_none (by rw [h]; exact h9)]
theorem fold_keep (K : Int) {fs : List Fl} (h : fs.length = 9) : ∀ (ks pre : List (List UInt8)), (ks.map wordK).foldl takeW ⟨K, fs, pre⟩ = ⟨K, fs, pre ++ ks⟩
 | [], pre => by simp
 | k :: ks, pre => by
  rw [List.map_cons, List.foldl_cons]
  have e : takeW ⟨K, fs, pre⟩ (wordK k) = ⟨K, fs, pre ++ [k]⟩ := by
   unfold takeW wordK
   rw [cut_named kpw_all]
   unfold takeF
   dsimp only
   rw [unP_qt, if_pos ⟨rfl, rfl⟩, tkL_no h fnm_kpw]
  rw [e, fold_keep K h ks, List.append_assoc]; rfl
theorem pO_show {m : Nat} {o : Ov} (h : OvOk m o) (hn : nm o.kind ≠ []) : pO (showO o) = o := by
 unfold pO
 rw [wds_show hn, List.headD_cons, List.tail_cons, kdP_nm hn]
 unfold wsO
 have h9 := fold_fields h o.kind 9 (Nat.le_refl _)
 rw [List.take_of_length_le (by rw [List.length_zip, h.len]; decide), List.take_of_length_le (by rw [h.len]; omega)] at h9
 rw [List.foldl_append]
 unfold wsF
 rw [h9, show zfs.drop 9 = [] from rfl, List.append_nil, fold_keep _ h.len, List.nil_append]
theorem stB_pre (t r : List UInt8) : stB t (t ++ r) = true := by
 unfold stB; rw [List.take_left]; exact decide_eq_true rfl
theorem stN_pre (t r : List UInt8) : stN t (t ++ r) = t.length := by unfold stN; rw [stB_pre]; rfl
def Rest (P : List UInt8 → Prop) (r : List UInt8) : Prop := r = [] ∨ ∃ nme y, P nme ∧ (∀ c, c ∈ nme → c ≠ 61) ∧ r = 32 :: (nme ++ 61 :: y)
theorem split61 : ∀ {a b x y : List UInt8}, (∀ c, c ∈ a → c ≠ 61) → (∀ c, c ∈ b → c ≠ 61) → a ++ 61 :: x = b ++ 61 :: y → a = b
 | [], [], _, _, _, _, _ => rfl
 | [], c :: b, x, y, _, hb, h => by
  rw [List.nil_append, List.cons_append] at h
  injection h with h1 h2
  exact absurd h1.symm (hb c List.mem_cons_self)
 | c :: a, [], x, y, ha, _, h => by
  rw [List.nil_append, List.cons_append] at h
  injection h with h1 h2
  exact absurd h1 (ha c List.mem_cons_self)
 | c :: a, d :: b, x, y, ha, hb, h => by
  rw [List.cons_append, List.cons_append] at h
  injection h with h1 h2
  rw [h1, split61 (fun e he => ha e (List.mem_cons_of_mem _ he)) (fun e he => hb e (List.mem_cons_of_mem _ he)) h2]
theorem stB_rest {P : List UInt8 → Prop} {nme r : List UInt8} (hn : ∀ c, c ∈ nme → c ≠ 61) (hr : Rest P r) (hp : ¬ P nme) : stB (tg nme) r = false := by
 cases h : stB (tg nme) r with
 | false => rfl
 | true =>
  exfalso
  have e := of_decide_eq_true h
  rcases hr with rfl | ⟨n2, y, h1, h2, rfl⟩
  ·unfold tg at e; simp at e
  ·have e2 := List.take_append_drop (tg nme).length (32 :: (n2 ++ 61 :: y))
   rw [e] at e2
   generalize (32 :: (n2 ++ 61 :: y)).drop (tg nme).length = z at e2
   unfold tg at e2
   simp only [List.singleton_append, List.cons_append, List.append_assoc] at e2
   injection e2 with e3 e4
   have := split61 hn h2 e4
   rw [this] at hp
   exact hp h1
theorem tw_app (p : UInt8 → Bool) (a r : List UInt8) (h1 : ∀ c, c ∈ a → p c = true) (h2 : ∀ c t, r = c :: t → p c = false) : (a ++ r).takeWhile p = a := by
 induction a with
 | nil =>
  cases r with
  | nil => rfl
  | cons c t => rw [List.nil_append, List.takeWhile_cons, if_neg (by rw [h2 c t rfl]; decide)]
 | cons c a ih => rw [List.cons_append, List.takeWhile_cons, if_pos (h1 c List.mem_cons_self), ih fun d hd => h1 d (List.mem_cons_of_mem _ hd)]
theorem negV_dec (u : Nat) (h : u ≤ 9223372036854775808) : negV (Lib.decDigits u) = -(u : Int) := by
 induction u using Nat.strongRecOn with
 | _ u ih =>
  rw [Lib.decDigits]
  split
  ·have e : (UInt8.ofNat (48 + u)).toNat - 48 = u := by rw [UInt8.toNat_ofNat']; omega
   unfold negV
   rw [List.foldl_cons, List.foldl_nil, e, show IntKind.i64.wrap (10 * 0) = 0 from rfl, w64 (by omega) (by omega)]; omega
  ·have e : (UInt8.ofNat (48 + u % 10)).toNat - 48 = u % 10 := by rw [UInt8.toNat_ofNat']; omega
   have h1 := ih (u / 10) (by omega) (by omega)
   unfold negV at h1 ⊢
   rw [List.foldl_append, h1, List.foldl_cons, List.foldl_nil, e, w64 (n := 10 * -((u / 10 : Nat) : Int)) (by omega) (by omega), w64 (by omega) (by omega)]; omega
theorem rest_nodig {P : List UInt8 → Prop} {r : List UInt8} (hr : Rest P r) : ∀ c t, r = c :: t → isD c = false := by
 intro c t e
 rcases hr with rfl | ⟨n2, y, _, _, rfl⟩
 ·cases e
 ·injection e with e1 e2; rw [← e1]; rfl
theorem numQ_piece {P : List UInt8 → Prop} {nme r : List UInt8} {x : Int} (hn : ∀ c, c ∈ nme → c ≠ 61) (hr : Rest P r) (hp : ¬ P nme) (h0 : -9223372036854775808 ≤ x) (h1 : x ≤ 9223372036854775807) :
  numQ nme (pieceF (nme, .n x) ++ r) = (x, (pieceF (nme, .n x)).length) := by
 by_cases hx : x = 0
 ·subst hx
  have e : pieceF (nme, .n 0) = [] := rfl
  rw [e, List.nil_append]
  unfold numQ
  rw [stB_rest hn hr hp]; rfl
 ·have e : pieceF (nme, .n x) = tg nme ++ Lib.itoa x := by
   have hs : Fl.shown (.n x) = Lib.itoa x := by unfold Fl.shown; dsimp only; rw [if_neg hx]
   unfold pieceF
   dsimp only
   rw [hs, if_neg (itoa_ne x)]
   unfold tg; simp
  rw [e]
  unfold numQ
  rw [List.append_assoc, stB_pre, if_pos rfl, List.drop_left]
  have hd := rest_nodig hr
  have D : ∀ u, (∀ c, c ∈ Lib.decDigits u → isD c = true) := by
   intro u c hc
   have := dec_all u c hc
   unfold isD; simp; omega
  unfold Lib.itoa
  split
  ·rename_i hneg
   show (if stB [45] ([45] ++ (Lib.decDigits x.natAbs ++ r)) then _ else _, _) = _
   rw [show (45 :: Lib.decDigits x.natAbs ++ r) = [45] ++ (Lib.decDigits x.natAbs ++ r) from rfl, stB_pre, stN_pre, List.drop_left, tw_app isD _ _ (D _) hd, if_pos rfl, negV_dec _ (by omega)]
   simp only [List.length_append, List.length_cons, List.length_nil]
   rw [show -(x.natAbs : Int) = x by omega]
   congr 1; omega
  ·rename_i hneg
   have hne : stB [45] (Lib.decDigits x.toNat ++ r) = false := by
    cases hl : Lib.decDigits x.toNat with
    | nil => exact absurd hl (dec_ne _)
    | cons c t =>
     have h2 := dec_all x.toNat c (by rw [hl]; exact List.mem_cons_self)
     unfold stB
     exact decide_eq_false (by
      intro e
      simp at e
      rw [e] at h2
      revert h2; decide)
   have hn0 : stN [45] (Lib.decDigits x.toNat ++ r) = 0 := by unfold stN; rw [hne]; rfl
   dsimp only
   rw [hne, hn0, List.drop_zero, tw_app isD _ _ (D _) hd, negV_dec _ (by omega), if_neg (by decide), show IntKind.i64.wrap (0 - -((x.toNat : Nat) : Int)) = x by rw [w64 (by omega) (by omega)]; omega, List.length_append, Nat.add_zero]
theorem quN_qt (l r : List UInt8) : quN (qt l ++ r) = (qt l).length ∧ quQ (qt l ++ r) = l := by
 have hq : quN (qt l ++ r) = (qt l).length := by
  have e : qt l ++ r = [34] ++ (qs l ++ ([34] ++ r)) := by unfold qt; simp
  rw [e]
  unfold quN
  rw [stN_pre]
  dsimp only
  rw [List.drop_left, tw_app notQ _ _ (fun c hc => decide_eq_true (qs_no l c hc)) (by rintro c t e; injection e with e1 e2; rw [← e1]; rfl), List.drop_left, stN_pre]
  unfold qt
  simp only [List.length_append, List.length_cons, List.length_nil]; omega
 refine ⟨hq, ?_⟩
 unfold quQ
 rw [hq, List.take_left, unR_qt]
theorem txtQ_piece {P : List UInt8 → Prop} {nme r x : List UInt8} (hn : ∀ c, c ∈ nme → c ≠ 61) (hr : Rest P r) (hp : ¬ P nme) :
  txtQ nme (pieceF (nme, .t x) ++ r) = (x, (pieceF (nme, .t x)).length) := by
 by_cases hx : x = []
 ·subst hx
  have e : pieceF (nme, .t []) = [] := rfl
  rw [e, List.nil_append]
  unfold txtQ
  rw [stB_rest hn hr hp]; rfl
 ·have e : pieceF (nme, .t x) = tg nme ++ qt x := by
   have hs : Fl.shown (.t x) = qt x := by unfold Fl.shown; dsimp only; rw [if_neg hx]
   unfold pieceF
   dsimp only
   rw [hs, if_neg (qt_ne x)]
   unfold tg; simp
  rw [e]
  unfold txtQ
  obtain ⟨h1, h2⟩ := quN_qt x r
  rw [List.append_assoc, stB_pre, if_pos rfl, List.drop_left, h1, h2, List.length_append]
theorem keepG_flat : ∀ ks : List (List UInt8), keepG (flat32 (ks.map wordK)) = ks
 | [] => keepG_no rfl
 | k :: ks => by
  have e : flat32 ((k :: ks).map wordK) = kw ++ (qt k ++ flat32 (ks.map wordK)) := by
   unfold flat32 wordK kw kpw
   simp
  obtain ⟨h1, h2⟩ := quN_qt k (flat32 (ks.map wordK))
  rw [e, keepG_yes (stB_pre _ _), show (6 : Nat) = kw.length from rfl, List.drop_left, h1, h2, List.drop_left, keepG_flat ks]
theorem fnm61 (i : Nat) (h : i < 9) : ∀ c, c ∈ fnm.getD i [] → c ≠ 61 := fun c hc => (fnm_all _ (fnm_mem h) c hc).2.2
def later (j : Nat) (nme : List UInt8) : Prop := (∃ i, j ≤ i ∧ i < 9 ∧ nme = fnm.getD i []) ∨ nme = kpw
theorem later_no {j : Nat} (h : j < 9) : ¬ later (j + 1) (fnm.getD j []) := by
 rintro (⟨i, h1, h2, h3⟩ | h1)
 ·have := fnm_inj j h i h2 h3; omega
 ·exact fnm_kpw j h h1
theorem rest_keep (j : Nat) (ks : List (List UInt8)) : Rest (later j) (flat32 (ks.map wordK)) := by
 cases ks with
 | nil => exact .inl rfl
 | cons k ks => exact .inr ⟨kpw, qt k ++ flat32 (ks.map wordK), .inr rfl, fun c hc => (kpw_all c hc).2.2, by unfold flat32 wordK; simp⟩
theorem rest_piece {j : Nat} (hj : j < 9) (f : Fl) {r : List UInt8} (hr : Rest (later (j + 1)) r) : Rest (later j) (pieceF (fnm.getD j [], f) ++ r) := by
 unfold pieceF
 split
 ·rw [List.nil_append]
  rcases hr with rfl | ⟨n2, y, h1, h2, rfl⟩
  ·exact .inl rfl
  ·refine .inr ⟨n2, y, ?_, h2, rfl⟩
   rcases h1 with ⟨i, h3, h4, h5⟩ | h1
   ·exact .inl ⟨i, by omega, h4, h5⟩
   ·exact .inr h1
 ·refine .inr ⟨fnm.getD j [], f.shown ++ r, .inl ⟨j, Nat.le_refl _, hj, rfl⟩, fnm61 j hj, ?_⟩
  simp
theorem rP_show {m : Nat} {a b c g i j : Int} {d e f : List UInt8} {ks : List (List UInt8)} (ha : inI a) (hb : inI b) (hc : inI c) (hg : inI g) (hi : inI i) (hj : inI j) :
  ∃ na nb nc nd ne nf ng ni nj, rP (pieceF (fnm.getD 0 [], .n a) ++ (pieceF (fnm.getD 1 [], .n b) ++ (pieceF (fnm.getD 2 [], .n c) ++ (pieceF (fnm.getD 3 [], .t d) ++ (pieceF (fnm.getD 4 [], .t e) ++ (pieceF (fnm.getD 5 [], .t f) ++ (pieceF (fnm.getD 6 [], .n g) ++ (pieceF (fnm.getD 7 [], .n i) ++ (pieceF (fnm.getD 8 [], .n j) ++ flat32 (ks.map wordK)))))))))) = ⟨(a, na), (b, nb), (c, nc), (d, nd), (e, ne), (f, nf), (g, ng), (i, ni), (j, nj), flat32 (ks.map wordK)⟩ := by
 have r9 := rest_keep 9 ks
 generalize flat32 (ks.map wordK) = R9 at *
 have r8 := rest_piece (show 8 < 9 by decide) (.n j) r9
 have q8 := numQ_piece (fnm61 8 (by decide)) r9 (later_no (by decide)) hj.1 hj.2
 generalize pieceF (fnm.getD 8 [], .n j) = p8 at *
 have r7 := rest_piece (show 7 < 9 by decide) (.n i) r8
 have q7 := numQ_piece (fnm61 7 (by decide)) r8 (later_no (by decide)) hi.1 hi.2
 generalize pieceF (fnm.getD 7 [], .n i) = p7 at *
 have r6 := rest_piece (show 6 < 9 by decide) (.n g) r7
 have q6 := numQ_piece (fnm61 6 (by decide)) r7 (later_no (by decide)) hg.1 hg.2
 generalize pieceF (fnm.getD 6 [], .n g) = p6 at *
 have r5 := rest_piece (show 5 < 9 by decide) (.t f) r6
 have q5 := txtQ_piece (x := f) (fnm61 5 (by decide)) r6 (later_no (by decide))
 generalize pieceF (fnm.getD 5 [], .t f) = p5 at *
 have r4 := rest_piece (show 4 < 9 by decide) (.t e) r5
 have q4 := txtQ_piece (x := e) (fnm61 4 (by decide)) r5 (later_no (by decide))
 generalize pieceF (fnm.getD 4 [], .t e) = p4 at *
 have r3 := rest_piece (show 3 < 9 by decide) (.t d) r4
 have q3 := txtQ_piece (x := d) (fnm61 3 (by decide)) r4 (later_no (by decide))
 generalize pieceF (fnm.getD 3 [], .t d) = p3 at *
 have r2 := rest_piece (show 2 < 9 by decide) (.n c) r3
 have q2 := numQ_piece (fnm61 2 (by decide)) r3 (later_no (by decide)) hc.1 hc.2
 generalize pieceF (fnm.getD 2 [], .n c) = p2 at *
 have r1 := rest_piece (show 1 < 9 by decide) (.n b) r2
 have q1 := numQ_piece (fnm61 1 (by decide)) r2 (later_no (by decide)) hb.1 hb.2
 generalize pieceF (fnm.getD 1 [], .n b) = p1 at *
 have q0 := numQ_piece (fnm61 0 (by decide)) r1 (later_no (by decide)) ha.1 ha.2
 generalize pieceF (fnm.getD 0 [], .n a) = p0 at *
 unfold rP rPg
 generalize numQ = N at *
 generalize txtQ = X at *
 refine ⟨p0.length, p1.length, p2.length, p3.length, p4.length, p5.length, p6.length, p7.length, p8.length, ?_⟩
 simp only [q0, q1, q2, q3, q4, q5, q6, q7, q8, List.drop_left]
theorem flat_start (ws : List (List UInt8)) : flat32 ws = [] ∨ ∃ y, flat32 ws = 32 :: y := by
 cases ws with
 | nil => exact .inl rfl
 | cons w ws => exact .inr ⟨w ++ flat32 ws, by unfold flat32; simp⟩
theorem match_name {v w R : List UInt8} (hv : ∀ c, c ∈ v → c ≠ 32) (hw : ∀ c, c ∈ w → c ≠ 32) (hR : R = [] ∨ ∃ y, R = 32 :: y) (h1 : (w ++ R).take v.length = v) (h2 : (w ++ R).length = v.length ∨ (w ++ R)[v.length]? = some 32) : v = w := by
 rcases Nat.lt_trichotomy v.length w.length with h | h | h
 ·exfalso
  rcases h2 with h2 | h2
  ·rw [List.length_append] at h2; omega
  ·rw [List.getElem?_append_left h] at h2
   exact hw 32 (List.mem_of_getElem? h2) rfl
 ·rw [List.take_append_of_le_length (by omega), List.take_of_length_le (by omega)] at h1
  exact h1.symm
 ·exfalso
  rcases hR with rfl | ⟨y, rfl⟩
  ·have := congrArg List.length h1
   rw [List.append_nil, List.length_take] at this; omega
  ·have h3 : v[w.length]? = some 32 := by
    rw [← h1, List.getElem?_take, if_pos h, List.getElem?_append_right (Nat.le_refl _), Nat.sub_self]; rfl
   exact hv 32 (List.mem_of_getElem? h3) rfl
theorem show_form {o : Ov} (hn : nm o.kind ≠ []) : showO o = nm o.kind ++ flat32 (wsO o) := by unfold showO; rw [if_neg hn]
theorem match_show {o : Ov} (hn : nm o.kind ≠ []) : matchK (showO o) o.kind.toNat = true := by
 have hd := nm_dom hn
 unfold matchK
 rw [show ((o.kind.toNat : Nat) : Int) = o.kind by omega, show_form hn, List.take_left, decide_eq_true rfl, Bool.true_and]
 rcases flat_start (wsO o) with h | ⟨y, h⟩
 ·rw [h, List.append_nil, decide_eq_true rfl]; rfl
 ·rw [h, List.getElem?_append_right (Nat.le_refl _), Nat.sub_self]
  simp
theorem kdR_show {o : Ov} (hn : nm o.kind ≠ []) : (kdR (showO o) : Int) = o.kind := by
 have hd := nm_dom hn
 have hm := match_show hn
 have hlt : kdR (showO o) < 17 := by
  rcases Nat.lt_or_ge (kdR (showO o)) 17 with h | h
  ·exact h
  ·have := kdR_lt (s := showO o) (k := o.kind.toNat) (by omega)
   rw [hm] at this; cases this
 have h1 := kdR_at hlt
 unfold matchK at h1
 obtain ⟨h2, h3⟩ := Bool.and_eq_true_iff.1 h1
 have h2 := of_decide_eq_true h2
 have h3 : (showO o).length = (nm (kdR (showO o))).length ∨ (showO o)[(nm (kdR (showO o))).length]? = some 32 := by
  rcases Bool.or_eq_true_iff.1 h3 with h | h
  ·exact .inl (of_decide_eq_true h)
  ·exact .inr (of_decide_eq_true h)
 generalize kdR (showO o) = K at *
 rw [show_form hn] at h2 h3
 have := match_name (fun c hc => (nm_all _ c hc).2.1) (fun c hc => (nm_all _ c hc).2.1) (flat_start (wsO o)) h2 h3
 exact (nm_inj hn this.symm).symm
theorem rO_show {m : Nat} {o : Ov} (h : OvOk m o) (hn : nm o.kind ≠ []) : rO (showO o) (kdR (showO o)) = o := by
 have hK := kdR_show hn
 obtain ⟨a, b, c, d, e, f, g, i, j, hfs⟩ := ov_form h
 have f0 := h.fl 0 _ (by rw [hfs]; rfl)
 have f1 := h.fl 1 _ (by rw [hfs]; rfl)
 have f2 := h.fl 2 _ (by rw [hfs]; rfl)
 have f6 := h.fl 6 _ (by rw [hfs]; rfl)
 have f7 := h.fl 7 _ (by rw [hfs]; rfl)
 have f8 := h.fl 8 _ (by rw [hfs]; rfl)
 obtain ⟨na, nb, nc, nd, ne, nf, ng, ni, nj, hr⟩ := rP_show (m := m) (ks := o.keep) (d := d) (e := e) (f := f) f0.2 f1.2 f2.2 f6.2 f7.2 f8.2
 have hws : flat32 (wsO o) = (pieceF (fnm.getD 0 [], .n a) ++ (pieceF (fnm.getD 1 [], .n b) ++ (pieceF (fnm.getD 2 [], .n c) ++ (pieceF (fnm.getD 3 [], .t d) ++ (pieceF (fnm.getD 4 [], .t e) ++ (pieceF (fnm.getD 5 [], .t f) ++ (pieceF (fnm.getD 6 [], .n g) ++ (pieceF (fnm.getD 7 [], .n i) ++ (pieceF (fnm.getD 8 [], .n j) ++ flat32 (o.keep.map wordK)))))))))) := by
  unfold wsO wsF
  rw [show flat32 (List.filterMap wordF (fnm.zip o.fs) ++ o.keep.map wordK) = flat32 (List.filterMap wordF (fnm.zip o.fs)) ++ flat32 (o.keep.map wordK) by unfold flat32; rw [List.flatMap_append], flat_piece, hfs]
  simp [fnm]
 rw [← hws] at hr
 unfold rO
 rw [hK, show_form hn, List.drop_left, hr]
 dsimp only
 rw [keepG_flat, ← hfs]
theorem pF_rF (s : List UInt8) : pF s = rF s := by
 by_cases hx : ∃ o, OvOk s.length o ∧ nm o.kind ≠ [] ∧ showO o = s
 ·obtain ⟨o, h1, h2, rfl⟩ := hx
  have hd := nm_dom h2
  have hK := kdR_show h2
  unfold pF rF
  rw [pO_show h1 h2, rO_show h1 h2, if_neg (by rintro (h | h); omega; exact h rfl), if_neg (by omega), if_neg (by simp)]
 ·have e1 : pF s = (zOv, 13) := by
   unfold pF
   refine if_pos ?_
   by_cases hk : (pO s).kind = 17
   ·exact .inl hk
   ·right
    intro hs
    refine hx ⟨pO s, pO_ok (Nat.le_refl _), ?_, hs⟩
    have hkk : (pO s).kind = kdP ((wds s).headD []) := by unfold pO; rw [fold_kind]
    have := kdP_le ((wds s).headD [])
    rw [hkk] at hk ⊢
    have hlt : kdP ((wds s).headD []) < 17 := by omega
    have key : ∀ k, k < 17 → nms.getD k [] ≠ [] := by decide
    unfold nm
    rw [if_pos ⟨by omega, by omega⟩]
    exact key _ (by omega)
  have e2 : rF s = (zOv, 13) := by
   unfold rF
   split
   ·rfl
   ·rename_i hk
    refine if_pos ?_
    intro hs
    refine hx ⟨rO s (kdR s), rO_ok (Nat.le_refl _) (kdR_le s), ?_, hs⟩
    have := kdR_le s
    have key : ∀ k, k < 17 → nms.getD k [] ≠ [] := by decide
    show nm (kdR s) ≠ []
    unfold nm
    rw [if_pos ⟨by omega, by omega⟩]
    exact key _ (by omega)
  rw [e1, e2]
theorem pF_show {m : Nat} {o : Ov} (h : OvOk m o) (hn : nm o.kind ≠ []) : pF (showO o) = (o, 0) := by
 have hd := nm_dom hn
 unfold pF
 rw [pO_show h hn, if_neg (by rintro (h | h); omega; exact h rfl)]
theorem pF_none {o : Ov} (hn : nm o.kind = []) : (pF (showO o)).2 = 13 := by
 have e : showO o = [] := by unfold showO; rw [if_pos hn]
 rw [e]
 unfold pF
 rw [if_pos (.inl (by decide))]
theorem pF_ok (s : List UInt8) : OvOk s.length (pF s).1 := by
 unfold pF
 split
 ·exact z_ok _ 0 (by decide)
 ·exact pO_ok (Nat.le_refl _)
theorem OvOk.mono {m n : Nat} {o : Ov} (h : OvOk m o) (hm : m ≤ n) : OvOk n o := ⟨h.k0, h.k1, h.len, fun i f hf => by have := h.fl i f hf; cases f with | n x => exact this | t l => exact ⟨this.1, Nat.le_trans this.2 hm⟩, fun k hk => Nat.le_trans (h.kp k hk) hm, Nat.le_trans h.kn hm⟩
def ovD (o : Ov) : DV := .agg (o.ds (.sl 1 false (keepD o.keep)))
theorem sameR (w0 : W0) {m : Nat} {o : Ov} (h : OvOk m o) (hm : m ≤ 1048576) (S : St) : ACall Tryz.prog w0 17 [ovD o, ovD o] S (fun d S' => d = dB true ∧ S' = S) := by
 obtain ⟨x1, x2, x3, x4, x5, x6, x7, x8, x9, hfs⟩ := ov_form h
 have hds : o.ds (.sl 1 false (keepD o.keep)) = [dI o.kind, dI x1, dI x2, dI x3, dS (tx x4), dS (tx x5), dS (tx x6), dI x7, dI x8, dI x9, .sl 1 false (keepD o.keep)] := by unfold Ov.ds; rw [hfs]; rfl
 unfold ovD
 rw [hds]
 have hkl := keepD_len o.keep
 have hkn := h.kn
 refine fnS [] mx Tryz.func17 rfl rfl (by kernel_rfl) ?_; simp (maxDischargeDepth := 12) (maxSteps := 1000000) -implicitDefEqProofs only [Tryz.ntmps17, go_sem, Nat.reduceAdd, Nat.reduceSub, Nat.reduceMul, Nat.reduceLeDiff, Nat.reduceEqDiff, Nat.reduceGT, Nat.reduceBEq, reduceCtorEq, ↓reduceIte, Int.reduceToNat, Int.reduceLE, Int.reduceLT, Int.reduceNe, Int.reduceEq]
 intro ba bb
 refine loopN [] o.keep.length [2, 3, 5] (fun k => [(5, dI k)]) (fun _ => ⟨(bb.n, [dI o.kind, dI x1, dI x2, dI x3, dS (tx x4), dS (tx x5), dS (tx x6), dI x7, dI x8, dI x9, .sl 1 false (keepD o.keep)]) :: (ba.n, [dI o.kind, dI x1, dI x2, dI x3, dS (tx x4), dS (tx x5), dS (tx x6), dI x7, dI x8, dI x9, .sl 1 false (keepD o.keep)]) :: S.box, S.acc⟩) (fun _ => True) mx (by kernel_rfl) ?_ ?_
 ·simp (maxDischargeDepth := 12) (maxSteps := 1000000) -implicitDefEqProofs only [go_sem, Nat.reduceAdd, Nat.reduceSub, Nat.reduceMul, Nat.reduceLeDiff, Nat.reduceEqDiff, Nat.reduceGT, Nat.reduceBEq, reduceCtorEq, ↓reduceIte, Int.reduceToNat, Int.reduceLE, Int.reduceLT, Int.reduceNe, Int.reduceEq]
 ·intro k hk _
  have e1 : IntKind.i64.wrap ((k : Int) + 1) = ((k + 1 : Nat) : Int) := by rw [w64 (by omega) (by omega)]; omega
  by_cases hlt : k < o.keep.length
  ·have hke := List.getElem?_eq_getElem hlt
   generalize o.keep[k] = x at hke
   have hrow := el_at (xs := keepD o.keep) (k := k) (d := dS (tx x)) (by unfold keepD; rw [List.getElem?_map, hke]; rfl) rfl
   simp (maxDischargeDepth := 12) (maxSteps := 1000000) -implicitDefEqProofs only [go_sem, Nat.reduceAdd, Nat.reduceSub, Nat.reduceMul, Nat.reduceLeDiff, Nat.reduceEqDiff, Nat.reduceGT, Nat.reduceBEq, reduceCtorEq, ↓reduceIte, Int.reduceToNat, Int.reduceLE, Int.reduceLT, Int.reduceNe, Int.reduceEq, hkl, e1, hrow]
  ·simp (maxDischargeDepth := 12) (maxSteps := 1000000) -implicitDefEqProofs only [go_sem, Nat.reduceAdd, Nat.reduceSub, Nat.reduceMul, Nat.reduceLeDiff, Nat.reduceEqDiff, Nat.reduceGT, Nat.reduceBEq, reduceCtorEq, ↓reduceIte, Int.reduceToNat, Int.reduceLE, Int.reduceLT, Int.reduceNe, Int.reduceEq, hkl, e1]
   exact fun hh => absurd hh hlt
def ovsD (l : List Ov) : List DV := l.map ovD
theorem ovsD_len (l : List Ov) : (ovsD l).length = l.length := by simp [ovsD]
theorem ovsD_at {l : List Ov} {k : Nat} {o : Ov} (h : l[k]? = some o) : (ovsD l)[k]? = some (ovD o) := by unfold ovsD; rw [List.getElem?_map, h]; rfl
theorem cd_ov {m : Nat} {o : Ov} (h : OvOk m o) : (cd (ovD o)).length = 11 := ds_len h _
theorem ov_nacc {m : Nat} {o : Ov} (h : OvOk m o) : (o.ds (.sl 1 false (keepD o.keep))).all nacc = true := by
 obtain ⟨x1, x2, x3, x4, x5, x6, x7, x8, x9, hfs⟩ := ov_form h
 unfold Ov.ds
 rw [hfs]; rfl
theorem sameAll (w0 : W0) {m : Nat} {l : List Ov} (h : ∀ o, o ∈ l → OvOk m o) (hm : m ≤ 1048576) (hl : l.length ≤ 1048576) (S : St) : ACall Tryz.prog w0 21 [.sl 11 false (ovsD l), .sl 11 false (ovsD l)] S (fun d S' => d = dB true ∧ S' = S) := by
 have hkl := ovsD_len l
 refine fnS [] mx Tryz.func21 rfl rfl (by kernel_rfl) ?_; simp (maxDischargeDepth := 12) (maxSteps := 1000000) -implicitDefEqProofs only [Tryz.ntmps21, go_sem, Nat.reduceAdd, Nat.reduceSub, Nat.reduceMul, Nat.reduceLeDiff, Nat.reduceEqDiff, Nat.reduceGT, Nat.reduceBEq, reduceCtorEq, ↓reduceIte, Int.reduceToNat, Int.reduceLE, Int.reduceLT, Int.reduceNe, Int.reduceEq, hkl]
 refine loopN [] l.length [0, 1, 5] (fun k => [(5, dI k)]) (fun _ => S) (fun _ => True) mx (by kernel_rfl) ?_ ?_
 ·simp (maxDischargeDepth := 12) (maxSteps := 1000000) -implicitDefEqProofs only [go_sem, Nat.reduceAdd, Nat.reduceSub, Nat.reduceMul, Nat.reduceLeDiff, Nat.reduceEqDiff, Nat.reduceGT, Nat.reduceBEq, reduceCtorEq, ↓reduceIte, Int.reduceToNat, Int.reduceLE, Int.reduceLT, Int.reduceNe, Int.reduceEq]
 ·intro k hk _
  have e1 : IntKind.i64.wrap ((k : Int) + 1) = ((k + 1 : Nat) : Int) := by rw [w64 (by omega) (by omega)]; omega
  by_cases hlt : k < l.length
  ·have hke := List.getElem?_eq_getElem hlt
   have hko := h _ (List.getElem_mem hlt)
   generalize l[k] = x at hke hko
   have hrow := el_at (ovsD_at hke) rfl
   simp (maxDischargeDepth := 12) (maxSteps := 1000000) -implicitDefEqProofs only [go_sem, Nat.reduceAdd, Nat.reduceSub, Nat.reduceMul, Nat.reduceLeDiff, Nat.reduceEqDiff, Nat.reduceGT, Nat.reduceBEq, reduceCtorEq, ↓reduceIte, Int.reduceToNat, Int.reduceLE, Int.reduceLT, Int.reduceNe, Int.reduceEq, hkl, e1, hrow]
   intro _
   have h11 : List.take 11 (cd (ovD x)) = x.ds (.sl 1 false (keepD x.keep)) := List.take_of_length_le (by rw [cd_ov hko]; omega)
   rw [h11]
   refine ⟨hlt, by rw [cd_ov hko]; omega, hlt, by rw [cd_ov hko]; omega, ov_nacc hko, ?_⟩
   refine useQ (sameR w0 hko hm _) ?_
   simp (maxDischargeDepth := 12) (maxSteps := 1000000) -implicitDefEqProofs only [go_sem, Nat.reduceAdd, Nat.reduceSub, Nat.reduceMul, Nat.reduceLeDiff, Nat.reduceEqDiff, Nat.reduceGT, Nat.reduceBEq, reduceCtorEq, ↓reduceIte, Int.reduceToNat, Int.reduceLE, Int.reduceLT, Int.reduceNe, Int.reduceEq]
   exact ⟨hlt, e1⟩
  ·simp (maxDischargeDepth := 12) (maxSteps := 1000000) -implicitDefEqProofs only [go_sem, Nat.reduceAdd, Nat.reduceSub, Nat.reduceMul, Nat.reduceLeDiff, Nat.reduceEqDiff, Nat.reduceGT, Nat.reduceBEq, reduceCtorEq, ↓reduceIte, Int.reduceToNat, Int.reduceLE, Int.reduceLT, Int.reduceNe, Int.reduceEq, hkl, e1]
   exact fun hh => absurd hh hlt
def lnS : List UInt8 → List UInt8 → List (List UInt8)
 | cur, [] => [cur]
 | cur, c :: t => if c = 10 then cur :: lnS [] t else lnS (cur ++ [c]) t
def lns (l : List UInt8) : List (List UInt8) := lnS [] l
theorem lnS_skip : ∀ (b cur t : List UInt8), (∀ x, x ∈ b → x ≠ 10) → lnS cur (b ++ t) = lnS (cur ++ b) t
 | [], cur, t, _ => by rw [List.append_nil]; rfl
 | c :: b, cur, t, h => by
  rw [List.cons_append, lnS, if_neg (h c List.mem_cons_self), lnS_skip b _ t fun x hx => h x (List.mem_cons_of_mem _ hx), List.append_assoc]; rfl
theorem lnS_len : ∀ (cur t : List UInt8), (lnS cur t).length ≤ t.length + 1
 | cur, [] => by simp [lnS]
 | cur, c :: t => by
  rw [lnS]
  split
  ·have := lnS_len [] t; rw [List.length_cons, List.length_cons]; omega
  ·have := lnS_len (cur ++ [c]) t; rw [List.length_cons]; omega
theorem lnS_sz : ∀ (cur t : List UInt8), ∀ w, w ∈ lnS cur t → w.length ≤ cur.length + t.length
 | cur, [] => by intro w hw; simp [lnS] at hw; rw [hw]; simp
 | cur, c :: t => by
  intro w hw
  rw [lnS] at hw
  split at hw
  ·rcases List.mem_cons.1 hw with rfl | hw
   ·simp
   ·have := lnS_sz [] t w hw; simp at this ⊢; omega
  ·have := lnS_sz (cur ++ [c]) t w hw; rw [List.length_append] at this; simp at this ⊢; omega
def skipL (w : List UInt8) : Bool := decide (w = []) || decide (w.head? = some 35)
def allF : List Ov → Nat → List (List UInt8) → List Ov × Int
 | out, k, [] => (out, 0)
 | out, k, w :: ws => if skipL w then allF out (k + 1) ws else if (pF w).2 ≠ 0 then ([], ((k + 1 : Nat) : Int)) else allF (out ++ [(pF w).1]) (k + 1) ws
def aF (s : List UInt8) : List Ov × Int := allF [] 0 (lns s)
theorem allF_ok {m : Nat} : ∀ (ws : List (List UInt8)) (out : List Ov) (k : Nat), (∀ w, w ∈ ws → w.length ≤ m) → (∀ o, o ∈ out → OvOk m o) → (∀ o, o ∈ (allF out k ws).1 → OvOk m o) ∧ (allF out k ws).1.length ≤ out.length + ws.length
 | [], out, k, _, h => ⟨h, Nat.le_refl _⟩
 | w :: ws, out, k, hw, h => by
  have ih := fun out' h' => allF_ok ws out' (k + 1) (fun x hx => hw x (List.mem_cons_of_mem _ hx)) h'
  rw [allF, List.length_cons]
  split
  ·obtain ⟨h1, h2⟩ := ih out h
   exact ⟨h1, by omega⟩
  ·split
   ·exact ⟨fun o ho => (by cases ho), Nat.zero_le _⟩
   ·obtain ⟨h1, h2⟩ := ih (out ++ [(pF w).1]) (by
     intro o ho
     rcases List.mem_append.1 ho with ho | ho
     ·exact h o ho
     ·obtain rfl := List.mem_singleton.1 ho
      exact (pF_ok w).mono (hw w List.mem_cons_self))
    rw [List.length_append, List.length_singleton] at h2
    exact ⟨h1, by omega⟩
theorem aF_ok {m : Nat} {s : List UInt8} (h : s.length ≤ m) : (∀ o, o ∈ (aF s).1 → OvOk m o) ∧ (aF s).1.length ≤ s.length + 1 := by
 have h1 := lnS_sz [] s
 have h2 := lnS_len [] s
 obtain ⟨h3, h4⟩ := allF_ok (m := m) (lns s) [] 0 (fun w hw => by have := h1 w hw; simp at this; omega) (fun o ho => by cases ho)
 unfold aF
 unfold lns at *
 simp at h4
 exact ⟨h3, by omega⟩
theorem first10 : ∀ L : List UInt8, (∀ c, c ∈ L → c ≠ 10) ∨ ∃ a t, L = a ++ 10 :: t ∧ ∀ c, c ∈ a → c ≠ 10
 | [] => .inl fun c hc => by cases hc
 | c :: L => by
  by_cases h : c = 10
  ·subst h; exact .inr ⟨[], L, rfl, fun c hc => by cases hc⟩
  ·rcases first10 L with h1 | ⟨a, t, rfl, h1⟩
   ·left
    intro d hd
    rcases List.mem_cons.1 hd with rfl | hd
    ·exact h
    ·exact h1 d hd
   ·refine .inr ⟨c :: a, t, rfl, fun d hd => ?_⟩
    rcases List.mem_cons.1 hd with rfl | hd
    ·exact h
    ·exact h1 d hd
theorem index10 (x : List UInt8) : ∀ {a : List UInt8}, (∀ c, c ∈ a → c ≠ 10) → Lib.index (a ++ 10 :: x) [10] = a.length
 | [], _ => by simp [Lib.index]
 | c :: a, h => by
  have h1 := h c List.mem_cons_self
  have h2 := index10 x fun d hd => h d (List.mem_cons_of_mem _ hd)
  rw [List.cons_append, Lib.index, h2]
  have h3 : ([10] : List UInt8).isPrefixOf (c :: (a ++ 10 :: x)) = false := by
   simp [List.isPrefixOf]; exact fun e => h1 e.symm
  rw [h3]
  simp
theorem index10_no : ∀ {a : List UInt8}, (∀ c, c ∈ a → c ≠ 10) → Lib.index a [10] = -1
 | [], _ => rfl
 | c :: a, h => by
  have h1 := h c List.mem_cons_self
  have h2 := index10_no fun d hd => h d (List.mem_cons_of_mem _ hd)
  rw [Lib.index, h2]
  have h3 : ([10] : List UInt8).isPrefixOf (c :: a) = false := by
   simp [List.isPrefixOf]; exact fun e => h1 e.symm
  rw [h3]
  simp
theorem lns_no {a : List UInt8} (h : ∀ c, c ∈ a → c ≠ 10) : lns a = [a] := by
 have := lnS_skip a [] [] h
 rw [List.append_nil] at this
 unfold lns
 rw [this]; rfl
theorem lns_yes {a t : List UInt8} (h : ∀ c, c ∈ a → c ≠ 10) : lns (a ++ 10 :: t) = a :: lns t := by
 unfold lns
 rw [lnS_skip a [] _ h, lnS, if_pos rfl]; rfl
theorem split_ln : ∀ (k : Nat) (s : ByteArray), Lib.countB s ⟨#[10]⟩ = k → Lib.splitB ⟨#[10]⟩ 0 k s = (lns s.data.toList).map tx
 | k, s, hk => by
  rcases first10 s.data.toList with h | ⟨a, t, h1, h2⟩
  ·have hi : Lib.indexB s ⟨#[10]⟩ = -1 := index10_no h
   rw [Lib.splitB_miss _ _ _ _ hi, lns_no h, List.map_cons, List.map_nil, tx_eta]
  ·have hi : Lib.indexB s ⟨#[10]⟩ = a.length := by
    show Lib.index s.data.toList [10] = _
    rw [h1]; exact index10 t h2
   have hc := Lib.countB_hit s ⟨#[10]⟩ a.length (by decide) hi
   have hs : (⟨#[10]⟩ : ByteArray).size = 1 := rfl
   have e1 : s.extract 0 (a.length + 0) = tx a := tx_ext (by rw [list_ext, tx_list, h1]; simp)
   have e2 : s.extract (a.length + 1) s.size = tx t := tx_ext (by
    rw [list_ext, tx_list, List.take_of_length_le (by rw [size_list]; omega), h1, ← List.drop_drop, List.drop_left]; rfl)
   rw [hs, e2] at hc
   match k, hk with
   | 0, hk => omega
   | k + 1, hk =>
    rw [Lib.splitB_hit _ _ _ _ _ hi, e1, hs, e2, h1, lns_yes h2, List.map_cons, split_ln k (tx t) (by omega), tx_list]
theorem splitP (w0 : W0) (hm : KM w0) (s : ByteArray) (hs : s.size ≤ 1048576) (S : St) : ACall Tryz.prog w0 48 [dS s, dS ⟨#[10]⟩] S (fun d S' => d = .sl 1 true (keepD (lns s.data.toList)) ∧ S' = S) := by
 have hl := lnS_len [] s.data.toList
 have hne : lns s.data.toList ≠ [] := by
  rcases first10 s.data.toList with h | ⟨a, t, h1, h2⟩
  ·rw [lns_no h]; simp
  ·rw [h1, lns_yes h2]; simp
 have h := acall_newrow (P := Tryz.prog) (w0 := w0) (f := 48) (us := [.string s, .string ⟨#[10]⟩]) (xs := (lns s.data.toList).map tx) (e0 := 9) (S := S) (by rw [List.length_map]; rw [size_list] at hl; have : maxLen = 9223372036854775807 := rfl; unfold lns; omega) (by simpa using hne) (by
  intro w hw
  obtain ⟨m, hc⟩ := hm w hw
  refine (Tryz.strings_Split s ⟨#[10]⟩ m w (by omega) hc (by decide)).mono ?_
  rintro e w' ⟨rfl, rfl⟩
  have e1 := split_ln (Lib.countB s ⟨#[10]⟩) s rfl
  have e2 := Lib.splitB_all ⟨#[10]⟩ (by decide) 0 (Lib.countB s ⟨#[10]⟩) s rfl
  rw [e1] at e2 ⊢
  rw [e2]
  exact ⟨rfl, rfl⟩)
 rw [List.map_map] at h
 exact h
end Go.Proofs.YtldimfofkbomnaaGreatDoor
