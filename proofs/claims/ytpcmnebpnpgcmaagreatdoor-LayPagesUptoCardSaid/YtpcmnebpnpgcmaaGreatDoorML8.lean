/-
  A tree of steps, laid on pages: all that is known of it. By an AI agent.
-/
import Derived.Test.YtpcmnebpnpgcmaaGreatDoorML7
import Derived.Test.YtpcmnebpnpgcmaaGreatDoorML6
set_option linter.unusedVariables false
set_option linter.unusedSimpArgs false
set_option maxRecDepth 100000
set_option maxHeartbeats 16000000
namespace Go.Proofs.YtpcmnebpnpgcmaaGreatDoor
open Aml Go
structure Ld (k : Nat) (n : N) (at_ : List Int) (M : N) (R : List Int) (W : List (Int × ByteArray)) : Prop where
 eq : layN n (at_, []) = (M, (R, W))
 bt : BT k M
 fr : frT M = 0
 left : R = at_.drop (frT n)
 pg : W.map (·.1) = at_.take (frT n)
 sz : ∀ x, x ∈ W → x.2.size = 128
 al : (alN M).Perm (alN n ++ at_.take (frT n))
 en : entsN M = entsN n
theorem ld_of {k : Nat} {n : N} {at_ : List Int} (h : BT k n) (hm : MayC n at_) : ∃ M R W, Ld k n at_ M R W := by
 obtain ⟨a1, a2, a3⟩ := bt_wr h hm
 have hb := bt_lay h hm
 obtain ⟨d, hg, hs, h2⟩ := h.tl.root
 have hn := good_nd hg
 have hz : ∀ p, p ∈ at_ → p ≠ 0 := fun p hp => by have := hm.2.1 p (List.mem_append_left _ hp); omega
 refine ⟨(layN n (at_, [])).1, (layN n (at_, [])).2.1, (layN n (at_, [])).2.2, rfl, hb, lay_fr hn hm.2.2 hz, a1, a2, a3, lay_al hn hm.2.2 hz, ?_⟩
 have he := lay_en (at_, []) hn
 unfold entsN
 have hm2 : ∀ l : List C, l.map bareC = (l.map fun c => (c.key, c.data)).map fun x => C.mk x.1 x.2 [] [] := fun l => by rw [List.map_map]; rfl
 rw [hm2, hm2, he]
theorem lay_again {d : Nat} {n : N} (hn : Nd d n) (h : frT n = 0) (q : LS) : layN n q = (n, q) := by
 rw [layN_eq, if_pos]
 rw [frT_eq hn] at h
 by_cases h0 : n.page ≠ 0
 ·exact .inl h0
 ·rw [if_neg h0] at h
  by_cases h1 : n.leaf = true ∧ n.l = []
  ·exact .inr h1
  ·rw [if_neg h1] at h; omega
theorem layO_t {k : Nat} {n : N} {at_ : List Int} {M : N} {R : List Int} {W : List (Int × ByteArray)} (hm : MayC n at_) (h : Ld k n at_ M R W) : layO n at_ = .tup [eT M, .sl 2 false (W.map dWb), dL R, dB true] := by
 unfold layO; rw [mayV_t hm, h.eq]; rfl
theorem layO_f {n : N} {at_ : List Int} (hm : ¬ MayC n at_) : layO n at_ = .tup [eT n, .sl 0 true [], .sl 0 true [], dB false] := by
 unfold layO; rw [mayV_f hm]; rfl
structure Cl (w0 : W0) (n : N) : Prop where
 node : ∀ S, ACall Tryz.prog w0 10 [eN n] S (fun e S' => e = eT n ∧ S' = S)
 plain : ∀ S, ACall Tryz.prog w0 13 [eT n] S (fun e S' => e = eN n ∧ S' = S)
 unused : ∀ S, ACall Tryz.prog w0 15 [eN n] S (fun e S' => e = dL (unuN n) ∧ S' = S)
 fresh : ∀ S, ACall Tryz.prog w0 16 [eN n] S (fun e S' => e = dI (frT n) ∧ S' = S)
 pages : ∀ S, ACall Tryz.prog w0 19 [eN n] S (fun e S' => e = dL (srt (alN n)) ∧ S' = S)
 same : ∀ S, ACall Tryz.prog w0 12 [eN n, eN n] S (fun e S' => e = dB true ∧ S' = S)
 ents : ∀ S, ACall Tryz.prog w0 17 [eN n] S (fun e S' => e = .sl 4 false ((entsN n).map dC) ∧ S' = S)
 tree : TreeL n
 al : (alN n).length ≤ 131072
 fr : frT n ≤ 131072
 en : (entsN n).length ≤ 131072
theorem cl_of (w0 : W0) {k : Nat} {n : N} (h : BT k n) (hk : k ≤ 116) : Cl w0 n := by
 obtain ⟨hr, d, hg, hd, ht⟩ := h.tb
 have hn := good_nd hg
 have htt : totN n ≤ 131072 := by omega
 have hpl := fun S => plainL19 w0 d n S hn htt
 rw [pl_good hg] at hpl
 have hpg := fun S => refPagesW w0 d n S hn htt
 rw [pgs_al hn] at hpg
 have h1 := al_len hn
 have h2 := frT_le hn
 have h3 := en_le hn
 exact ⟨fun S => nodeL19 w0 d n S hn htt, hpl, fun S => unusedL19 w0 d n S hn htt h.rng, fun S => freshR w0 d n S hn htt, hpg, fun S => sameR w0 d n S hn htt, fun S => entriesW w0 d n S hn htt, bt_treeL h hk, by omega, by omega, by unfold entsN; rw [List.length_map]; omega⟩
structure La (w0 : W0) (k : Nat) (n : N) (at_ : List Int) (A : N) (w : List (Int × ByteArray)) (r : List Int) (is : Bool) : Prop where
 prg : at_.length ≤ 1100 → ∀ S, ACall Tryz.prog w0 9 [eT n, dL at_] S (fun d S' => d = .tup [eT A, .sl 2 false (w.map dWb), dL r, dB is] ∧ S' = S)
 ref : at_.length ≤ 1100 → ∀ S, ACall Tryz.prog w0 11 [eN n, dL at_] S (fun d S' => d = .tup [eN A, .sl 2 false (w.map dWr), dL r, dB is] ∧ S' = S)
 cl : Cl w0 A
 wl : w.length ≤ 131072
 rl : r.length ≤ at_.length
 sz : ∀ x, x ∈ w → x.2.size = 128
theorem builtU (w0 : W0) (l : List S19) (S : St) (hl : l.length ≤ 1048576) : ACall Tryz.prog w0 8 [.sl 3 false (l.map dS19)] S (fun d S' => ∃ (n : N) (b : Bool) (M : N) (R : List Int) (W : List (Int × ByteArray)), d = .tup [eN n, dB b] ∧ BT 100 n ∧ Cl w0 n ∧ (frT n ≤ (unuN n).length → Ld 100 n (unuN n) M R W) ∧ S' = S) := by
 refine ACall.mono (built19 w0 l S hl) ?_
 rintro d S' ⟨n, b, rfl, hb, rfl⟩
 by_cases h : frT n ≤ (unuN n).length
 ·obtain ⟨M, R, W, hd⟩ := ld_of hb (unu_may0 hb h)
  exact ⟨n, b, M, R, W, rfl, hb, cl_of w0 hb (by omega), fun _ => hd, rfl⟩
 ·exact ⟨n, b, n, [], [], rfl, hb, cl_of w0 hb (by omega), fun e => absurd e h, rfl⟩
theorem Ld.wlen {k : Nat} {n : N} {at_ : List Int} {M : N} {R : List Int} {W : List (Int × ByteArray)} (h : Ld k n at_ M R W) (hl : frT n ≤ at_.length) : W.length = frT n := by
 have := congrArg List.length h.pg
 rw [List.length_map, List.length_take] at this
 omega
theorem Ld.rlen {k : Nat} {n : N} {at_ : List Int} {M : N} {R : List Int} {W : List (Int × ByteArray)} (h : Ld k n at_ M R W) : R.length = at_.length - frT n := by
 rw [h.left, List.length_drop]
theorem Ld.wr_at {k : Nat} {n : N} {at_ : List Int} {M : N} {R : List Int} {W : List (Int × ByteArray)} (h : Ld k n at_ M R W) {i : Nat} {x : Int × ByteArray} (hx : W[i]? = some x) : at_[i]? = some x.1 := by
 have e := congrArg (·[i]?) h.pg
 simp only [List.getElem?_map, hx, Option.map_some] at e
 rw [List.getElem?_take] at e
 split at e
 ·exact e.symm
 ·cases e
theorem layO_again {k : Nat} {n : N} (h : BT k n) (hf : frT n = 0) : layO n [] = .tup [eT n, .sl 2 false [], dL [], dB true] := by
 obtain ⟨d, hn⟩ := tl_nd h.tl
 have hm : MayC n [] := ⟨by rw [List.nil_append]; exact h.nd, fun p hp => by rw [List.nil_append] at hp; exact h.rng p hp, by rw [hf]; exact Nat.zero_le _⟩
 unfold layO; rw [mayV_t hm, lay_again hn hf]; rfl
theorem flt_noneL {A B : List Int} (h : ∀ p, p ∈ B → p ∈ A) : fltI A B = [] := by
 unfold fltI
 rw [List.filter_eq_nil_iff]
 intro p hp
 unfold hitI
 simp [h p hp]
end Go.Proofs.YtpcmnebpnpgcmaaGreatDoor
