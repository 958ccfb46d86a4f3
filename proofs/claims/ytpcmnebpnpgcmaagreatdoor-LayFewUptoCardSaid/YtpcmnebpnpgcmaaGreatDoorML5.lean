/-
  Putting and deleting keep trees that may be; their entries are the old ones with one more, or less: plain laws; Entries from a key on, by a stack of nodes and places; Numbers, sums and pages as texts: what the reference computes; Trees, as the program has them; Where a node is parted: what the program computes; Rows of the program's trees: cloned, put together, some of their places anew; Numbers and texts as bytes, rows of bytes put together: what the program computes; Sums of bytes by a table: what the program computes is what the reference does; Pages of cells: what the program computes is the reference's page; Statements whose order is open, walked in an order of one's own: what looks at no store, what reads the store of the beginning, what keeps it, what else there is; An own row as a box, and back; Entries of the model: strings compared, rows that lie apart; A scope out of which nothing jumps back; Nodes as pages: what the reference computes; Nodes as pages: what the program computes is the reference's; Long values as pages: what the reference computes; Long values as pages: what the program computes is the reference's. By an AI agent.
-/
import Derived.Test.YtpcmnebpnpgcmaaGreatDoorML4
import Derived.Lib.Bytealg
import Derived.Lib.Overlaps
set_option linter.unusedVariables false
set_option linter.unusedSimpArgs false
set_option maxRecDepth 100000
set_option maxHeartbeats 16000000
namespace Go.Proofs.YtpcmnebpnpgcmaaGreatDoor
open Aml Go
def insE (key val : ByteArray) (l : List C) : List C := l.filter (fun c => ltS c.key key) ++ .mk key val [] [] :: l.filter (fun c => ltS key c.key)
def delE (key : ByteArray) (l : List C) : List C := l.filter fun c => !eqS c.key key
theorem flt_all {p : C → Bool} {l : List C} (h : ∀ a, a ∈ l → p a = true) : l.filter p = l := List.filter_eq_self.2 h
theorem flt_no {p : C → Bool} {l : List C} (h : ∀ a, a ∈ l → p a = false) : l.filter p = [] := List.filter_eq_nil_iff.2 fun a ha => by rw [h a ha]; simp
theorem cut_at (key : ByteArray) : ∀ {l : List C}, Rise l → ∃ A B, l = A ++ B ∧ (∀ a, a ∈ A → ltS a.key key = true) ∧ ∀ b, b ∈ B → ltS b.key key = false
 | [], _ => ⟨[], [], rfl, fun a h => (by cases h), fun a h => (by cases h)⟩
 | c :: l, h => by
  unfold Rise at h
  rw [List.pairwise_cons] at h
  cases hc : ltS c.key key with
  | true =>
   obtain ⟨A, B, rfl, h1, h2⟩ := cut_at key h.2
   exact ⟨c :: A, B, rfl, fun a ha => by
    rcases List.mem_cons.1 ha with rfl | ha
    ·exact hc
    ·exact h1 a ha, h2⟩
  | false =>
   refine ⟨[], c :: l, rfl, fun a h => (by cases h), fun b hb => ?_⟩
   rcases List.mem_cons.1 hb with rfl | hb
   ·exact hc
   ·cases hb2 : ltS b.key key with
    | false => rfl
    | true => rw [ltS_trans (h.1 b hb) hb2] at hc; cases hc
theorem idx_app {A B : List C} {key : ByteArray} (h1 : ∀ a, a ∈ A → ltS a.key key = true) (h2 : ∀ b, b ∈ B → ltS b.key key = false) : idxN (A ++ B) key = A.length := by
 unfold idxN
 rw [List.takeWhile_append_of_pos h1]
 cases B with
 | nil => simp
 | cons b B => rw [List.takeWhile_cons, h2 b List.mem_cons_self]; simp
theorem leafPut_eq {l : List C} (h : Rise l) (key val : ByteArray) : leafPut l key val = insE key val l ∧ ((leafPut l key val).map (sizeC true)).sum ≤ (l.map (sizeC true)).sum + sizeC true (.mk key val [] []) - (if (l.any fun c => eqS c.key key) then ((l.filter fun c => eqS c.key key).map (sizeC true)).sum else 0) := by
 obtain ⟨A, B, rfl, h1, h2⟩ := cut_at key h
 have hA : (A.any fun c => eqS c.key key) = false := List.any_eq_false.2 fun a ha => by
  have := ltS_ne (h1 a ha)
  rw [← eqS_no] at this
  rw [this]; simp
 have hA2 : (A.filter fun c => eqS c.key key) = [] := flt_no fun a ha => by rw [eqS_no]; exact ltS_ne (h1 a ha)
 have hi := idx_app h1 h2
 unfold leafPut insE
 simp only [hi]
 rw [List.filter_append, List.filter_append, flt_all h1, flt_no h2, flt_no (l := A) fun a ha => ltS_asymm (h1 a ha), List.append_nil, List.nil_append, List.any_append, hA, Bool.false_or, List.filter_append, hA2, List.nil_append]
 cases B with
 | nil => simp
 | cons b B =>
  have hb : ∀ b', b' ∈ B → ltS b.key b'.key = true := by
   unfold Rise at h
   rw [pw_app, List.pairwise_cons] at h
   exact h.2.1.1
  have hge := h2 b List.mem_cons_self
  rw [List.getElem?_append_right (Nat.le_refl _), Nat.sub_self, List.getElem?_cons_zero]
  simp only
  by_cases e : b.key = key
  ·rw [if_pos (eqS_iff.2 e), withC_app]
   have hB : ∀ b', b' ∈ B → ltS key b'.key = true := fun b' hb' => e ▸ hb b' hb'
   have hB2 : (B.filter fun c => eqS c.key key) = [] := flt_no fun a ha => by rw [eqS_no]; exact (ltS_ne (hB a ha)).symm
   rw [List.filter_cons, e, ltS_irrefl, if_neg (by simp), flt_all hB, List.any_cons, eqS_iff.2 e, Bool.true_or, if_pos rfl, List.filter_cons, if_pos (eqS_iff.2 e), hB2]
   refine ⟨by simp, ?_⟩
   simp only [List.map_append, List.sum_append, List.map_cons, List.map_nil, List.sum_cons, List.sum_nil]
   omega
  ·rw [if_neg (by rw [eqS_iff]; exact e)]
   have hlt : ltS key b.key = true := by
    rcases ltS_tri key b.key with h | h | h
    ·exact h
    ·exact absurd h.symm e
    ·rw [hge] at h; cases h
   have hB : ∀ b', b' ∈ b :: B → ltS key b'.key = true := fun b' hb' => by
    rcases List.mem_cons.1 hb' with rfl | hb'
    ·exact hlt
    ·exact ltS_trans hlt (hb b' hb')
   have hany : ((b :: B).any fun c => eqS c.key key) = false := List.any_eq_false.2 fun a ha => by
    have := (ltS_ne (hB a ha)).symm
    rw [← eqS_no] at this
    rw [this]; simp
   rw [List.take_left', List.drop_left', flt_all hB, hany]
   ·refine ⟨by simp, ?_⟩
    simp only [List.map_append, List.sum_append, List.map_cons, List.map_nil, List.sum_cons, List.sum_nil, Bool.false_eq_true, if_false]
    omega
   ·rfl
   ·rfl
theorem rise_filter {l : List C} (h : Rise l) (p : C → Bool) : Rise (l.filter p) := List.Pairwise.filter p h
theorem rise_ins {l : List C} (h : Rise l) (key val : ByteArray) : Rise (insE key val l) := by
 unfold insE Rise
 rw [pw_app, List.pairwise_cons]
 refine ⟨rise_filter h _, ⟨fun b hb => ?_, rise_filter h _⟩, fun a ha b hb => ?_⟩
 ·exact (List.mem_filter.1 hb).2
 ·have h1 : ltS a.key key = true := (List.mem_filter.1 ha).2
  rcases List.mem_cons.1 hb with rfl | hb
  ·exact h1
  ·exact ltS_trans h1 (List.mem_filter.1 hb).2
theorem mem_ins {key val : ByteArray} {l : List C} {x : C} (h : x ∈ insE key val l) : x ∈ l ∨ x = .mk key val [] [] := by
 rcases List.mem_append.1 h with h | h
 ·exact .inl (List.mem_filter.1 h).1
 ·rcases List.mem_cons.1 h with h | h
  ·exact .inr h
  ·exact .inl (List.mem_filter.1 h).1
theorem ins_mid {key val : ByteArray} {A B M : List C} (h1 : ∀ a, a ∈ A → ltS a.key key = true) (h2 : ∀ b, b ∈ B → ltS key b.key = true) : insE key val (A ++ M ++ B) = A ++ insE key val M ++ B := by
 unfold insE
 rw [List.filter_append, List.filter_append, List.filter_append, List.filter_append, flt_all h1, flt_no (l := B) fun b hb => ltS_asymm (h2 b hb), flt_no (l := A) fun a ha => ltS_asymm (h1 a ha), flt_all h2]
 simp
theorem del_mid {key : ByteArray} {A B M : List C} (h1 : ∀ a, a ∈ A → ltS a.key key = true) (h2 : ∀ b, b ∈ B → ltS key b.key = true) : delE key (A ++ M ++ B) = A ++ delE key M ++ B := by
 unfold delE
 rw [List.filter_append, List.filter_append, flt_all (l := A) fun a ha => by rw [eqS_no.2 (ltS_ne (h1 a ha))]; rfl, flt_all (l := B) fun b hb => by rw [eqS_no.2 (ltS_ne (h2 b hb)).symm]; rfl]
theorem wayF_spec (l : List C) (key : ByteArray) : ∀ i, i < l.length → (wayF l key i = 0 ∨ ∃ c, l[wayF l key i]? = some c ∧ leS c.key key = true) ∧ ∀ j c, wayF l key i < j → j ≤ i → l[j]? = some c → leS c.key key = false
 | 0, _ => ⟨.inl rfl, fun j c h1 h2 => by simp only [wayF] at h1; omega⟩
 | i + 1, hi => by
  obtain ⟨h1, h2⟩ := wayF_spec l key i (by omega)
  have hx : l[i + 1]? = some l[i + 1] := List.getElem?_eq_getElem hi
  cases hle : leS l[i + 1].key key with
  | true =>
   have e : wayF l key (i + 1) = i + 1 := by simp only [wayF, hx, hle, if_true]
   rw [e]
   exact ⟨.inr ⟨_, hx, hle⟩, fun j c h3 h4 => by omega⟩
  | false =>
   have e : wayF l key (i + 1) = wayF l key i := by simp only [wayF, hx, hle, Bool.false_eq_true, if_false]
   rw [e]
   refine ⟨h1, fun j c h3 h4 hc => ?_⟩
   rcases Nat.lt_or_ge i j with h | h
   ·have : j = i + 1 := by omega
    subst this
    rw [hx] at hc; cases hc; exact hle
   ·exact h2 j c h3 h hc
theorem way_split {G : N → Prop} {l : List C} (h : BrG G l) (hn : l ≠ []) (key : ByteArray) : ∃ A c B, l = A ++ c :: B ∧ A.length = way l key ∧ (∀ a, a ∈ A → ∀ x, x ∈ enC false a → ltS x.key key = true) ∧ leS c.key key = true ∧ ∀ b, b ∈ B → ltS key b.key = true := by
 have hpos := List.length_pos_iff.2 hn
 have hw := way_lt hn key
 obtain ⟨h1, h2⟩ := wayF_spec l key (l.length - 1) (by omega)
 have hwd : way l key = wayF l key (l.length - 1) := rfl
 rw [← hwd] at h1 h2
 have hsp : l = l.take (way l key) ++ l[way l key] :: l.drop (way l key + 1) := by
  rw [← List.drop_eq_getElem_cons hw, List.take_append_drop]
 have hle : leS l[way l key].key key = true := by
  rcases h1 with h1 | ⟨c, hc, h1⟩
  ·have hk := h.k0
   have : l[way l key].key = noS := by
    rw [← hk]
    cases l with
    | nil => exact absurd rfl hn
    | cons a t => simp [h1, keyOf]
   rw [this]; exact noS_le _
  ·rw [List.getElem?_eq_getElem hw] at hc
   cases hc; exact h1
 have hpw := h.pw
 rw [hsp, pw_app] at hpw
 refine ⟨_, _, _, hsp, by rw [List.length_take]; omega, fun a ha x hx => ltS_leS ((hpw.2.2 a ha _ List.mem_cons_self).2 x hx) hle, hle, fun b hb => ?_⟩
 obtain ⟨j, hj⟩ := List.mem_iff_getElem?.1 hb
 rw [List.getElem?_drop] at hj
 exact leS_no.1 (h2 _ b (by omega) (by have := (List.getElem?_eq_some_iff.1 hj).1; omega) hj)
theorem brG_lt {d : Nat} {A B : List C} {c : C} (h : BrG (Good d) (A ++ c :: B)) {key : ByteArray} (hB : ∀ b, b ∈ B → ltS key b.key = true) : ∀ x, x ∈ B.flatMap (enC false) → ltS key x.key = true := fun x hx => by
 obtain ⟨b, hb, hx⟩ := List.mem_flatMap.1 hx
 exact ltS_leS (hB b hb) ((h.cell b (by simp [hb])).2.1 x hx)
theorem fits_two {d : Nat} {k : N} (h : Good d k) (hf : Fits k) : k.leaf = true ∨ 2 ≤ k.l.length := by
 cases d with
 | zero => exact .inl h.1
 | succ d =>
  refine .inr ?_
  have hs := good_sizes h
  rw [if_neg (by omega)] at hs
  have h30 := hf.1
  unfold sizesN at hs h30
  match hl : k.l, hs, h30 with
  | [], _, h30 => simp at h30
  | [c], hs, h30 =>
   have := hs (sizeC k.leaf c) (by simp)
   simp at h30; omega
  | _ :: _ :: _, _, _ => simp
theorem pre_kid {d : Nat} {A B : List C} {c : C} {kid : N} (h : BrG (Good d) (A ++ c :: B)) (k' : N) (hg : Good d k') (hs : (sizesN k').sum ≤ 167) (hk : c.kid = [kid]) (hlo : ∀ x, x ∈ enN k' → leS c.key x.key = true) (hup : ∀ x, x ∈ enN k' → ∀ b, b ∈ B → ltS x.key b.key = true) : Pre d A (cellN c.key k') B := by
 obtain ⟨p1, p2, p3⟩ := pw_app.1 h.pw
 rw [List.pairwise_cons] at p2
 refine ⟨?_, pw_app.2 ⟨p1, List.pairwise_cons.2 ⟨fun b hb => ⟨(p2.1 b hb).1, fun x hx => ?_⟩, p2.2⟩, fun a ha b hb => ?_⟩, fun x hx => h.cell x (by simp [hx]), fun x hx => h.cell x (by simp [hx]), ⟨(h.cell c (by simp)).1.1, rfl, rfl⟩, fun x hx => ?_, k', rfl, hg, hs⟩
 ·rw [← h.k0]; exact keyOf_app rfl (by simp) (by simp)
 ·rw [enC_cell] at hx; exact hup x hx b hb
 ·rcases List.mem_cons.1 hb with rfl | hb
  ·exact p3 a ha c List.mem_cons_self
  ·exact p3 a ha b (List.mem_cons_of_mem _ hb)
 ·rw [enC_cell] at hx; exact hlo x hx
theorem Mended.good {d : Nat} {L : List C} {m : N} (h : Mended d L m) : Good (d + 1) m := ⟨h.leaf, h.ne, h.br⟩
theorem sizes_leaf {n : N} (h : n.leaf = true) : sizesN n = n.l.map (sizeC true) := by unfold sizesN; rw [h]
theorem sizes_branch {n : N} (h : n.leaf = false) : sizesN n = n.l.map (sizeC false) := by unfold sizesN; rw [h]
theorem ends_two {A B : List C} {c : C} (h : 2 ≤ (A ++ c :: B).length) : A ≠ [] ∨ B ≠ [] := by
 rcases A with _ | ⟨a, A⟩
 ·right; rintro rfl; simp at h
 ·exact .inl (by simp)
theorem put_good {key val : ByteArray} (hk0 : key ≠ noS) (hk : key.size ≤ 16) (hv : val.size ≤ 400) : ∀ {d : Nat} {n : N}, Good d n → (sizesN n).sum ≤ 122 → n.leaf = true ∨ 2 ≤ n.l.length → Good d (putN key val n) ∧ (sizesN (putN key val n)).sum ≤ 157 ∧ enN (putN key val n) = insE key val (enN n)
 | 0, n, h, hs, h2 => by
  rw [putN_leaf _ _ _ h.1, en_leaf h.1, enN_mk, flat_leaf, sizes_mk]
  rw [sizes_leaf h.1] at hs
  obtain ⟨e1, e2⟩ := leafPut_eq h.2.1 key val
  have h35 := (size_leaf (c := .mk key val [] []) ⟨hk, hv⟩).2
  refine ⟨⟨rfl, ?_, fun c hc => ?_⟩, ?_, e1⟩
  ·show Rise (leafPut n.l key val)
   rw [e1]; exact rise_ins h.2.1 key val
  ·rcases leafPut_mem hc with hc | rfl
   ·exact h.2.2 c hc
   ·exact ⟨hk0, hk, hv, fun e => absurd rfl e, by simp [C.pages], rfl⟩
  ·have hpos : 0 ≤ ((n.l.filter fun c => eqS c.key key).map (sizeC true)).sum := sum_pos fun x hx => by
    obtain ⟨c, hc, rfl⟩ := List.mem_map.1 hx
    obtain ⟨_, w2, w3, _⟩ := h.2.2 c (List.mem_filter.1 hc).1
    exact (size_leaf ⟨w2, w3⟩).1
   split at e2 <;> omega
 | d + 1, n, h, hs, h2 => by
  have hB := h.2.2
  have h2 := h2.resolve_left (by rw [h.1]; simp)
  obtain ⟨A, c, B, hl, hw, hA, hc, hBk⟩ := way_split hB h.2.1 key
  have hcl : n.l[way n.l key]? = some c := by rw [← hw]; conv => lhs; rw [hl]
                                              simp
  have hcm : c ∈ n.l := List.mem_of_getElem? hcl
  obtain ⟨o1, o2, kid, hkid, o4, o5⟩ := hB.cell c hcm
  obtain ⟨g1, g2, g3⟩ := put_good hk0 hk hv o4 o5.2 (fits_two o4 o5)
  rw [putN_br _ _ _ h.1 hcl hkid, ← hw]
  rw [sizes_branch h.1] at hs
  have hen : enN n = A.flatMap (enC false) ++ enN kid ++ B.flatMap (enC false) := by rw [enN_eq, h.1, hl, List.flatMap_append, List.flatMap_cons, enC_br hkid, List.append_assoc]
  rw [hl] at hB hs h2 ⊢
  rw [withC_app, List.append_assoc, List.singleton_append]
  rw [enC_br hkid] at o2
  obtain ⟨p1, p2, p3⟩ := pw_app.1 hB.pw
  rw [List.pairwise_cons] at p2
  have hP := pre_kid hB (putN key val kid) g1 (by omega) hkid (fun x hx => by
   rw [g3] at hx
   rcases mem_ins hx with hx | rfl
   ·exact o2 x hx
   ·exact hc) fun x hx b hb => by
   rw [g3] at hx
   rcases mem_ins hx with hx | rfl
   ·exact (p2.1 b hb).2 x (by rw [enC_br hkid]; exact hx)
   ·exact hBk b hb
  have hm := mend_ok hP (ends_two h2)
  refine ⟨hm.good, ?_, ?_⟩
  ·have := hm.sum
   simp only [List.map_append, List.map_cons, List.sum_append, List.sum_cons, size_br, cellN, C.key_mk] at this hs
   simp only [cellN]
   omega
  ·rw [hm.en, hen, ins_mid, List.flatMap_append, List.flatMap_cons, enC_cell, g3, List.append_assoc]
   ·intro a ha
    obtain ⟨a', ha', hx⟩ := List.mem_flatMap.1 ha
    exact hA a' ha' a hx
   ·exact brG_lt hB hBk
theorem without_good {key : ByteArray} : ∀ {d : Nat} {n : N}, Good d n → (sizesN n).sum ≤ 122 → n.leaf = true ∨ 2 ≤ n.l.length → Good d (withoutN key n) ∧ (sizesN (withoutN key n)).sum ≤ 142 ∧ enN (withoutN key n) = delE key (enN n)
 | 0, n, h, hs, h2 => by
  rw [withoutN_leaf _ _ h.1, en_leaf h.1, enN_mk, flat_leaf, sizes_mk]
  rw [sizes_leaf h.1] at hs
  refine ⟨⟨rfl, rise_filter h.2.1 _, fun c hc => h.2.2 c (List.mem_filter.1 hc).1⟩, ?_, rfl⟩
  have : ∀ l : List C, (∀ c, c ∈ l → ShL c) → ((l.filter fun c => !eqS c.key key).map (sizeC true)).sum ≤ (l.map (sizeC true)).sum := by
   intro l
   induction l with
   | nil => intro _; exact Int.le_refl _
   | cons c l ih =>
    intro hl
    have h1 := ih fun c hc => hl c (List.mem_cons_of_mem _ hc)
    obtain ⟨_, w2, w3, _⟩ := hl c List.mem_cons_self
    have := (size_leaf ⟨w2, w3⟩).1
    rw [List.filter_cons, List.map_cons, List.sum_cons]
    split
    ·rw [List.map_cons, List.sum_cons]; omega
    ·omega
  have := this n.l h.2.2
  omega
 | d + 1, n, h, hs, h2 => by
  have hB := h.2.2
  have h2 := h2.resolve_left (by rw [h.1]; simp)
  obtain ⟨A, c, B, hl, hw, hA, hc, hBk⟩ := way_split hB h.2.1 key
  have hcl : n.l[way n.l key]? = some c := by rw [← hw]; conv => lhs; rw [hl]
                                              simp
  have hcm : c ∈ n.l := List.mem_of_getElem? hcl
  obtain ⟨o1, o2, kid, hkid, o4, o5⟩ := hB.cell c hcm
  obtain ⟨g1, g2, g3⟩ := without_good (key := key) o4 o5.2 (fits_two o4 o5)
  rw [withoutN_br _ _ h.1 hcl hkid, ← hw]
  rw [sizes_branch h.1] at hs
  have hen : enN n = A.flatMap (enC false) ++ enN kid ++ B.flatMap (enC false) := by rw [enN_eq, h.1, hl, List.flatMap_append, List.flatMap_cons, enC_br hkid, List.append_assoc]
  rw [hl] at hB hs h2 ⊢
  have hset : (A ++ c :: B).set A.length (.mk c.key c.data c.pages [withoutN key kid]) = A ++ cellN c.key (withoutN key kid) :: B := by
   rw [List.set_append_right _ _ (Nat.le_refl _), Nat.sub_self, List.set_cons_zero, o1.2.1, o1.2.2]; rfl
  rw [hset]
  rw [enC_br hkid] at o2
  obtain ⟨p1, p2, p3⟩ := pw_app.1 hB.pw
  rw [List.pairwise_cons] at p2
  have hP := pre_kid hB (withoutN key kid) g1 (by omega) hkid (fun x hx => by
   rw [g3] at hx
   exact o2 x (List.mem_filter.1 hx).1) fun x hx b hb => by
   rw [g3] at hx
   exact (p2.1 b hb).2 x (by rw [enC_br hkid]; exact (List.mem_filter.1 hx).1)
  have hm := mend_ok hP (ends_two h2)
  refine ⟨hm.good, ?_, ?_⟩
  ·have := hm.sum
   simp only [List.map_append, List.map_cons, List.sum_append, List.sum_cons, size_br, cellN, C.key_mk] at this hs
   simp only [cellN]
   omega
  ·rw [hm.en, hen, del_mid, List.flatMap_append, List.flatMap_cons, enC_cell, g3, List.append_assoc]
   ·intro a ha
    obtain ⟨a', ha', hx⟩ := List.mem_flatMap.1 ha
    exact hA a' ha' a hx
   ·exact brG_lt hB hBk
def RootG (n : N) : Prop := ∃ d, Good d n ∧ (sizesN n).sum ≤ 122 ∧ (n.leaf = true ∨ 2 ≤ n.l.length)
theorem top_good : ∀ {d : Nat} {n : N}, Good d n → (sizesN n).sum ≤ 167 → RootG (topN n) ∧ enN (topN n) = enN n := by
 have one : ∀ {d : Nat} {n : N}, Good d n → (sizesN n).sum ≤ 167 → n.leaf = true ∨ n.l.length ≠ 1 → RootG (topN n) ∧ enN (topN n) = enN n := by
  intro d n h hs h1
  rw [topN_else _ h1]
  have hP : Pre d [] (cellN noS n) [] := ⟨rfl, List.pairwise_singleton _ _, fun x hx => (by cases hx), fun x hx => (by cases hx), ⟨by show noS.size ≤ 16; rw [noS_size]; omega, rfl, rfl⟩, fun x hx => noS_le _, n, rfl, h, hs⟩
  rcases parted_ok (p := 0) hP (kid := n) rfl (m := partedN (.mk 0 false [cellN noS n]) n 0 noS) rfl with ⟨q1, q2, q3⟩ | ⟨q1, q2, q3, q4, q5, q6, q7⟩
  ·rw [if_pos (atR_zero q3)]
   refine ⟨⟨d, h, q3, ?_⟩, rfl⟩
   rcases h1 with h1 | h1
   ·exact .inl h1
   ·cases hl : n.leaf with
    | true => exact .inl rfl
    | false =>
     refine .inr ?_
     cases d with
     | zero => have := h.1; rw [hl] at this; cases this
     | succ d => have := List.length_pos_iff.2 h.2.1; omega
  ·have hne : atR (sizesN n) ≠ 0 := by
    intro e
    unfold partedN at q1
    simp only [e, if_true] at q1
    cases q1
   rw [if_neg hne]
   have hmd : mendN (.mk 0 false [cellN noS n]) 0 = (partedN (.mk 0 false [cellN noS n]) n 0 noS).1 := by
    have e1 : cellAt [cellN noS n] 0 = cellN noS n := rfl
    have e2 : kid0 (cellN noS n) = n := rfl
    have e3 : (cellN noS n).key = noS := rfl
    unfold mendN
    simp only [N.l_mk, e1, e2, e3]
    rw [if_pos q1]
   rw [hmd]
   have he : enN (partedN (.mk 0 false [cellN noS n]) n 0 noS).1 = enN n := by
    have := q5
    simp only [List.nil_append, List.flatMap_cons, List.flatMap_nil, List.append_nil, enC_cell] at this
    exact this
   have hlen : (partedN (.mk 0 false [cellN noS n]) n 0 noS).1.l.length = 2 := by simpa using q3
   refine ⟨⟨d + 1, ⟨q2, by intro e; rw [e] at hlen; simp at hlen, q4⟩, ?_, .inr (by omega)⟩, he⟩
   have : (sizesN (partedN (.mk 0 false [cellN noS n]) n 0 noS).1).sum ≤ (([] ++ cellN noS n :: []).map (sizeC false)).sum + 20 := q7
   have e4 : (([] ++ cellN noS n :: []).map (sizeC false)).sum = 4 := by
    simp only [List.nil_append, List.map_cons, List.map_nil, List.sum_cons, List.sum_nil, size_br, cellN, C.key_mk, noS_size]; omega
   omega
 intro d
 induction d with
 | zero => intro n h hs; exact one h hs (.inl h.1)
 | succ d ih =>
  intro n h hs
  by_cases h1 : n.l.length = 1
  ·obtain ⟨c, hc⟩ := List.length_eq_one_iff.1 h1
   obtain ⟨_, _, k, hk, hg, hf⟩ := h.2.2.cell c (by rw [hc]; exact List.mem_singleton_self c)
   rw [topN_one n h.1 hc hk]
   obtain ⟨i1, i2⟩ := ih hg (by have := hf.2; omega)
   refine ⟨i1, ?_⟩
   rw [i2, enN_eq n, h.1, hc, List.flatMap_cons, List.flatMap_nil, enC_br hk, List.append_nil]
  ·exact one h hs (.inr h1)
theorem root_put {key val : ByteArray} (hk0 : key ≠ noS) (hk : key.size ≤ 16) (hv : val.size ≤ 400) {n : N} (h : RootG n) : RootG (Put key val n) ∧ enN (Put key val n) = insE key val (enN n) := by
 obtain ⟨d, h1, h2, h3⟩ := h
 obtain ⟨g1, g2, g3⟩ := put_good hk0 hk hv h1 h2 h3
 obtain ⟨t1, t2⟩ := top_good g1 (by omega)
 exact ⟨t1, t2.trans g3⟩
theorem find_good (key : ByteArray) : ∀ {d : Nat} {n : N}, Good d n → findN key n = ((enN n).find? fun c => eqS c.key key).map C.data
 | 0, n, h => by rw [findN_leaf _ _ h.1, en_leaf h.1]
 | d + 1, n, h => by
  have hB := h.2.2
  obtain ⟨A, c, B, hl, hw, hA, hc, hBk⟩ := way_split hB h.2.1 key
  have hcl : n.l[way n.l key]? = some c := by rw [← hw]; conv => lhs; rw [hl]
                                              simp
  obtain ⟨o1, o2, kid, hkid, o4, o5⟩ := hB.cell c (List.mem_of_getElem? hcl)
  have hen : enN n = A.flatMap (enC false) ++ (enN kid ++ B.flatMap (enC false)) := by rw [enN_eq, h.1, hl, List.flatMap_append, List.flatMap_cons, enC_br hkid]
  rw [findN_br _ _ h.1 hcl hkid, find_good key o4, hen, List.find?_append, List.find?_append]
  rw [hl] at hB
  have f1 : (A.flatMap (enC false)).find? (fun c => eqS c.key key) = none := List.find?_eq_none.2 fun x hx => by
   obtain ⟨a, ha, hx⟩ := List.mem_flatMap.1 hx
   rw [eqS_no.2 (ltS_ne (hA a ha x hx))]; simp
  have f2 : (B.flatMap (enC false)).find? (fun c => eqS c.key key) = none := List.find?_eq_none.2 fun x hx => by
   rw [eqS_no.2 (ltS_ne (brG_lt hB hBk x hx)).symm]; simp
  rw [f1, f2]
  cases (enN kid).find? fun c => eqS c.key key <;> rfl
theorem del_none {key : ByteArray} {l : List C} (h : (l.find? fun c => eqS c.key key) = none) : delE key l = l := flt_all fun a ha => by
 have := List.find?_eq_none.1 h a ha
 simpa using this
theorem root_del (key : ByteArray) {n : N} (h : RootG n) : RootG (Del key n) ∧ enN (Del key n) = delE key (enN n) := by
 obtain ⟨d, h1, h2, h3⟩ := h
 unfold Del
 have hf := find_good key h1
 split
 ·obtain ⟨g1, g2, g3⟩ := without_good (key := key) h1 h2 h3
  obtain ⟨t1, t2⟩ := top_good g1 (by omega)
  exact ⟨t1, t2.trans g3⟩
 ·rename_i hn
  refine ⟨⟨d, h1, h2, h3⟩, (del_none ?_).symm⟩
  rw [hf] at hn
  cases hx : (enN n).find? fun c => eqS c.key key with
  | none => rfl
  | some c => rw [hx] at hn; simp at hn
end Go.Proofs.YtpcmnebpnpgcmaaGreatDoor
namespace Go.Proofs.YtpcmnebpnpgcmaaGreatDoor
open Aml Go
end Go.Proofs.YtpcmnebpnpgcmaaGreatDoor
namespace Go.Proofs.YtpcmnebpnpgcmaaGreatDoor
open Aml Go
@[go_sem] theorem s_add (a b : ByteArray) (K : DV → Prop) : vBinS .add a b K = (a.size + b.size ≤ 9223372036854775807 ∧ K (.v (.string (a ++ b)))) := rfl
@[go_sem] theorem by_one (x : Int) : byD [.v (.int .u8 x)] = [x] := rfl
@[go_sem] theorem okBy_one (x : Int) : okBy [.v (.int .u8 x)] = true := rfl
@[go_sem] theorem by_two (x y : Int) : byD [.v (.int .u8 x), .v (.int .u8 y)] = [x, y] := rfl
@[go_sem] theorem okBy_two (x y : Int) : okBy [.v (.int .u8 x), .v (.int .u8 y)] = true := rfl
def numX : Nat → Int → Int
 | 0, x => x
 | i + 1, x => IntKind.u64.wrap ((numX i x).tdiv 256)
def numS : Nat → Int → ByteArray
 | 0, _ => noS
 | i + 1, x => strOfNums [IntKind.u8.wrap (numX i x)] ++ numS i x
theorem numS_size : ∀ (k : Nat) (x : Int), (numS k x).size = k
 | 0, _ => noS_size
 | k + 1, x => by
  rw [numS, ByteArray.size_append, numS_size k x, strOfNums_size]
  simp; omega
theorem numR (w0 : W0) (x : Int) (k : Nat) (S : St) (h0 : 1 ≤ k) (h1 : k ≤ 8) : ACall Tryz.prog w0 130 [dU x, dI k] S (fun d S' => d = dS (numS k x) ∧ S' = S) := by
 refine fnS [] mx Tryz.func130 rfl rfl (by kernel_rfl) ?_; (refine @goW _ ?_; refine goS1 @Tryz.ntmps130 ?_)
 refine ⟨fun h => absurd h (by omega), fun _ => ⟨fun h => absurd h (by omega), fun _ => ?_⟩⟩
 refine loopN [] k [0, 1, 5, 6] (fun i => [(0, dU (numX i x)), (5, dS (numS i x)), (6, dI i)]) (fun _ => S) (fun _ => True) mx (by kernel_rfl) ?_ ?_
 ·(refine @goW _ ?_; refine goS ?_)
  exact ⟨rfl, rfl⟩
 ·intro i hi _
  have hs := numS_size i x
  have hz : (strOfNums [IntKind.u8.wrap (numX i x)]).size = 1 := strOfNums_size _
  (refine @goW _ ?_; refine goS1 @hz ?_)
  refine ⟨fun hlt => ⟨by omega, hlt, rfl, rfl, by rw [w64 (by omega) (by omega)]; rfl⟩, fun hge => by rw [show i = k by omega]⟩
def bitI (x : Int) : Int := if x.tmod 2 = 1 then bitD .xor .u32 (IntKind.u32.wrap (x.tdiv 2)) 3988292384 else IntKind.u32.wrap (x.tdiv 2)
def bitsI : Nat → Int → Int
 | 0, x => x
 | k + 1, x => bitI (bitsI k x)
def bytI (s : ByteArray) : List Int := s.data.toList.map fun c => (c.toNat : Int)
theorem bytI_len (s : ByteArray) : (bytI s).length = s.size := by unfold bytI; rw [List.length_map]; rfl
def crcF (l : List Int) (x : Int) : Int := l.foldl (fun x c => bitsI 8 (bitD .xor .u32 x (IntKind.u32.wrap c))) x
def onS (x : Int) (s : ByteArray) : Int := IntKind.u32.wrap (4294967295 - crcF (bytI s) (IntKind.u32.wrap (4294967295 - x)))
theorem onR (w0 : W0) (x : Int) (s : ByteArray) (S : St) (h : s.size ≤ 1048576) : ACall Tryz.prog w0 155 [.v (.int .u32 x), dS s] S (fun d S' => d = .v (.int .u32 (onS x s)) ∧ S' = S) := by
 refine fnS [] mx Tryz.func155 rfl rfl (by kernel_rfl) ?_; (refine @goW _ ?_; refine goS1 @Tryz.ntmps155 ?_)
 refine loopN [] s.size [1, 5, 6] (fun i => [(5, .v (.int .u32 (crcF ((bytI s).take i) (IntKind.u32.wrap (4294967295 - x))))), (6, dI i)]) (fun _ => S) (fun _ => True) mx (by kernel_rfl) ?_ ?_
 ·(refine @goW _ ?_; refine goS ?_)
  rfl
 ·intro i hi _
  (refine @goW _ ?_; refine goS ?_)
  refine ⟨fun hlt => ⟨hlt, fun c hc => ?_⟩, fun hge => by rw [List.take_of_length_le (by rw [bytI_len]; omega)]; rfl⟩
  have hs : (bytI s).take (i + 1) = (bytI s).take i ++ [(c.toNat : Int)] := by
   rw [List.take_add_one]; unfold bytI; rw [List.getElem?_map, hc]; rfl
  have hX : crcF ((bytI s).take (i + 1)) (IntKind.u32.wrap (4294967295 - x)) = bitsI 8 (bitD .xor .u32 (crcF ((bytI s).take i) (IntKind.u32.wrap (4294967295 - x))) (IntKind.u32.wrap (c.toNat : Int))) := by
   rw [hs]; unfold crcF; rw [List.foldl_append]; rfl
  rw [hX]
  generalize bitD .xor .u32 (crcF ((bytI s).take i) (IntKind.u32.wrap (4294967295 - x))) (IntKind.u32.wrap (c.toNat : Int)) = X
  refine loopN [] 8 [1, 5, 6, 7] (fun j => [(5, .v (.int .u32 (bitsI j X))), (7, dI j)]) (fun _ => S) (fun _ => True) mx (by kernel_rfl) ?_ ?_
  ·(refine @goW _ ?_; refine goS ?_)
   rfl
  ·intro j hj _
   (refine @goW _ ?_; refine goS ?_)
   have e1 : (bitsI j X).tmod 2 = 1 → bitsI (j + 1) X = bitD .xor .u32 (IntKind.u32.wrap ((bitsI j X).tdiv 2)) 3988292384 := fun h => if_pos h
   have e2 : ¬ (bitsI j X).tmod 2 = 1 → bitsI (j + 1) X = IntKind.u32.wrap ((bitsI j X).tdiv 2) := fun h => if_neg h
   refine ⟨fun hlt2 => ⟨fun hb => ⟨by omega, (e1 hb).symm, by rw [w64 (by omega) (by omega)]; rfl⟩, fun hb => ⟨by omega, (e2 hb).symm, by rw [w64 (by omega) (by omega)]; rfl⟩⟩, fun hge => ⟨hlt, by rw [show j = 8 by omega], by rw [w64 (by omega) (by omega)]; rfl⟩⟩
theorem ofR (w0 : W0) (s : ByteArray) (S : St) (h : s.size ≤ 1048576) : ACall Tryz.prog w0 134 [dS s] S (fun d S' => d = .v (.int .u32 (onS 0 s)) ∧ S' = S) := by
 refine fnS [] mx Tryz.func134 rfl rfl (by kernel_rfl) ?_; (refine @goW _ ?_; refine goS1 @Tryz.ntmps134 ?_)
 refine use1 (onR w0 0 s _ h) ?_
 (refine @goW _ ?_; exact goT)
def textS (s : ByteArray) : ByteArray := numS 1 (IntKind.u64.wrap (s.size : Int)) ++ s
theorem textS_size (s : ByteArray) : (textS s).size = 1 + s.size := by unfold textS; rw [ByteArray.size_append, numS_size]
theorem textR (w0 : W0) (s : ByteArray) (S : St) (h : s.size ≤ 255) : ACall Tryz.prog w0 135 [dS s] S (fun d S' => d = dS (textS s) ∧ S' = S) := by
 refine fnS [] mx Tryz.func135 rfl rfl (by kernel_rfl) ?_; (refine @goW _ ?_; refine goS1 @Tryz.ntmps135 ?_)
 refine ⟨fun h => absurd h (by omega), fun _ => ?_⟩
 refine use1 (numR w0 _ 1 _ (by omega) (by omega)) ?_
 have hz := numS_size 1 (IntKind.u64.wrap (s.size : Int))
 (refine @goW _ ?_; refine goS1 @hz ?_)
 refine ⟨by omega, ?_⟩
 rfl
def sizS (l : List ByteArray) : Nat := (l.map fun s => s.size + 1).sum
theorem sizS_take (l : List ByteArray) (k : Nat) : sizS (l.take k) ≤ sizS l := by
 have := congrArg sizS (List.take_append_drop k l)
 simp only [sizS, List.map_append, List.sum_append] at this ⊢
 omega
theorem sizS_succ {l : List ByteArray} {k : Nat} {s : ByteArray} (h : l[k]? = some s) : sizS (l.take (k + 1)) = sizS (l.take k) + s.size + 1 := by
 unfold sizS
 rw [List.take_add_one, h]; simp; omega
theorem sizR (w0 : W0) (l : List ByteArray) (S : St) (h : sizS l ≤ 1048576) (hl : l.length ≤ 1048576) : ACall Tryz.prog w0 133 [.sl 1 false (l.map dS)] S (fun d S' => d = dI (sizS l) ∧ S' = S) := by
 refine fnS [] mx Tryz.func133 rfl rfl (by kernel_rfl) ?_; (refine @goW _ ?_; refine goS1 @Tryz.ntmps133 ?_)
 refine loopN [] l.length [0, 3, 4] (fun k => [(3, dI (sizS (l.take k))), (4, dI k)]) (fun _ => S) (fun _ => True) mx (by kernel_rfl) ?_ ?_
 ·(refine @goW _ ?_; refine goS ?_)
  rfl
 ·intro k hk _
  have h1 := sizS_take l k
  have h2 := sizS_take l (k + 1)
  (refine @goW _ ?_; refine goS ?_)
  refine ⟨fun hlt => ⟨hlt, fun s hs => ?_⟩, fun hge => by rw [List.take_of_length_le (by omega)]⟩
  have h3 := sizS_succ hs
  refine ⟨hlt, ?_, by rw [w64 (by omega) (by omega)]; rfl⟩
  rw [w64 (n := (s.size : Int) + 1) (by omega) (by omega), w64 (by omega) (by omega)]; omega
def backS : List ByteArray → ByteArray → ByteArray
 | [], b => b
 | s :: l, b => backS l (s ++ b)
def slotS : List ByteArray → ByteArray → ByteArray → ByteArray
 | [], _, s => s
 | c :: l, b, s => slotS l (c ++ b) (s ++ strOfNums [IntKind.u8.wrap (IntKind.i64.wrap (128 - (((c ++ b).size : Nat) : Int)))])
theorem back_app (l m : List ByteArray) (b : ByteArray) : backS (l ++ m) b = backS m (backS l b) := by
 induction l generalizing b with
 | nil => rfl
 | cons a l ih => exact ih _
theorem slot_app (l m : List ByteArray) (b s : ByteArray) : slotS (l ++ m) b s = slotS m (backS l b) (slotS l b s) := by
 induction l generalizing b s with
 | nil => rfl
 | cons a l ih => exact ih _ _
theorem back_size (l : List ByteArray) (b : ByteArray) : (backS l b).size + l.length = b.size + sizS l := by
 induction l generalizing b with
 | nil => simp [backS, sizS]
 | cons a l ih =>
  have := ih (a ++ b)
  rw [ByteArray.size_append] at this
  simp only [backS, sizS, List.map_cons, List.sum_cons, List.length_cons] at *
  omega
theorem slot_size (l : List ByteArray) (b s : ByteArray) : (slotS l b s).size = s.size + l.length := by
 induction l generalizing b s with
 | nil => rfl
 | cons a l ih =>
  rw [slotS, ih, ByteArray.size_append, strOfNums_size]
  simp; omega
theorem siz_len (l : List ByteArray) : l.length ≤ sizS l := by
 induction l with
 | nil => simp
 | cons a l ih => simp only [sizS, List.map_cons, List.sum_cons, List.length_cons] at *; omega
def bodyS (kind : Int) (l : List ByteArray) : ByteArray :=
 strOfNums [kind, IntKind.u8.wrap (l.length : Int)] ++ slotS l noS noS ++ (strOfNums (List.replicate (122 - sizS l) 0) ++ backS l noS)
def packS (kind : Int) (l : List ByteArray) : ByteArray := numS 4 (IntKind.u64.wrap (onS 0 (bodyS kind l))) ++ bodyS kind l
theorem body_size (kind : Int) {l : List ByteArray} (h : sizS l ≤ 122) : (bodyS kind l).size = 124 := by
 unfold bodyS
 have h1 := back_size l noS
 have h2 := slot_size l noS noS
 have h3 := siz_len l
 rw [noS_size] at h1 h2
 simp only [ByteArray.size_append, strOfNums_size, List.length_replicate, List.length_cons, List.length_nil]
 omega
theorem pack_size (kind : Int) {l : List ByteArray} (h : sizS l ≤ 122) : (packS kind l).size = 128 := by
 unfold packS
 rw [ByteArray.size_append, numS_size, body_size kind h]
theorem packR (w0 : W0) (kind : Int) (l : List ByteArray) (S : St) (hk : kind ≠ 0) (h : sizS l ≤ 122) : ACall Tryz.prog w0 87 [dY kind, .sl 1 false (l.map dS)] S (fun d S' => d = .tup [dS (packS kind l), dI 0] ∧ S' = S) := by
 have hll := siz_len l
 refine fnS [] mx Tryz.func87 rfl rfl (by kernel_rfl) ?_; (refine @goW _ ?_; refine goS1 @Tryz.ntmps87 ?_)
 refine ⟨fun e => absurd e hk, fun _ => use1 (sizR w0 l _ (by omega) (by omega)) ?_⟩
 (refine @goW _ ?_; refine goS ?_)
 refine ⟨fun e => absurd e (by omega), fun _ => ?_⟩
 refine loopN [] l.length [0, 1, 6, 7, 8] (fun k => [(6, dS (slotS (l.take k) noS noS)), (7, dS (backS (l.take k) noS)), (8, dI k)]) (fun _ => S) (fun _ => True) mx (by kernel_rfl) ?_ ?_
 ·(refine @goW _ ?_; refine goS ?_)
  exact ⟨rfl, rfl⟩
 ·intro k hk2 _
  have h1 := back_size (l.take k) noS
  have h2 := slot_size (l.take k) noS noS
  have h3 := sizS_take l k
  rw [noS_size, List.length_take] at h1 h2
  (refine @goW _ ?_; refine goS ?_)
  refine ⟨fun hlt => ⟨hlt, fun s hs => ?_⟩, fun hge => ?_⟩
  ·have hb : backS (l.take (k + 1)) noS = s ++ backS (l.take k) noS := by rw [List.take_add_one, hs, back_app]; rfl
   have hsl : slotS (l.take (k + 1)) noS noS = slotS (l.take k) noS noS ++ strOfNums [IntKind.u8.wrap (IntKind.i64.wrap (128 - (((s ++ backS (l.take k) noS).size : Nat) : Int)))] := by rw [List.take_add_one, hs, slot_app]; rfl
   have h4 := sizS_succ hs
   have h5 := sizS_take l (k + 1)
   have hz : ∀ x : Int, (strOfNums [x]).size = 1 := fun x => strOfNums_size _
   rw [hb, hsl]
   (refine @goW _ ?_; refine goS2 @hz @ByteArray.size_append ?_)
   exact ⟨by omega, by omega, hlt, by rw [w64 (by omega) (by omega)]; rfl⟩
  ·rw [List.take_of_length_le (by omega)] at h1 h2 ⊢
   have hz2 : (strOfNums [kind, IntKind.u8.wrap (l.length : Int)]).size = 2 := strOfNums_size _
   have eN : IntKind.i64.wrap (IntKind.i64.wrap (124 - (((strOfNums [kind, IntKind.u8.wrap (l.length : Int)]).size + (slotS l noS noS).size : Nat) : Int)) - ((backS l noS).size : Int)) = ((122 - sizS l : Nat) : Int) := by
    rw [w64 (n := 124 - _) (by omega) (by omega), w64 (by omega) (by omega)]; omega
   rw [eN, Int.toNat_natCast]
   have hz3 : (strOfNums (List.replicate (122 - sizS l) 0)).size = 122 - sizS l := by rw [strOfNums_size, List.length_replicate]
   have hbs := body_size kind h
   refine ⟨by omega, by omega, by omega, by omega, fun b => ⟨by simp, by omega, by omega, use1 (ofR w0 _ _ (by show (bodyS kind l).size ≤ _; omega)) ?_⟩⟩
   have hz4 := numS_size 4 (IntKind.u64.wrap (onS 0 (bodyS kind l)))
   (refine @goW _ ?_; refine goS ?_)
   refine use1 (numR w0 _ 4 _ (by omega) (by omega)) ?_
   (refine @goW _ ?_; refine goS ?_)
   exact ⟨by omega, .refl _⟩
def kidsOf (n : N) : List N := if n.leaf then [] else n.l.flatMap fun c => c.kid.take 1
@[go_sem] def dV2 (c : C) : DV := .agg [dS c.data, .sl 1 false (c.pages.map dI)]
mutual
def dT : N → DV
 | .mk p b l => .agg [dI p, dB b, .sl 1 false (l.map fun c => dS c.key), .sl 2 false ((if b then l else []).map dV2), .sl 5 false (if b then [] else dTCs l)]
def dTC : C → List DV
 | .mk _ _ _ kid => dTNs kid
def dTCs : List C → List DV
 | [] => []
 | c :: l => dTC c ++ dTCs l
def dTNs : List N → List DV
 | [] => []
 | n :: _ => [dT n]
end
theorem dTNs_eq : ∀ l, dTNs l = (l.take 1).map dT
 | [] => by simp [dTNs]
 | n :: l => by simp [dTNs]
theorem dTCs_eq : ∀ l, dTCs l = (l.flatMap fun c => c.kid.take 1).map dT
 | [] => by simp [dTCs]
 | c :: l => by
  cases c
  simp only [dTCs, dTC, dTNs_eq, dTCs_eq l, List.flatMap_cons, List.map_append, C.kid_mk]
@[go_sem] def eT (n : N) : DV := .agg [dI n.page, dB n.leaf, .sl 1 false (n.l.map fun c => dS c.key), .sl 2 false ((if n.leaf then n.l else []).map dV2), .sl 5 false ((kidsOf n).map dT)]
@[go_sem] theorem dT_eq (n : N) : dT n = eT n := by
 cases n with | mk p b l =>
 simp only [dT, eT, N.page_mk, N.leaf_mk, N.l_mk, kidsOf]
 cases b <;> simp [dTCs_eq]
def cT (n : N) : List DV := [dI n.page, dB n.leaf, .sl 1 false (n.l.map fun c => dS c.key), .sl 2 false ((if n.leaf then n.l else []).map dV2), .sl 5 false ((kidsOf n).map dT)]
theorem kidsOf_leaf {n : N} (h : n.leaf = true) : kidsOf n = [] := by unfold kidsOf; rw [h]; rfl
theorem kidsOf_br {n : N} (h : n.leaf = false) : kidsOf n = n.l.flatMap fun c => c.kid.take 1 := by unfold kidsOf; rw [h]; rfl
theorem kids_map {l : List C} (h : ∀ c, c ∈ l → ∃ k, c.kid = [k]) : (l.flatMap fun c => c.kid.take 1) = l.map kid0 := by
 induction l with
 | nil => rfl
 | cons c l ih =>
  obtain ⟨k, hk⟩ := h c List.mem_cons_self
  rw [List.flatMap_cons, ih fun c hc => h c (List.mem_cons_of_mem _ hc), hk, List.map_cons, kid0_eq hk]; rfl
theorem kids_nd {d : Nat} {n : N} (h : Nd (d + 1) n) : kidsOf n = n.l.map kid0 := by
 rw [kidsOf_br h.1]
 exact kids_map fun c hc => by obtain ⟨_, k, hk, _⟩ := h.2.2 c hc; exact ⟨k, hk⟩
theorem needP (w0 : W0) (z : Int) (S : St) : ACall Tryz.prog w0 76 [dI z] S (fun d S' => d = dI (need z) ∧ S' = S) := by
 refine fnS [] mx Tryz.func76 rfl rfl (by kernel_rfl) ?_; (refine @goW _ ?_; refine goS1 @Tryz.ntmps76 ?_)
 unfold need
 refine ⟨fun h => by rw [if_neg (by omega)]; rfl, fun h1 => ⟨fun h => by rw [if_neg (by omega)]; rfl, fun h2 => ?_⟩⟩
 rw [if_pos (by omega), w64 (n := z + 119) (by omega) (by omega), w64 (n := z + 119 - 1) (by omega) (by omega), Int.tdiv_eq_ediv_of_nonneg (by omega), w64 (by omega) (by omega)]
 omega
theorem sumP (w0 : W0) (l : List Int) (S : St) (h : Bd l) : ACall Tryz.prog w0 89 [dL l] S (fun d S' => d = dI l.sum ∧ S' = S) := by
 refine fnS [] mx Tryz.func89 rfl rfl (by kernel_rfl) ?_; (refine @goW _ ?_; refine goS1 @Tryz.ntmps89 ?_)
 refine loopN [] l.length [3, 6, 7, 8] (fun k => [(3, dI (l.take k).sum), (8, dI k)]) (fun _ => S) (fun _ => True) mx (by kernel_rfl) ?_ ?_
 ·(refine @goW _ ?_; refine goS ?_)
  rfl
 ·intro k hk _
  have h0 := h.1
  (refine @goW _ ?_; refine goS ?_)
  refine ⟨fun hlt => ⟨hlt, fun a ha => ⟨by omega, ?_, ?_⟩⟩, fun hge => ?_⟩
  ·have := (h.take (k + 1)).sum
   rw [sum_succ ha] at this ⊢
   exact w64 (by omega) (by omega)
  ·rw [w64 (by omega) (by omega)]; omega
  ·rw [List.take_of_length_le (by omega)]
theorem lowP (w0 : W0) (l : List Int) (S : St) (h : Bd l) : ACall Tryz.prog w0 92 [dL l] S (fun d S' => d = dB (lowR l) ∧ S' = S) := by
 refine fnS [] mx Tryz.func92 rfl rfl (by kernel_rfl) ?_; (refine @goW _ ?_; refine goS1 @Tryz.ntmps92 ?_)
 refine use1 (sumP w0 _ _ h) ?_
 (refine @goW _ ?_; refine goS ?_)
 rfl
theorem nbP (w0 : W0) (m k : Int) (S : St) (h0 : 0 ≤ m) (h1 : m ≤ 1048576) (h2 : 0 ≤ k) (h3 : k < m) : ACall Tryz.prog w0 93 [dI m, dI k] S (fun d S' => d = dI (nbR m k) ∧ S' = S) := by
 refine fnS [] mx Tryz.func93 rfl rfl (by kernel_rfl) ?_; (refine @goW _ ?_; refine goS1 @Tryz.ntmps93 ?_)
 unfold nbR
 rw [w64 (n := k + 1) (by omega) (by omega), w64 (n := k - 1) (by omega) (by omega)]
 exact ⟨fun h => by rw [if_pos h], fun h => by rw [if_neg h]⟩
theorem i_oneV (i : Nat) (h : i < 2 ^ 61) : IntKind.i64.wrap ((i : Int) + 1) = ((i + 1 : Nat) : Int) := by rw [w64 (by omega) (by omega)]; omega
def Vr (n : Nat) : List Nat := (List.range n).map (· + 1)
theorem Vr_succ (n : Nat) : Vr (n + 1) = Vr n ++ [n + 1] := by simp [Vr, List.range_succ]
theorem Vr_len (n : Nat) : (Vr n).length = n := by simp [Vr]
theorem Vr_pre : ∀ {j n : Nat}, j ≤ n → Vr j <+: Vr n := fun {j n} h => by
 induction n with
 | zero => have : j = 0 := by omega
           subst this; exact List.prefix_refl _
 | succ n ih =>
  rcases Nat.lt_or_ge j (n + 1) with q | q
  ·exact (ih (by omega)).trans (by rw [Vr_succ]; exact List.prefix_append _ _)
  ·have : j = n + 1 := by omega
   subst this; exact List.prefix_refl _
theorem Vr_of {pre : List Nat} {x n : Nat} (h : (pre ++ [x]) <+: Vr n) : x = pre.length + 1 ∧ pre.length < n := by
 obtain ⟨t, ht⟩ := h
 have hl := congrArg List.length ht
 simp only [List.length_append, List.length_cons, List.length_nil, Vr_len] at hl
 have hx := congrArg (fun z => z[pre.length]?) ht
 simp only [List.append_assoc, List.getElem?_append_right (Nat.le_refl _), Nat.sub_self, Vr] at hx
 simp at hx
 have hlt : pre.length < n := by omega
 rw [List.getElem?_range hlt] at hx
 simp at hx
 exact ⟨hx, hlt⟩
theorem lk_upV (L : List (Nat × List DV)) (b c : Nat) (v : List DV) : lk (up L b v) c = if b = c then (lk L c).map (fun _ => v) else lk L c := by
 split
 ·rename_i e; subst e; exact lk_up_same _ _ _
 ·rename_i e; exact lk_up_ne e _ _
theorem Has_updV {X T : St} (h : Has X T) (b : Nat) (v : List DV) : Has ⟨up X.box b v, X.acc⟩ ⟨up T.box b v, T.acc⟩ := ⟨fun c x hc => by
 simp only [lk_upV] at hc ⊢
 split at hc
 ·rename_i e
  obtain ⟨y, hy, rfl⟩ := Option.map_eq_some_iff.1 hc
  rw [h.box _ _ hy, if_pos e]; rfl
 ·rename_i e
  rw [if_neg e]; exact h.box _ _ hc, h.acc⟩
theorem Kp_up3 {X T : St} {b c : Nat} {v w : List DV} (hb : ¬ lk X.box b = none) (hc : ¬ lk X.box c = none) : Kp X T ⟨up (up T.box b v) c w, T.acc⟩ := ⟨fun d x hd hx => by
 show lk (up (up T.box b v) c w) d = some x
 rw [lk_up_ne (fun e => hc (by rw [e]; exact hd)), lk_up_ne (fun e => hb (by rw [e]; exact hd))]; exact hx, fun d x _ hx => hx⟩
theorem partsW (w0 : W0) (l : List Int) (S : St) : ACall Tryz.prog w0 90 [dL l] S (fun d S' => ∃ b : FN S.box, d = .v (.func (.func 136) #[] #[.pointer (some ⟨b.n, 0, none⟩)]) ∧ S' = ⟨(b.n, [dL l]) :: S.box, S.acc⟩) := by
 refine fnO [] mx Tryz.func90 rfl rfl (by kernel_rfl) ?_; (refine @goW _ ?_; refine goS1 @Tryz.ntmps90 ?_)
 intro b
 exact ⟨b, rfl, rfl⟩
def atK (l : List Int) : Nat → Nat
 | 0 => 0
 | j + 1 => atF l j
def beK (l : List Int) : Nat → Int
 | 0 => l.sum + 1
 | j + 1 => worse l (atF l j)
theorem sum_split (l : List Int) (i : Nat) : (l.take i).sum + (l.drop i).sum = l.sum := by
 rw [← List.sum_append_int, List.take_append_drop]
theorem worse_le {l : List Int} (h : Bd l) (i : Nat) : 0 ≤ worse l i ∧ worse l i ≤ l.sum := by
 have h1 := (h.take i).sum
 have h2 := (h.drop i).sum
 have h3 := sum_split l i
 unfold worse
 split <;> omega
theorem beK_step {l : List Int} (h : Bd l) (p : Nat) : (worse l (p + 1) < beK l p → beK l (p + 1) = worse l (p + 1) ∧ atK l (p + 1) = p + 1) ∧ (¬ worse l (p + 1) < beK l p → beK l (p + 1) = beK l p ∧ atK l (p + 1) = atK l p) := by
 cases p with
 | zero => exact ⟨fun _ => ⟨rfl, rfl⟩, fun hn => absurd (by have := (worse_le h 1).2; show worse l 1 < l.sum + 1; omega) hn⟩
 | succ j =>
  have e : atF l (j + 1) = if worse l (j + 2) < worse l (atF l j) then j + 2 else atF l j := rfl
  refine ⟨fun hw => ?_, fun hw => ?_⟩
  ·have e2 : atF l (j + 1) = j + 2 := e.trans (if_pos hw)
   exact ⟨by show worse l (atF l (j + 1)) = _; rw [e2], e2⟩
  ·have e2 : atF l (j + 1) = atF l j := e.trans (if_neg hw)
   exact ⟨by show worse l (atF l (j + 1)) = _; rw [e2]; rfl, e2⟩
theorem partsI (w0 : W0) (l : Nat) (b : Nat) (r : List Int) (X : List Nat → St) (hr : Bd r) (hb : ∀ pre, lk (X pre).box b = some [dL r])
  (hy : YK Tryz.prog w0 l X (fun x => [dI x, dI (worse r x)]) (Vr (r.length - 1))) : ∀ T, Has (X []) T → ACall Tryz.prog w0 136 [.v (.func (.yield l) #[] #[]), .v (.pointer (some ⟨b, 0, none⟩))] T (fun _ T' => Has (X (Vr (r.length - 1))) T') := by
 intro T hT
 have t0 : lk T.box b = some [dL r] := hT.box _ _ (hb _)
 refine fnP [] mx Tryz.func136 rfl rfl (by kernel_rfl) ?_; simp only [Tryz.ntmps136, List.length_cons, List.length_nil, Nat.reduceAdd, Nat.reduceSub, List.reduceReplicate, List.cons_append, List.nil_append]; (refine @goW _ ?_; refine goS2 @Tryz.ntmps136 @t0 ?_)
 refine use1 (sumP w0 _ _ hr) ?_
 (refine @goW _ ?_; refine goS1 @t0 ?_)
 have h0 := hr.1
 refine loopK [] [0, 3, 4, 9, 10, 11] (fun s : St × Nat => [(3, dI (r.take s.2).sum), (4, dI (r.drop s.2).sum), (11, dI s.2)]) (fun s => s.1) (fun s => s.2 ≤ r.length ∧ Has (X (Vr (s.2 - 1))) s.1) (fun s => r.length - s.2) (T, 0) mx (by kernel_rfl) ?_ ?_
 ·(refine @goW _ ?_; refine goS ?_)
  exact ⟨⟨Nat.zero_le _, hT⟩, rfl⟩
 ·rintro ⟨T, k⟩ ⟨hk, hT'⟩
  simp only at hk hT'
  (refine @goW _ ?_; refine goS ?_)
  have hsu : ∀ a, r[k]? = some a → IntKind.i64.wrap ((r.take k).sum + a) = (r.take (k + 1)).sum ∧ IntKind.i64.wrap ((r.drop k).sum - a) = (r.drop (k + 1)).sum := fun a ha => by
   have h1 := sum_succ ha
   have h2 := sum_split r k
   have h3 := sum_split r (k + 1)
   have h4 := (hr.take (k + 1)).sum
   have h5 := (hr.drop (k + 1)).sum
   exact ⟨by rw [h1] at h4 ⊢; exact w64 (by omega) (by omega), by rw [w64 (by omega) (by omega)]; omega⟩
  refine ⟨fun hlt => ⟨hlt, fun a ha => ⟨fun hk0 => ?_, fun hk0 => ?_⟩⟩, fun hge => ?_⟩
  ·obtain ⟨j, rfl⟩ : ∃ j, k = j + 1 := ⟨k - 1, by omega⟩
   have ew : (if (r.take (j + 1)).sum < (r.drop (j + 1)).sum then (r.drop (j + 1)).sum else (r.take (j + 1)).sum) = worse r (j + 1) := by
    unfold worse
    split <;> split <;> omega
   rw [ew]
   refine useY (hy (Vr j) (j + 1) T (by rw [← Vr_succ]; exact Vr_pre (by omega)) hT') ?_
   rintro d T2 ⟨rfl, hT2, hK⟩
   (refine @goW _ ?_; refine goS ?_)
   exact ⟨(T2, j + 2), ⟨hlt, by show Has (X (Vr (j + 1))) T2; rw [Vr_succ]; exact hT2⟩, by show r.length - (j + 2) < r.length - (j + 1); omega, ⟨(hsu a ha).1, (hsu a ha).2, i_oneV (j + 1) (by omega)⟩, .refl _⟩
  ·have : k = 0 := by omega
   subst this
   exact ⟨(T, 1), ⟨hlt, hT'⟩, by show r.length - 1 < r.length - 0; omega, ⟨(hsu a ha).1, (hsu a ha).2, i_oneV 0 (by omega)⟩, .refl _⟩
  ·have : k = r.length := by omega
   subst this
   exact ⟨_, T, .refl _, .refl _, hT'⟩
theorem atP (w0 : W0) (l : List Int) (S : St) (h : Bd l) : ACall Tryz.prog w0 56 [dL l] S (fun d S' => d = dI (atR l) ∧ S' = S) := by
 refine fnS [] mx Tryz.func56 rfl rfl (by kernel_rfl) ?_; (refine @goW _ ?_; refine goS1 @Tryz.ntmps56 ?_)
 have hs := h.sum
 have h0 := h.1
 refine use1 (sumP w0 _ _ h) ?_
 (refine @goW _ ?_; refine goS ?_)
 intro b3 b4
 have es : IntKind.i64.wrap (l.sum + 1) = l.sum + 1 := w64 (by omega) (by omega)
 rw [es]
 refine ⟨fun hle => ?_, fun hgt => ?_⟩
 ·unfold atR; rw [if_pos (.inl (by omega))]; rfl
 refine useK (partsW w0 l _) ?_
 rintro _ _ ⟨b, rfl, rfl⟩
 (refine @goW _ ?_; refine goS ?_)
 refine rangeK [] (fun pre : List Nat => ⟨(b.n, [dL l]) :: (b4.n, [dI (atK l pre.length)]) :: (b3.n, [dI (beK l pre.length)]) :: S.box, S.acc⟩) (fun x : Nat => [dI x, dI (worse l x)]) (Vr (l.length - 1)) mx (by kernel_rfl) rfl rfl rfl (fun _ => rfl) (fun _ => rfl) (fun _ => rfl) ?_ ?_ ?_
 ·intro ly w1 hy T hT
  exact partsI w1 ly b.n l _ h (fun _ => by (refine @goW _ ?_; exact goT)) hy T hT
 ·intro pre x T hp hT
  obtain ⟨rfl, hlt⟩ := Vr_of hp
  have t3 : lk T.box b3.n = some [dI (beK l pre.length)] := hT.box _ _ (by (refine @goW _ ?_; exact goT))
  have t4 : lk T.box b4.n = some [dI (atK l pre.length)] := hT.box _ _ (by (refine @goW _ ?_; exact goT))
  have hne : ¬ b3.n = b4.n := by (refine @goW _ ?_; exact goT)
  have hl1 : (pre ++ [pre.length + 1]).length = pre.length + 1 := by simp
  have hH := fun v w => Has_updV (Has_updV hT b3.n [dI v]) b4.n [dI w]
  have hu : ∀ (v w : Int), up (up ((b.n, [dL l]) :: (b4.n, [dI (atK l pre.length)]) :: (b3.n, [dI (beK l pre.length)]) :: S.box) b3.n [dI v]) b4.n [dI w] = (b.n, [dL l]) :: (b4.n, [dI w]) :: (b3.n, [dI v]) :: S.box := fun v w => by (refine @goW _ ?_; exact goT)
  have hK : ∀ v w, Kp ⟨(b.n, [dL l]) :: (b4.n, [dI (atK l pre.length)]) :: (b3.n, [dI (beK l pre.length)]) :: S.box, S.acc⟩ T ⟨up (up T.box b3.n v) b4.n w, T.acc⟩ := fun v w => Kp_up3 (by (refine @goW _ ?_; exact goT)) (by (refine @goW _ ?_; exact goT))
  simp only [hu] at hH
  simp only [setPs]
  (refine @goW _ ?_; refine goS2 @t3 @t4 ?_)
  obtain ⟨st1, st2⟩ := beK_step h pre.length
  refine ⟨fun hw => ?_, fun hw => ?_⟩
  ·rw [(st1 hw).1, (st1 hw).2]
   exact ⟨hH _ _, hK _ _⟩
  ·rw [(st2 hw).1, (st2 hw).2]
   exact ⟨hT, .refl _ _⟩
 ·(refine @goW _ ?_; refine goS1 @Vr_len ?_)
  unfold atR
  by_cases h2 : l.length < 2
  ·rw [if_pos (.inr h2), show l.length - 1 = 0 by omega]; rfl
  ·rw [if_neg (by omega)]
   obtain ⟨m, hm⟩ : ∃ m, l.length = m + 2 := ⟨l.length - 2, by omega⟩
   rw [hm]; rfl
theorem i_addV (a b : Nat) (h : a + b < 2 ^ 62) : IntKind.i64.wrap ((a : Int) + (b : Int)) = ((a + b : Nat) : Int) := by rw [w64 (by omega) (by omega)]; omega
@[go_sem] def dR (s : Nat) (l : List DV) : DV := .sl s false l
def fl (rows : List (List DV)) : List DV := rows.flatten
theorem fl_succ {rows : List (List DV)} {k : Nat} {a : List DV} (h : rows[k]? = some a) : fl (rows.take (k + 1)) = fl (rows.take k) ++ a := by
 unfold fl
 rw [List.take_add_one, h]
 simp
theorem fl_le (rows : List (List DV)) (k : Nat) : (fl (rows.take k)).length ≤ (fl rows).length := by
 have : fl rows = fl (rows.take k) ++ fl (rows.drop k) := by
  unfold fl
  rw [← List.flatten_append, List.take_append_drop]
 rw [this]; simp
theorem acall_frzV {P : Program} {w0 : W0} {f : FuncId} {args : List DV} {S : St} {r : DV} (h1 : ACall P w0 f args S (fun d S' => shrT S' d fun d S'' => Wk d r ∧ Aml.Sub S S'')) : ACall P w0 f args S (fun d S' => d = r ∧ S' = S) := by
 intro g vs w k1 k2
 refine (h1 g vs w k1 k2).mono ?_
 rintro e w' ⟨v, g', d, S', q1, q2, q3, q4, q5⟩
 obtain ⟨g2, d', S2, p1, p2, p3, p4, p5⟩ := shrT_ok q3 q4 q5
 exact ⟨v, g2, r, S, q1, q2.trans p1, p2.forget p5.box p5.acc, p4 _ _ p3, rfl, rfl⟩
theorem growS (w0 : W0) (n : Int) (S : St) (h0 : 0 ≤ n) (h1 : n ≤ 1099511627776) : ACall Tryz.prog w0 141 [.sl 0 true [], dI n] S (fun d S' => ∃ l : FN S.acc, d = .acc l.n 0 ∧ S' = ⟨S.box, (l.n, .arr 1 []) :: S.acc⟩) := by
 refine acall_nil (K' := fun d S' => (d = .sl 0 true [] ∧ S' = S) ∨ ∃ l : FN S.acc, d = .acc l.n 0 ∧ S' = ⟨S.box, (l.n, .arr 1 []) :: S.acc⟩) ?_ 1 (by omega) ?_
 ·refine fnO [] mx Tryz.func141 rfl rfl (by kernel_rfl) ?_; (refine @goW _ ?_; refine goS1 @Tryz.ntmps141 ?_)
  have e1 : IntKind.i64.wrap (0 - 0) = 0 := w64 (by omega) (by omega)
  rw [e1, Int.sub_zero, w64 (by omega) (by omega)]
  refine ⟨fun h => by omega, fun h h2 => ⟨by omega, by omega, by omega, fun l => .inl ⟨⟨_, _, _, rfl⟩, by simp, fun l' => ⟨⟨l'.n, l'.h.2.2⟩, rfl, rfl⟩⟩⟩⟩
 ·rintro d S' (⟨rfl, rfl⟩ | h)
  ·exact .inr ⟨⟨0, rfl⟩, fun l hl => ⟨⟨l, hl⟩, rfl, rfl⟩⟩
  ·exact .inl h
theorem concatS (w0 : W0) (rows : List (List DV)) (S : St) (h0 : rows.length ≤ 1099511627776) (h1 : (fl rows).length ≤ 1048576) :
  ACall Tryz.prog w0 98 [.sl 1 false (rows.map (dR 1))] S (fun d S' => d = dR 1 (fl rows) ∧ S' = S) := by
 refine fnS [] mx Tryz.func98 rfl rfl (by kernel_rfl) ?_; (refine @goW _ ?_; refine goS1 @Tryz.ntmps98 ?_)
 refine loopN [] rows.length [0, 3, 9, 10, 11] (fun k => [(3, dI (fl (rows.take k)).length), (11, dI k)]) (fun _ => S) (fun k => True) mx (by kernel_rfl) ?_ ?_
 ·(refine @goW _ ?_; refine goS ?_)
  simp [fl]
 ·intro k hk _
  (refine @goW _ ?_; refine goS ?_)
  refine ⟨fun hlt => ⟨hlt, fun a ha => ?_⟩, fun hge => ?_⟩
  ·have h2 := fl_succ ha
   have h3 := fl_le rows (k + 1)
   rw [h2, List.length_append] at h3
   rw [w64 (by omega) (by omega)]
   refine ⟨fun h => by omega, fun h => ⟨hlt, ?_, w64 (by omega) (by omega)⟩⟩
   rw [h2, List.length_append]; omega
  ·rw [List.take_of_length_le (by omega)]
   refine useK (growS w0 (fl rows).length S (by omega) (by omega)) ?_
   rintro d S' ⟨l, rfl, rfl⟩
   (refine @goW _ ?_; refine goS ?_)
   refine loopN [] rows.length [6, 25, 26, 27] (fun k => [(6, .acc l.n (fl (rows.take k)).length), (27, dI k)]) (fun k => ⟨S.box, (l.n, .arr 1 (fl (rows.take k))) :: S.acc⟩) (fun k => True) mx (by kernel_rfl) ?_ ?_
   ·(refine @goW _ ?_; refine goS ?_)
    simp [fl, Wk.refl, Sub.refl]
   ·intro k hk _
    (refine @goW _ ?_; refine goS ?_)
    refine ⟨fun hlt => ⟨hlt, fun a ha => ?_⟩, fun hge => ?_⟩
    ·have h2 := fl_succ ha
     have h3 := fl_le rows (k + 1)
     rw [h2, List.length_append] at h3
     refine ⟨by omega, by unfold maxLen; omega, hlt, ⟨?_, w64 (by omega) (by omega)⟩, ?_⟩
     ·rw [h2, List.length_append]; exact .refl _
     ·rw [h2]; exact .refl _
    ·rw [List.take_of_length_le (by omega)]; exact .full _ _ _
theorem cloneS (w0 : W0) (l : List DV) (S : St) (h0 : l.length ≤ 1048576) : ACall Tryz.prog w0 138 [dR 1 l] S fun d S' => ∃ b : FN S.acc, d = .acc b.n l.length ∧ S' = ⟨S.box, (b.n, .arr 1 l) :: S.acc⟩ := by
 refine nilK 1 (by omega) ?_
 refine fnO [] mx Tryz.func138 rfl rfl (by kernel_rfl) ?_; (refine @goW _ ?_; refine goS1 @Tryz.ntmps138 ?_)
 intro b hb
 refine ⟨fun h1 => .inl ⟨Classical.byContradiction fun hn => ?_, 0, rfl⟩, fun h1 => ⟨by omega, by unfold maxLen; omega, fun c => .inr ⟨c, rfl, rfl⟩⟩⟩
 rw [hb hn] at h1; cases h1
theorem cloneQS (w0 : W0) (l : List DV) (S : St) (h0 : l.length ≤ 1048576) : ACall Tryz.prog w0 138 [dR 1 l] S fun d S' => d = dR 1 l ∧ S' = S := by
 refine acall_frzV (ACall.mono (cloneS w0 l S h0) ?_)
 rintro d S' ⟨b, rfl, rfl⟩
 (refine @goW _ ?_; exact goT)
theorem swapS (w0 : W0) (l m : List DV) (i n : Nat) (f : Bool) (S : St) (hi : i + n ≤ l.length) (h0 : l.length ≤ 524288) (h1 : m.length ≤ 524288) : ACall Tryz.prog w0 62 [dR 1 l, dI i, dI n, .sl 1 f m] S (fun d S' => d = dR 1 (l.take i ++ m ++ l.drop (i + n)) ∧ S' = S) := by
 refine fnS [] mx Tryz.func62 rfl rfl (by kernel_rfl) ?_; (refine @goW _ ?_; refine goS2 @Tryz.ntmps62 (i_addV i n (by omega)) ?_)
 have e : fl [l.take i, m, l.drop (i + n)] = l.take i ++ m ++ l.drop (i + n) := by simp [fl]
 refine ⟨by omega, hi, useQ (concatS w0 [l.take i, m, l.drop (i + n)] _ (by simp) ?_) ?_ ⟨(Wk.full _ _ _).trans (Wk.sl ⟨.refl _, .full _ _ _, .refl _, trivial⟩), trivial⟩⟩
 ·rw [e]; simp only [List.length_append, List.length_take, List.length_drop]; omega
 ·rw [e]; (refine @goW _ ?_; exact goT)
theorem growV (w0 : W0) (n : Int) (S : St) (h0 : 0 ≤ n) (h1 : n ≤ 1099511627776) : ACall Tryz.prog w0 142 [.sl 0 true [], dI n] S (fun d S' => ∃ l : FN S.acc, d = .acc l.n 0 ∧ S' = ⟨S.box, (l.n, .arr 2 []) :: S.acc⟩) := by
 refine acall_nil (K' := fun d S' => (d = .sl 0 true [] ∧ S' = S) ∨ ∃ l : FN S.acc, d = .acc l.n 0 ∧ S' = ⟨S.box, (l.n, .arr 2 []) :: S.acc⟩) ?_ 2 (by omega) ?_
 ·refine fnO [] mx Tryz.func142 rfl rfl (by kernel_rfl) ?_; (refine @goW _ ?_; refine goS1 @Tryz.ntmps142 ?_)
  have e1 : IntKind.i64.wrap (0 - 0) = 0 := w64 (by omega) (by omega)
  rw [e1, Int.sub_zero, w64 (by omega) (by omega)]
  refine ⟨fun h => by omega, fun h h2 => ⟨by omega, by omega, by omega, fun l => .inl ⟨⟨_, _, _, rfl⟩, by simp, fun l' => ⟨⟨l'.n, l'.h.2.2⟩, rfl, rfl⟩⟩⟩⟩
 ·rintro d S' (⟨rfl, rfl⟩ | h)
  ·exact .inr ⟨⟨0, rfl⟩, fun l hl => ⟨⟨l, hl⟩, rfl, rfl⟩⟩
  ·exact .inl h
theorem concatV (w0 : W0) (rows : List (List DV)) (S : St) (h0 : rows.length ≤ 1099511627776) (h1 : (fl rows).length ≤ 1048576) :
  ACall Tryz.prog w0 99 [.sl 1 false (rows.map (dR 2))] S (fun d S' => d = dR 2 (fl rows) ∧ S' = S) := by
 refine fnS [] mx Tryz.func99 rfl rfl (by kernel_rfl) ?_; (refine @goW _ ?_; refine goS1 @Tryz.ntmps99 ?_)
 refine loopN [] rows.length [0, 3, 9, 10, 11] (fun k => [(3, dI (fl (rows.take k)).length), (11, dI k)]) (fun _ => S) (fun k => True) mx (by kernel_rfl) ?_ ?_
 ·(refine @goW _ ?_; refine goS ?_)
  simp [fl]
 ·intro k hk _
  (refine @goW _ ?_; refine goS ?_)
  refine ⟨fun hlt => ⟨hlt, fun a ha => ?_⟩, fun hge => ?_⟩
  ·have h2 := fl_succ ha
   have h3 := fl_le rows (k + 1)
   rw [h2, List.length_append] at h3
   rw [w64 (by omega) (by omega)]
   refine ⟨fun h => by omega, fun h => ⟨hlt, ?_, w64 (by omega) (by omega)⟩⟩
   rw [h2, List.length_append]; omega
  ·rw [List.take_of_length_le (by omega)]
   refine useK (growV w0 (fl rows).length S (by omega) (by omega)) ?_
   rintro d S' ⟨l, rfl, rfl⟩
   (refine @goW _ ?_; refine goS ?_)
   refine loopN [] rows.length [6, 25, 26, 27] (fun k => [(6, .acc l.n (fl (rows.take k)).length), (27, dI k)]) (fun k => ⟨S.box, (l.n, .arr 2 (fl (rows.take k))) :: S.acc⟩) (fun k => True) mx (by kernel_rfl) ?_ ?_
   ·(refine @goW _ ?_; refine goS ?_)
    simp [fl, Wk.refl, Sub.refl]
   ·intro k hk _
    (refine @goW _ ?_; refine goS ?_)
    refine ⟨fun hlt => ⟨hlt, fun a ha => ?_⟩, fun hge => ?_⟩
    ·have h2 := fl_succ ha
     have h3 := fl_le rows (k + 1)
     rw [h2, List.length_append] at h3
     refine ⟨by omega, by unfold maxLen; omega, hlt, ⟨?_, w64 (by omega) (by omega)⟩, ?_⟩
     ·rw [h2, List.length_append]; exact .refl _
     ·rw [h2]; exact .refl _
    ·rw [List.take_of_length_le (by omega)]; exact .full _ _ _
theorem cloneV (w0 : W0) (l : List DV) (S : St) (h0 : l.length ≤ 1048576) : ACall Tryz.prog w0 78 [dR 2 l] S fun d S' => ∃ b : FN S.acc, d = .acc b.n l.length ∧ S' = ⟨S.box, (b.n, .arr 2 l) :: S.acc⟩ := by
 refine nilK 2 (by omega) ?_
 refine fnO [] mx Tryz.func78 rfl rfl (by kernel_rfl) ?_; (refine @goW _ ?_; refine goS1 @Tryz.ntmps78 ?_)
 intro b hb
 refine ⟨fun h1 => .inl ⟨Classical.byContradiction fun hn => ?_, 0, rfl⟩, fun h1 => ⟨by omega, by unfold maxLen; omega, fun c => .inr ⟨c, rfl, rfl⟩⟩⟩
 rw [hb hn] at h1; cases h1
theorem cloneQV (w0 : W0) (l : List DV) (S : St) (h0 : l.length ≤ 1048576) : ACall Tryz.prog w0 78 [dR 2 l] S fun d S' => d = dR 2 l ∧ S' = S := by
 refine acall_frzV (ACall.mono (cloneV w0 l S h0) ?_)
 rintro d S' ⟨b, rfl, rfl⟩
 (refine @goW _ ?_; exact goT)
theorem swapV (w0 : W0) (l m : List DV) (i n : Nat) (f : Bool) (S : St) (hi : i + n ≤ l.length) (h0 : l.length ≤ 524288) (h1 : m.length ≤ 524288) : ACall Tryz.prog w0 63 [dR 2 l, dI i, dI n, .sl 2 f m] S (fun d S' => d = dR 2 (l.take i ++ m ++ l.drop (i + n)) ∧ S' = S) := by
 refine fnS [] mx Tryz.func63 rfl rfl (by kernel_rfl) ?_; (refine @goW _ ?_; refine goS2 @Tryz.ntmps63 (i_addV i n (by omega)) ?_)
 have e : fl [l.take i, m, l.drop (i + n)] = l.take i ++ m ++ l.drop (i + n) := by simp [fl]
 refine ⟨by omega, hi, useQ (concatV w0 [l.take i, m, l.drop (i + n)] _ (by simp) ?_) ?_ ⟨(Wk.full _ _ _).trans (Wk.sl ⟨.refl _, .full _ _ _, .refl _, trivial⟩), trivial⟩⟩
 ·rw [e]; simp only [List.length_append, List.length_take, List.length_drop]; omega
 ·rw [e]; (refine @goW _ ?_; exact goT)
theorem growT (w0 : W0) (n : Int) (S : St) (h0 : 0 ≤ n) (h1 : n ≤ 1099511627776) : ACall Tryz.prog w0 139 [.sl 0 true [], dI n] S (fun d S' => ∃ l : FN S.acc, d = .acc l.n 0 ∧ S' = ⟨S.box, (l.n, .arr 5 []) :: S.acc⟩) := by
 refine acall_nil (K' := fun d S' => (d = .sl 0 true [] ∧ S' = S) ∨ ∃ l : FN S.acc, d = .acc l.n 0 ∧ S' = ⟨S.box, (l.n, .arr 5 []) :: S.acc⟩) ?_ 5 (by omega) ?_
 ·refine fnO [] mx Tryz.func139 rfl rfl (by kernel_rfl) ?_; (refine @goW _ ?_; refine goS1 @Tryz.ntmps139 ?_)
  have e1 : IntKind.i64.wrap (0 - 0) = 0 := w64 (by omega) (by omega)
  rw [e1, Int.sub_zero, w64 (by omega) (by omega)]
  refine ⟨fun h => by omega, fun h h2 => ⟨by omega, by omega, by omega, fun l => .inl ⟨⟨_, _, _, rfl⟩, by simp, fun l' => ⟨⟨l'.n, l'.h.2.2⟩, rfl, rfl⟩⟩⟩⟩
 ·rintro d S' (⟨rfl, rfl⟩ | h)
  ·exact .inr ⟨⟨0, rfl⟩, fun l hl => ⟨⟨l, hl⟩, rfl, rfl⟩⟩
  ·exact .inl h
theorem concatT (w0 : W0) (rows : List (List DV)) (S : St) (h0 : rows.length ≤ 1099511627776) (h1 : (fl rows).length ≤ 1048576) :
  ACall Tryz.prog w0 95 [.sl 1 false (rows.map (dR 5))] S (fun d S' => d = dR 5 (fl rows) ∧ S' = S) := by
 refine fnS [] mx Tryz.func95 rfl rfl (by kernel_rfl) ?_; (refine @goW _ ?_; refine goS1 @Tryz.ntmps95 ?_)
 refine loopN [] rows.length [0, 3, 9, 10, 11] (fun k => [(3, dI (fl (rows.take k)).length), (11, dI k)]) (fun _ => S) (fun k => True) mx (by kernel_rfl) ?_ ?_
 ·(refine @goW _ ?_; refine goS ?_)
  simp [fl]
 ·intro k hk _
  (refine @goW _ ?_; refine goS ?_)
  refine ⟨fun hlt => ⟨hlt, fun a ha => ?_⟩, fun hge => ?_⟩
  ·have h2 := fl_succ ha
   have h3 := fl_le rows (k + 1)
   rw [h2, List.length_append] at h3
   rw [w64 (by omega) (by omega)]
   refine ⟨fun h => by omega, fun h => ⟨hlt, ?_, w64 (by omega) (by omega)⟩⟩
   rw [h2, List.length_append]; omega
  ·rw [List.take_of_length_le (by omega)]
   refine useK (growT w0 (fl rows).length S (by omega) (by omega)) ?_
   rintro d S' ⟨l, rfl, rfl⟩
   (refine @goW _ ?_; refine goS ?_)
   refine loopN [] rows.length [6, 25, 26, 27] (fun k => [(6, .acc l.n (fl (rows.take k)).length), (27, dI k)]) (fun k => ⟨S.box, (l.n, .arr 5 (fl (rows.take k))) :: S.acc⟩) (fun k => True) mx (by kernel_rfl) ?_ ?_
   ·(refine @goW _ ?_; refine goS ?_)
    simp [fl, Wk.refl, Sub.refl]
   ·intro k hk _
    (refine @goW _ ?_; refine goS ?_)
    refine ⟨fun hlt => ⟨hlt, fun a ha => ?_⟩, fun hge => ?_⟩
    ·have h2 := fl_succ ha
     have h3 := fl_le rows (k + 1)
     rw [h2, List.length_append] at h3
     refine ⟨by omega, by unfold maxLen; omega, hlt, ⟨?_, w64 (by omega) (by omega)⟩, ?_⟩
     ·rw [h2, List.length_append]; exact .refl _
     ·rw [h2]; exact .refl _
    ·rw [List.take_of_length_le (by omega)]; exact .full _ _ _
theorem cloneT (w0 : W0) (l : List DV) (S : St) (h0 : l.length ≤ 1048576) : ACall Tryz.prog w0 77 [dR 5 l] S fun d S' => ∃ b : FN S.acc, d = .acc b.n l.length ∧ S' = ⟨S.box, (b.n, .arr 5 l) :: S.acc⟩ := by
 refine nilK 5 (by omega) ?_
 refine fnO [] mx Tryz.func77 rfl rfl (by kernel_rfl) ?_; (refine @goW _ ?_; refine goS1 @Tryz.ntmps77 ?_)
 intro b hb
 refine ⟨fun h1 => .inl ⟨Classical.byContradiction fun hn => ?_, 0, rfl⟩, fun h1 => ⟨by omega, by unfold maxLen; omega, fun c => .inr ⟨c, rfl, rfl⟩⟩⟩
 rw [hb hn] at h1; cases h1
theorem cloneQT (w0 : W0) (l : List DV) (S : St) (h0 : l.length ≤ 1048576) : ACall Tryz.prog w0 77 [dR 5 l] S fun d S' => d = dR 5 l ∧ S' = S := by
 refine acall_frzV (ACall.mono (cloneT w0 l S h0) ?_)
 rintro d S' ⟨b, rfl, rfl⟩
 (refine @goW _ ?_; exact goT)
theorem swapT (w0 : W0) (l m : List DV) (i n : Nat) (f : Bool) (S : St) (hi : i + n ≤ l.length) (h0 : l.length ≤ 524288) (h1 : m.length ≤ 524288) : ACall Tryz.prog w0 60 [dR 5 l, dI i, dI n, .sl 5 f m] S (fun d S' => d = dR 5 (l.take i ++ m ++ l.drop (i + n)) ∧ S' = S) := by
 refine fnS [] mx Tryz.func60 rfl rfl (by kernel_rfl) ?_; (refine @goW _ ?_; refine goS2 @Tryz.ntmps60 (i_addV i n (by omega)) ?_)
 have e : fl [l.take i, m, l.drop (i + n)] = l.take i ++ m ++ l.drop (i + n) := by simp [fl]
 refine ⟨by omega, hi, useQ (concatT w0 [l.take i, m, l.drop (i + n)] _ (by simp) ?_) ?_ ⟨(Wk.full _ _ _).trans (Wk.sl ⟨.refl _, .full _ _ _, .refl _, trivial⟩), trivial⟩⟩
 ·rw [e]; simp only [List.length_append, List.length_take, List.length_drop]; omega
 ·rw [e]; (refine @goW _ ?_; exact goT)
def bY (s : ByteArray) : List DV := s.data.toList.map fun c => .v (.int .u8 c.toNat)
theorem bY_len (s : ByteArray) : (bY s).length = s.size := by unfold bY; rw [List.length_map]; rfl
theorem bY_app (a b : ByteArray) : bY (a ++ b) = bY a ++ bY b := by
 unfold bY
 rw [← List.map_append]
 congr 1
theorem bY_one (x : Int) (h0 : 0 ≤ x) (h1 : x ≤ 255) : bY (strOfNums [x]) = [.v (.int .u8 x)] := by
 have e : bY (strOfNums [x]) = [.v (.int .u8 ((UInt8.ofNat x.toNat).toNat : Nat))] := rfl
 rw [e]
 have : (UInt8.ofNat x.toNat).toNat = x.toNat := by
  rw [UInt8.toNat_ofNat']; omega
 rw [this]
 congr 4
 omega
@[go_sem] def dB8 (s : ByteArray) : DV := .sl 1 false (bY s)
theorem numX_ge : ∀ (i : Nat) (x : Int), 0 ≤ x → x < 18446744073709551616 → numX i x = x.fdiv (2 ^ (8 * i)) ∧ 0 ≤ numX i x ∧ numX i x < 18446744073709551616
 | 0, x, h0, h1 => ⟨by simp [numX], h0, h1⟩
 | i + 1, x, h0, h1 => by
  obtain ⟨e, a, b⟩ := numX_ge i x h0 h1
  have e1 : (numX i x).tdiv 256 = numX i x / 256 := Int.tdiv_eq_ediv_of_nonneg a
  have hw : IntKind.u64.wrap (numX i x / 256) = numX i x / 256 := wu64 (by omega) (by omega)
  rw [numX, e1, hw]
  refine ⟨?_, by omega, by omega⟩
  rw [e, Int.fdiv_eq_ediv_of_nonneg _ (Int.le_of_lt (Int.pow_pos (by decide))), Int.fdiv_eq_ediv_of_nonneg _ (Int.le_of_lt (Int.pow_pos (by decide))), Int.ediv_ediv_of_nonneg (Int.le_of_lt (Int.pow_pos (by decide))), show (8 * (i + 1)) = 8 * i + 8 by omega, Int.pow_add]
  rfl
theorem numP (w0 : W0) (x : Int) (k : Nat) (S : St) (h0 : 1 ≤ k) (h1 : k ≤ 8) (hx : 0 ≤ x) (hx2 : x < 18446744073709551616) : ACall Tryz.prog w0 123 [dU x, dI k] S (fun d S' => d = dB8 (numS k x) ∧ S' = S) := by
 refine fnS [] mx Tryz.func123 rfl rfl (by kernel_rfl) ?_; simp (maxDischargeDepth := 12) (maxSteps := 1000000) -implicitDefEqProofs only [Tryz.ntmps123, go_sem, Nat.reduceAdd, Nat.reduceSub, Nat.reduceMul, Nat.reduceLeDiff, Nat.reduceEqDiff, Nat.reduceGT, Nat.reduceBEq, reduceCtorEq, ↓reduceIte, Int.reduceToNat, Int.reduceLE, Int.reduceLT, Int.reduceNe, Int.reduceEq]
 refine ⟨fun h => absurd h (by omega), fun _ => ⟨fun h => absurd h (by omega), fun _ => ?_⟩⟩
 refine ⟨by omega, by omega, fun b => ?_⟩
 refine loopN [] k [0, 1, 5, 16, 17] (fun i => [(17, dI i)]) (fun i => ⟨S.box, (b.n, .arr 1 (List.replicate (k - i) (.v (.int .u8 0)) ++ bY (numS i x))) :: S.acc⟩) (fun _ => True) mx (by kernel_rfl) ?_ ?_
 ·have e0 : bY (numS 0 x) = [] := rfl
  simp (maxDischargeDepth := 12) (maxSteps := 1000000) -implicitDefEqProofs only [go_sem, Nat.reduceAdd, Nat.reduceSub, Nat.reduceMul, Nat.reduceLeDiff, Nat.reduceEqDiff, Nat.reduceGT, Nat.reduceBEq, reduceCtorEq, ↓reduceIte, Int.reduceToNat, Int.reduceLE, Int.reduceLT, Int.reduceNe, Int.reduceEq, e0, Nat.sub_zero, List.append_nil]
 ·intro i hi _
  have hs := bY_len (numS i x)
  rw [numS_size] at hs
  have e2 : IntKind.i64.wrap ((i : Int) + 1) = ((i + 1 : Nat) : Int) := by rw [w64 (by omega) (by omega)]; omega
  have e3 : IntKind.i64.wrap (8 * (i : Int)) = 8 * i := w64 (by omega) (by omega)
  have e4 : IntKind.i64.wrap ((k : Int) - 1) = (k : Int) - 1 := w64 (by omega) (by omega)
  have e5 : IntKind.i64.wrap ((k : Int) - 1 - i) = (k : Int) - 1 - i := w64 (by omega) (by omega)
  simp (maxDischargeDepth := 12) (maxSteps := 1000000) -implicitDefEqProofs only [go_sem, Nat.reduceAdd, Nat.reduceSub, Nat.reduceMul, Nat.reduceLeDiff, Nat.reduceEqDiff, Nat.reduceGT, Nat.reduceBEq, reduceCtorEq, ↓reduceIte, Int.reduceToNat, Int.reduceLE, Int.reduceLT, Int.reduceNe, Int.reduceEq, hs, e3, e4, e5]
  have hl : (List.replicate (k - i) (DV.v (.int .u8 0))).length + i = k := by rw [List.length_replicate]; omega
  refine ⟨fun hlt => ⟨by omega, by omega, by omega, hl, ?_⟩, fun hge => ⟨hl, ?_⟩⟩
  ·have ej : ((k : Int) - 1 - i).toNat = k - 1 - i := by omega
   have hset : (List.replicate (k - i) (DV.v (.int .u8 0)) ++ bY (numS i x)).set ((k : Int) - 1 - i).toNat (.v (.int .u8 (IntKind.u8.wrap (x.fdiv (2 ^ min (8 * (i : Int)).toNat 64))))) = List.replicate (k - (i + 1)) (DV.v (.int .u8 0)) ++ bY (numS (i + 1) x) := by
    have hx1 : x.fdiv (2 ^ min (8 * (i : Int)).toNat 64) = numX i x := by
     rw [(numX_ge i x hx hx2).1]
     congr 2
     omega
    have h8 : bY (numS (i + 1) x) = .v (.int .u8 (IntKind.u8.wrap (numX i x))) :: bY (numS i x) := by
     have hb : 0 ≤ IntKind.u8.wrap (numX i x) ∧ IntKind.u8.wrap (numX i x) ≤ 255 := by
      have e : IntKind.u8.wrap (numX i x) = numX i x % 256 := rfl
      rw [e]
      have := Int.emod_nonneg (numX i x) (by decide : (256 : Int) ≠ 0)
      have := Int.emod_lt_of_pos (numX i x) (by decide : (0 : Int) < 256)
      omega
     rw [numS, bY_app, bY_one _ hb.1 hb.2]; rfl
    rw [hx1, h8, ej, show k - i = (k - (i + 1)) + 1 by omega, List.replicate_succ', List.append_assoc, show k - 1 - i = k - (i + 1) by omega]
    rw [List.set_append_right _ _ (by rw [List.length_replicate]; exact Nat.le_refl _), List.length_replicate, Nat.sub_self]
    rfl
   rw [hset]
   refine ⟨.v (.int .u8 0), ?_, rfl, hlt, e2, .refl _⟩
   rw [ej, List.getElem?_append_left (by rw [List.length_replicate]; omega), List.getElem?_replicate, if_pos (by omega)]
  ·have : k - i = 0 := by omega
   rw [this, show i = k by omega]
   exact .refl _
theorem twoP (w0 : W0) (x : Int) (S : St) (hx : 0 ≤ x) (hx2 : x < 65536) : ACall Tryz.prog w0 180 [dI x] S (fun d S' => d = dB8 (numS 2 x) ∧ S' = S) := by
 have e : IntKind.u64.wrap x = x := wu64 (by omega) (by omega)
 refine fnS [] mx Tryz.func180 rfl rfl (by kernel_rfl) ?_; (refine @goW _ ?_; refine goS1 @Tryz.ntmps180 ?_)
 (refine @goW _ ?_; refine goS1 @e ?_)
 refine use1 (numP w0 x 2 _ (by decide) (by decide) hx (by omega)) ?_
 (refine @goW _ ?_; exact goT)
theorem sizeP (w0 : W0) (l : List ByteArray) (S : St) (h : sizS l ≤ 1048576) (hl : l.length ≤ 1048576) : ACall Tryz.prog w0 125 [.sl 1 false (l.map dB8)] S (fun d S' => d = dI (sizS l) ∧ S' = S) := by
 refine fnS [] mx Tryz.func125 rfl rfl (by kernel_rfl) ?_; (refine @goW _ ?_; refine goS1 @Tryz.ntmps125 ?_)
 have hll := siz_len l
 have hsl : ∀ k, ((l.take k).map fun s => s.size).sum + (l.take k).length = sizS (l.take k) := fun k => by
  induction l.take k with
  | nil => rfl
  | cons a m ih => simp only [sizS, List.map_cons, List.sum_cons, List.length_cons] at *; omega
 refine loopN [] l.length [3, 8, 9, 10] (fun k => [(3, dI ((l.length + ((l.take k).map fun s => s.size).sum : Nat) : Int)), (10, dI k)]) (fun _ => S) (fun _ => True) mx (by kernel_rfl) ?_ ?_
 ·(refine @goW _ ?_; refine goS ?_)
  simp
 ·intro k hk _
  have h1 := hsl k
  have h2 := sizS_take l k
  have h4 := sizS_take l (k + 1)
  have h5 := hsl (k + 1)
  (refine @goW _ ?_; refine goS ?_)
  refine ⟨fun hlt => ⟨hlt, fun s hs => ?_⟩, fun hge => ?_⟩
  ·have h3 : ((l.take (k + 1)).map fun s => s.size).sum = ((l.take k).map fun s => s.size).sum + s.size := by rw [List.take_add_one, hs]; simp
   have hb := bY_len s
   rw [hb, h3]
   exact ⟨hlt, by rw [w64 (by omega) (by omega)]; omega, by rw [w64 (by omega) (by omega)]; omega⟩
  ·have := hsl l.length
   rw [List.take_of_length_le (Nat.le_refl _)] at this
   rw [List.take_of_length_le (by omega)]
   omega
theorem growB8 (w0 : W0) (n : Int) (S : St) (h0 : 0 ≤ n) (h1 : n ≤ 1099511627776) : ACall Tryz.prog w0 153 [.sl 0 true [], dI n] S (fun d S' => ∃ l : FN S.acc, d = .acc l.n 0 ∧ S' = ⟨S.box, (l.n, .arr 1 []) :: S.acc⟩) := by
 refine acall_nil (K' := fun d S' => (d = .sl 0 true [] ∧ S' = S) ∨ ∃ l : FN S.acc, d = .acc l.n 0 ∧ S' = ⟨S.box, (l.n, .arr 1 []) :: S.acc⟩) ?_ 1 (by omega) ?_
 ·refine fnO [] mx Tryz.func153 rfl rfl (by kernel_rfl) ?_; (refine @goW _ ?_; refine goS1 @Tryz.ntmps153 ?_)
  have e1 : IntKind.i64.wrap (0 - 0) = 0 := w64 (by omega) (by omega)
  rw [e1, Int.sub_zero, w64 (by omega) (by omega)]
  refine ⟨fun h => by omega, fun h h2 => ⟨by omega, by omega, by omega, fun l => .inl ⟨⟨_, _, _, rfl⟩, by simp, fun l' => ⟨⟨l'.n, l'.h.2.2⟩, rfl, rfl⟩⟩⟩⟩
 ·rintro d S' (⟨rfl, rfl⟩ | h)
  ·exact .inr ⟨⟨0, rfl⟩, fun l hl => ⟨⟨l, hl⟩, rfl, rfl⟩⟩
  ·exact .inl h
theorem concatB8 (w0 : W0) (rows : List (List DV)) (S : St) (h0 : rows.length ≤ 1099511627776) (h1 : (fl rows).length ≤ 1048576) :
  ACall Tryz.prog w0 122 [.sl 1 false (rows.map (dR 1))] S (fun d S' => d = dR 1 (fl rows) ∧ S' = S) := by
 refine fnS [] mx Tryz.func122 rfl rfl (by kernel_rfl) ?_; (refine @goW _ ?_; refine goS1 @Tryz.ntmps122 ?_)
 refine loopN [] rows.length [0, 3, 9, 10, 11] (fun k => [(3, dI (fl (rows.take k)).length), (11, dI k)]) (fun _ => S) (fun k => True) mx (by kernel_rfl) ?_ ?_
 ·(refine @goW _ ?_; refine goS ?_)
  simp [fl]
 ·intro k hk _
  (refine @goW _ ?_; refine goS ?_)
  refine ⟨fun hlt => ⟨hlt, fun a ha => ?_⟩, fun hge => ?_⟩
  ·have h2 := fl_succ ha
   have h3 := fl_le rows (k + 1)
   rw [h2, List.length_append] at h3
   rw [w64 (by omega) (by omega)]
   refine ⟨fun h => by omega, fun h => ⟨hlt, ?_, w64 (by omega) (by omega)⟩⟩
   rw [h2, List.length_append]; omega
  ·rw [List.take_of_length_le (by omega)]
   refine useK (growB8 w0 (fl rows).length S (by omega) (by omega)) ?_
   rintro d S' ⟨l, rfl, rfl⟩
   (refine @goW _ ?_; refine goS ?_)
   refine loopN [] rows.length [6, 25, 26, 27] (fun k => [(6, .acc l.n (fl (rows.take k)).length), (27, dI k)]) (fun k => ⟨S.box, (l.n, .arr 1 (fl (rows.take k))) :: S.acc⟩) (fun k => True) mx (by kernel_rfl) ?_ ?_
   ·(refine @goW _ ?_; refine goS ?_)
    simp [fl, Wk.refl, Sub.refl]
   ·intro k hk _
    (refine @goW _ ?_; refine goS ?_)
    refine ⟨fun hlt => ⟨hlt, fun a ha => ?_⟩, fun hge => ?_⟩
    ·have h2 := fl_succ ha
     have h3 := fl_le rows (k + 1)
     rw [h2, List.length_append] at h3
     refine ⟨by omega, by unfold maxLen; omega, hlt, ⟨?_, w64 (by omega) (by omega)⟩, ?_⟩
     ·rw [h2, List.length_append]; exact .refl _
     ·rw [h2]; exact .refl _
    ·rw [List.take_of_length_le (by omega)]; exact .full _ _ _
theorem concatP (w0 : W0) (a b : ByteArray) (S : St) (h : a.size + b.size ≤ 1048576) : ACall Tryz.prog w0 122 [.sl 1 false [dB8 a, dB8 b]] S (fun d S' => d = dB8 (a ++ b) ∧ S' = S) := by
 have := concatB8 w0 [bY a, bY b] S (by simp) (by simp [fl, bY_len]; omega)
 have e : fl [bY a, bY b] = bY (a ++ b) := by simp [fl, bY_app]
 rw [e] at this
 exact this
theorem cloneRowP (w0 : W0) (s : ByteArray) {S : St} {b n c o : Nat} {ds : List DV} (hb : lk S.box b = some ds) (hs : (ds.drop o).take n = bY s) (hn : o + n ≤ ds.length) (h : s.size ≤ 1048576) :
  ACall Tryz.prog w0 127 [.v (.slice (some ⟨b, o, none⟩) n c)] S (fun d S' => d = dB8 s ∧ S' = S) := by
 refine fnS [] mx Tryz.func127 rfl rfl (by kernel_rfl) ?_; (refine @goW _ ?_; refine goS3 @Tryz.ntmps127 @hb @hs ?_)
 have hm8 : maxLen = 9223372036854775807 := rfl
 rw [bY_len]
 exact ⟨hn, by omega, by omega⟩
def halfT : List Int := [0, 498536548, 997073096, 651767980, 1994146192, 1802195444, 1303535960, 1342533948, 3988292384, 4027552580, 3604390888, 3412177804, 2607071920, 2262029012, 2685067896, 3183342108]
def halfV : List Value := halfT.map fun z => .int .u32 z
def GlobC (w0 : W0) : Prop := GlobIs w0 0 halfV
def fB (x : BitVec 32) : BitVec 32 := (x >>> 1) ^^^ (if x.getLsbD 0 then 3988292384#32 else 0#32)
theorem x_left (x y p : BitVec 32) : x ^^^ (y ^^^ p) = y ^^^ (x ^^^ p) := by rw [← BitVec.xor_assoc, BitVec.xor_comm x y, BitVec.xor_assoc]
theorem x_four (x y p : BitVec 32) : (x ^^^ p) ^^^ (y ^^^ p) = x ^^^ y := by
 rw [BitVec.xor_assoc, x_left p y p, BitVec.xor_self, BitVec.xor_zero]
theorem fB_xor (a b : BitVec 32) : fB (a ^^^ b) = fB a ^^^ fB b := by
 unfold fB
 rw [BitVec.ushiftRight_xor_distrib, BitVec.getLsbD_xor]
 cases a.getLsbD 0 <;> cases b.getLsbD 0
 ·simp
 ·simp [BitVec.xor_assoc]
 ·simp only [Bool.xor_false, Bool.true_xor, Bool.not_false, if_true, Bool.false_eq_true, if_false, BitVec.xor_zero]
  rw [BitVec.xor_assoc, BitVec.xor_assoc, BitVec.xor_comm (b >>> 1)]
 ·simp only [bne_self_eq_false, Bool.xor_self, Bool.false_eq_true, if_false, if_true, BitVec.xor_zero]
  exact (x_four _ _ _).symm
def fB4 (x : BitVec 32) : BitVec 32 := fB (fB (fB (fB x)))
theorem fB4_xor (a b : BitVec 32) : fB4 (a ^^^ b) = fB4 a ^^^ fB4 b := by unfold fB4; simp only [fB_xor]
theorem fB_even {x : BitVec 32} (h : x.getLsbD 0 = false) : fB x = x >>> 1 := by unfold fB; rw [h]; simp
theorem split_lo (x : BitVec 32) : x = ((x >>> 4) <<< 4) ^^^ (x &&& 15#32) := by
 refine BitVec.eq_of_getLsbD_eq fun i hi => ?_
 rw [BitVec.getLsbD_xor, BitVec.getLsbD_shiftLeft, BitVec.getLsbD_ushiftRight, BitVec.getLsbD_and]
 have h15 : (15#32 : BitVec 32).getLsbD i = decide (i < 4) := by
  revert hi
  have : ∀ j : Fin 32, (15#32 : BitVec 32).getLsbD j = decide (j.val < 4) := by decide
  exact fun hi => this ⟨i, hi⟩
 rw [h15]
 by_cases h4 : i < 4
 ·simp [h4]
 ·simp [h4, hi, show 4 + (i - 4) = i by omega]
theorem fB4_hi (x : BitVec 32) : fB4 ((x >>> 4) <<< 4) = x >>> 4 := by
 have hb : ∀ k, k < 4 → (((x >>> 4) <<< 4) >>> k).getLsbD 0 = false := fun k hk => by
  rw [BitVec.getLsbD_ushiftRight, BitVec.getLsbD_shiftLeft]
  simp; intro _ h; omega
 unfold fB4
 have e0 : fB ((x >>> 4) <<< 4) = ((x >>> 4) <<< 4) >>> 1 := fB_even (by have := hb 0 (by decide); simp at this ⊢)
 have e1 : fB (((x >>> 4) <<< 4) >>> 1) = ((x >>> 4) <<< 4) >>> 2 := by rw [fB_even (hb 1 (by decide)), ← BitVec.shiftRight_add]
 have e2 : fB (((x >>> 4) <<< 4) >>> 2) = ((x >>> 4) <<< 4) >>> 3 := by rw [fB_even (hb 2 (by decide)), ← BitVec.shiftRight_add]
 have e3 : fB (((x >>> 4) <<< 4) >>> 3) = ((x >>> 4) <<< 4) >>> 4 := by rw [fB_even (hb 3 (by decide)), ← BitVec.shiftRight_add]
 rw [e0, e1, e2, e3]
 refine BitVec.eq_of_getLsbD_eq fun i hi => ?_
 rw [BitVec.getLsbD_ushiftRight, BitVec.getLsbD_shiftLeft, BitVec.getLsbD_ushiftRight, BitVec.getLsbD_ushiftRight]
 by_cases h : 4 + i < 32
 ·simp [h]
 ·have : x.getLsbD (4 + i) = false := BitVec.getLsbD_of_ge _ _ (by omega)
  simp [h, this]
def tabB (k : Nat) : BitVec 32 := BitVec.ofInt 32 (halfT.getD k 0)
theorem fB4_lo : ∀ r : Fin 16, fB4 (BitVec.ofNat 32 r) = tabB r := by decide
theorem fB4_eq (x : BitVec 32) : fB4 x = (x >>> 4) ^^^ tabB (x &&& 15#32).toNat := by
 have h := split_lo x
 have hlt : (x &&& 15#32).toNat < 16 := by
  rw [BitVec.toNat_and]
  exact Nat.lt_of_le_of_lt Nat.and_le_right (by decide)
 have hr := fB4_lo ⟨_, hlt⟩
 simp only at hr
 rw [BitVec.ofNat_toNat, BitVec.setWidth_eq] at hr
 conv => lhs; rw [h]
 rw [fB4_xor, fB4_hi, hr]
def toI (b : BitVec 32) : Int := (b.toNat : Int)
theorem toI_wrap (b : BitVec 32) : IntKind.u32.wrap (toI b) = toI b := by
 have e : IntKind.u32.wrap (toI b) = toI b % 4294967296 := rfl
 have := b.isLt
 rw [e]; unfold toI; omega
theorem of_toI (b : BitVec 32) : BitVec.ofInt IntKind.u32.bits (toI b) = b := by
 show BitVec.ofInt 32 (b.toNat : Int) = b
 rw [BitVec.ofInt_natCast, BitVec.ofNat_toNat, BitVec.setWidth_eq]
theorem bitD_xor (x y : Int) : bitD .xor .u32 x y = toI (BitVec.ofInt 32 x ^^^ BitVec.ofInt 32 y) := toI_wrap (BitVec.ofInt 32 x ^^^ BitVec.ofInt 32 y)
theorem bitD_and (x y : Int) : bitD .and .u32 x y = toI (BitVec.ofInt 32 x &&& BitVec.ofInt 32 y) := toI_wrap (BitVec.ofInt 32 x &&& BitVec.ofInt 32 y)
theorem bitI_eq (b : BitVec 32) : bitI (toI b) = toI (fB b) := by
 have h2 : (toI b).tdiv 2 = toI (b >>> 1) := by
  unfold toI
  rw [BitVec.toNat_ushiftRight, Nat.shiftRight_eq_div_pow, Int.tdiv_eq_ediv_of_nonneg (by omega)]
  omega
 have h3 : (toI b).tmod 2 = ((b.toNat % 2 : Nat) : Int) := by
  unfold toI
  rw [Int.tmod_eq_emod_of_nonneg (by omega)]; omega
 have h4 : b.getLsbD 0 = decide (b.toNat % 2 = 1) := Nat.testBit_zero b.toNat
 unfold bitI fB
 rw [h2, h3, h4, toI_wrap]
 by_cases h : b.toNat % 2 = 1
 ·rw [if_pos (by omega), bitD_xor, decide_eq_true h, if_pos rfl]
  have : BitVec.ofInt 32 (toI (b >>> 1)) = b >>> 1 := of_toI _
  rw [this]; rfl
 ·rw [if_neg (by omega), decide_eq_false h]
  simp
theorem bits8_eq (b : BitVec 32) : bitsI 8 (toI b) = toI (fB4 (fB4 b)) := by
 simp only [bitsI, bitI_eq]
 rfl
def stepI (x : Int) : Int := bitD .xor .u32 (x.fdiv (2 ^ 4)) (halfT.getD (bitD .and .u32 x 15).toNat 0)
theorem stepI_eq (b : BitVec 32) : stepI (toI b) = toI (fB4 b) := by
 unfold stepI
 have h1 : (toI b).fdiv (2 ^ 4) = toI (b >>> 4) := by
  unfold toI
  rw [BitVec.toNat_ushiftRight, Nat.shiftRight_eq_div_pow, Int.fdiv_eq_ediv_of_nonneg _ (by decide)]
  omega
 have h2 : bitD .and .u32 (toI b) 15 = toI (b &&& 15#32) := by
  rw [bitD_and]
  have : BitVec.ofInt 32 (toI b) = b := of_toI b
  rw [this]; rfl
 rw [h1, h2, bitD_xor, fB4_eq]
 have : BitVec.ofInt 32 (toI (b >>> 4)) = b >>> 4 := of_toI _
 rw [this]
 unfold tabB toI
 rw [Int.toNat_natCast]
theorem crc_step (x : Int) (c : Int) : bitsI 8 (bitD .xor .u32 x (IntKind.u32.wrap c)) = stepI (stepI (bitD .xor .u32 x (IntKind.u32.wrap c))) := by
 rw [bitD_xor, bits8_eq, stepI_eq, stepI_eq]
theorem and15 (x : Int) : 0 ≤ bitD .and .u32 x 15 ∧ bitD .and .u32 x 15 < 16 := by
 rw [bitD_and]
 unfold toI
 have : (BitVec.ofInt 32 x &&& BitVec.ofInt 32 15).toNat < 16 := by
  rw [BitVec.toNat_and]
  exact Nat.lt_of_le_of_lt Nat.and_le_right (by decide)
 omega
theorem half_get : ∀ r : Fin 16, (halfV.map DV.v).drop r.val = .v (.int .u32 (halfT.getD r.val 0)) :: (halfV.map DV.v).drop (r.val + 1)
 | ⟨0, _⟩ => rfl
 | ⟨1, _⟩ => rfl
 | ⟨2, _⟩ => rfl
 | ⟨3, _⟩ => rfl
 | ⟨4, _⟩ => rfl
 | ⟨5, _⟩ => rfl
 | ⟨6, _⟩ => rfl
 | ⟨7, _⟩ => rfl
 | ⟨8, _⟩ => rfl
 | ⟨9, _⟩ => rfl
 | ⟨10, _⟩ => rfl
 | ⟨11, _⟩ => rfl
 | ⟨12, _⟩ => rfl
 | ⟨13, _⟩ => rfl
 | ⟨14, _⟩ => rfl
 | ⟨15, _⟩ => rfl
 | ⟨n + 16, h⟩ => absurd h (by omega)
theorem half_at {z : Int} (h0 : 0 ≤ z) (h1 : z < 16) : (halfV.map DV.v).drop z.toNat = .v (.int .u32 (halfT.getD z.toNat 0)) :: (halfV.map DV.v).drop (z.toNat + 1) := half_get ⟨z.toNat, by omega⟩
theorem not_u32 (x : Int) (h0 : 0 ≤ x) (h1 : x ≤ 4294967295) : bitD .xor .u32 4294967295 x = 4294967295 - x := by
 have hx : x = toI (BitVec.ofNat 32 x.toNat) := by
  unfold toI
  rw [BitVec.toNat_ofNat]; omega
 rw [bitD_xor, hx]
 have e : BitVec.ofInt 32 (toI (BitVec.ofNat 32 x.toNat)) = BitVec.ofNat 32 x.toNat := of_toI _
 rw [e]
 have e2 : (BitVec.ofInt 32 4294967295 : BitVec 32) = BitVec.allOnes 32 := by decide
 rw [e2, BitVec.allOnes_xor]
 unfold toI
 rw [BitVec.toNat_not]
 have := (BitVec.ofNat 32 x.toNat).isLt
 omega
theorem crcF_ge (l : List Int) (x : Int) (h0 : 0 ≤ x) (h1 : x ≤ 4294967295) : 0 ≤ crcF l x ∧ crcF l x ≤ 4294967295 := by
 unfold crcF
 induction l generalizing x with
 | nil => exact ⟨h0, h1⟩
 | cons a l ih =>
  rw [List.foldl_cons]
  refine ih _ ?_ ?_ <;> rw [bitD_xor, bits8_eq] <;> unfold toI <;> have := (fB4 (fB4 (BitVec.ofInt 32 x ^^^ BitVec.ofInt 32 (IntKind.u32.wrap a)))).isLt <;> omega
theorem onP (w0 : W0) (hg : GlobC w0) (s : ByteArray) {S : St} {b n c o : Nat} {ds : List DV} (hb : lk S.box b = some ds) (hs : (ds.drop o).take n = bY s) (hn : o + n ≤ ds.length) (h : s.size ≤ 1048576) :
  ACall Tryz.prog w0 154 [.v (.int .u32 0), .v (.slice (some ⟨b, o, none⟩) n c)] S (fun d S' => d = .v (.int .u32 (onS 0 s)) ∧ S' = S) := by
 have hG := globK_of hg
 have hns : n = s.size := by
  have := congrArg List.length hs
  rw [List.length_take, List.length_drop, bY_len] at this
  omega
 have e0 : bitD .xor .u32 (if IntKind.u32.signed = true then -1 else IntKind.u32.max) 0 = 4294967295 := by decide
 refine fnS [] mx Tryz.func154 rfl rfl (by kernel_rfl) ?_; (refine @goW _ ?_; refine goS2 @Tryz.ntmps154 @e0 ?_)
 refine loopN [] n [5, 10, 11, 12] (fun k => [(5, .v (.int .u32 (crcF ((bytI s).take k) 4294967295))), (12, dI k)]) (fun _ => S) (fun _ => True) mx (by kernel_rfl) ?_ ?_
 ·(refine @goW _ ?_; refine goS ?_)
  rfl
 ·intro k hk _
  have e1 : IntKind.i64.wrap ((k : Int) + 1) = ((k + 1 : Nat) : Int) := by rw [w64 (by omega) (by omega)]; omega
  have ek : (k : Int).toNat * 1 = k := by omega
  by_cases hlt : k < n
  ·have hc : s.data.toList[k]? = some s.data.toList[k] := List.getElem?_eq_getElem (by have : s.data.toList.length = s.size := rfl; omega)
   generalize s.data.toList[k] = c at hc
   have hd : ds.drop (o + k * 1) = .v (.int .u8 c.toNat) :: ds.drop (o + k + 1) := by
    rw [Nat.mul_one]
    have h1 : (bY s)[k]? = some (.v (.int .u8 c.toNat)) := by unfold bY; rw [List.getElem?_map, hc]; rfl
    rw [← hs, List.getElem?_take, if_pos hlt, List.getElem?_drop] at h1
    obtain ⟨hl, he⟩ := List.getElem?_eq_some_iff.1 h1
    rw [List.drop_eq_getElem_cons hl, he]
   have hh : ∀ x, (halfV.map DV.v).drop ((bitD .and .u32 x 15).toNat * 1) = .v (.int .u32 (halfT.getD (bitD .and .u32 x 15).toNat 0)) :: (halfV.map DV.v).drop ((bitD .and .u32 x 15).toNat + 1) := fun x => by
    rw [Nat.mul_one]
    exact half_at (and15 x).1 (and15 x).2
   have hh2 : halfV.length = 16 := rfl
   have hcs : crcF ((bytI s).take (k + 1)) 4294967295 = stepI (stepI (bitD .xor .u32 (crcF ((bytI s).take k) 4294967295) (IntKind.u32.wrap (c.toNat : Int)))) := by
    have hb' : (bytI s)[k]? = some (c.toNat : Int) := by unfold bytI; rw [List.getElem?_map, hc]; rfl
    have : (bytI s).take (k + 1) = (bytI s).take k ++ [(c.toNat : Int)] := by rw [List.take_add_one, hb']; rfl
    rw [this]
    unfold crcF
    rw [List.foldl_append]
    exact crc_step _ _
   rw [hcs]
   have i3 : ∀ x, (bitD .and .u32 x 15).toNat * 1 ≤ 16 := fun x => by have := and15 x; omega
   (refine @goW _ ?_; refine goS6 @hb @hG @ek @hd @hh @hh2 ?_)
   exact ⟨fun q => ⟨q, (and15 _).1, (and15 _).2, i3 _, (and15 _).1, (and15 _).2, i3 _, q, rfl, e1⟩, fun q => absurd hlt q⟩
  ·have hend : bitD .xor .u32 (if IntKind.u32.signed = true then -1 else IntKind.u32.max) (crcF ((bytI s).take k) 4294967295) = onS 0 s := by
    have hk2 : (bytI s).take k = bytI s := List.take_of_length_le (by rw [bytI_len]; omega)
    rw [hk2]
    have hc := crcF_ge (bytI s) 4294967295 (by decide) (by decide)
    have hif : (if IntKind.u32.signed = true then (-1 : Int) else IntKind.u32.max) = 4294967295 := by decide
    rw [hif, not_u32 _ hc.1 hc.2]
    unfold onS
    have e5 : IntKind.u32.wrap (4294967295 - 0) = 4294967295 := by decide
    rw [e5]
    have e : IntKind.u32.wrap (4294967295 - crcF (bytI s) 4294967295) = (4294967295 - crcF (bytI s) 4294967295) % 4294967296 := rfl
    rw [e]; omega
   (refine @goW _ ?_; refine goS3 @hb @hG @ek ?_)
   exact ⟨fun q => absurd q hlt, fun _ => hend⟩
theorem ofP (w0 : W0) (hg : GlobC w0) (s : ByteArray) {S : St} {b n c o : Nat} {ds : List DV} (hb : lk S.box b = some ds) (hs : (ds.drop o).take n = bY s) (hn : o + n ≤ ds.length) (h : s.size ≤ 1048576) :
  ACall Tryz.prog w0 126 [.v (.slice (some ⟨b, o, none⟩) n c)] S (fun d S' => d = .v (.int .u32 (onS 0 s)) ∧ S' = S) := by
 refine fnS [] mx Tryz.func126 rfl rfl (by kernel_rfl) ?_; (refine @goW _ ?_; refine goS1 @Tryz.ntmps126 ?_)
 refine use1 (onP w0 hg s hb hs hn h) ?_
 (refine @goW _ ?_; exact goT)
theorem strOfNums_cons (a : Int) (l : List Int) : strOfNums (a :: l) = strOfNums [a] ++ strOfNums l := by
 apply ByteArray.ext
 simp [strOfNums, ByteArray.data_append]
def z8 : DV := .v (.int .u8 0)
def pgP (kind : Int) (n k : Nat) (l : List ByteArray) : List DV :=
 (List.replicate 4 z8 ++ [.v (.int .u8 kind), .v (.int .u8 (IntKind.u8.wrap (n : Int)))] ++ bY (slotS (l.take k) noS noS)) ++ (List.replicate (122 - sizS (l.take k)) z8 ++ bY (backS (l.take k) noS))
theorem slot_len (l : List ByteArray) : (bY (slotS l noS noS)).length = l.length := by rw [bY_len, slot_size, noS_size]; omega
theorem back_len (l : List ByteArray) : (bY (backS l noS)).length + l.length = sizS l := by
 have := back_size l noS
 rw [noS_size] at this
 rw [bY_len]; omega
theorem pg_len {kind : Int} {n k : Nat} {l : List ByteArray} (h : sizS l ≤ 122) : (pgP kind n k l).length = 128 := by
 have h1 := slot_len (l.take k)
 have h2 := back_len (l.take k)
 have h3 := sizS_take l k
 unfold pgP
 simp only [List.length_append, List.length_replicate, List.length_cons, List.length_nil]
 omega
theorem flat_bY (s : ByteArray) : (bY s).flatMap cd = bY s := by
 unfold bY
 induction s.data.toList with
 | nil => rfl
 | cons a m ih =>
  rw [List.map_cons, List.flatMap_cons, ih]; rfl
theorem ok_bY (s : ByteArray) : ∀ d, d ∈ bY s → okE d = true := fun d hd => by
 unfold bY at hd
 obtain ⟨c, _, rfl⟩ := List.mem_map.1 hd
 rfl
theorem wrap8_ge (x : Int) : 0 ≤ IntKind.u8.wrap x ∧ IntKind.u8.wrap x ≤ 255 := by
 have e : IntKind.u8.wrap x = x % 256 := rfl
 rw [e]
 have := Int.emod_nonneg x (by decide : (256 : Int) ≠ 0)
 have := Int.emod_lt_of_pos x (by decide : (0 : Int) < 256)
 omega
theorem pg_step {kind : Int} {n k : Nat} {l : List ByteArray} {c : ByteArray} (h : sizS l ≤ 122) (hc : l[k]? = some c) (e : Nat) (he : e + (bY (backS (l.take k) noS)).length + c.size = 128) :
  (putL (pgP kind n k l) e (bY c)).set (6 + k) (.v (.int .u8 (IntKind.u8.wrap (e : Int)))) = pgP kind n (k + 1) l := by
 have h1 := slot_len (l.take k)
 have h2 := back_len (l.take k)
 have h3 := sizS_take l (k + 1)
 have h4 := sizS_succ hc
 have hk : k < l.length := (List.getElem?_eq_some_iff.1 hc).1
 have htk : (l.take k).length = k := by rw [List.length_take]; omega
 have ht : l.take (k + 1) = l.take k ++ [c] := by rw [List.take_add_one, hc]; rfl
 have hlen := pg_len (kind := kind) (n := n) (k := k) h
 have hcl := bY_len c
 have hbk : bY (backS (l.take (k + 1)) noS) = bY c ++ bY (backS (l.take k) noS) := by
  rw [ht, back_app]
  show bY (c ++ backS (l.take k) noS) = _
  rw [bY_app]
 have hbs : (bY (backS (l.take k) noS)).length = (backS (l.take k) noS).size := bY_len _
 have hsl : bY (slotS (l.take (k + 1)) noS noS) = bY (slotS (l.take k) noS noS) ++ [.v (.int .u8 (IntKind.u8.wrap (e : Int)))] := by
  rw [ht, slot_app]
  show bY (slotS (l.take k) noS noS ++ strOfNums [IntKind.u8.wrap (IntKind.i64.wrap (128 - (((c ++ backS (l.take k) noS).size : Nat) : Int)))]) = _
  have hw := wrap8_ge (e : Int)
  have e1 : IntKind.i64.wrap (128 - (((c ++ backS (l.take k) noS).size : Nat) : Int)) = e := by
   rw [ByteArray.size_append, w64 (by omega) (by omega)]; omega
  rw [e1, bY_app, bY_one _ hw.1 hw.2]
 have hz : List.replicate (122 - sizS (l.take k)) z8 = z8 :: (List.replicate (122 - sizS (l.take (k + 1))) z8 ++ List.replicate c.size z8) := by
  rw [List.replicate_append_replicate, ← List.replicate_succ]
  congr 1; omega
 have hput : putL (pgP kind n k l) e (bY c) = (List.replicate 4 z8 ++ [.v (.int .u8 kind), .v (.int .u8 (IntKind.u8.wrap (n : Int)))] ++ bY (slotS (l.take k) noS noS)) ++ (z8 :: (List.replicate (122 - sizS (l.take (k + 1))) z8 ++ (bY c ++ bY (backS (l.take k) noS)))) := by
  unfold putL pgP
  rw [hz]
  generalize hA : (List.replicate 4 z8 ++ [DV.v (.int .u8 kind), .v (.int .u8 (IntKind.u8.wrap (n : Int)))] ++ bY (slotS (l.take k) noS noS)) = A
  have hAl : A.length = 6 + k := by
   rw [← hA]
   simp only [List.length_append, List.length_replicate, List.length_cons, List.length_nil]
   omega
  generalize hB : bY (backS (l.take k) noS) = B at *
  have e1 : A ++ (z8 :: (List.replicate (122 - sizS (l.take (k + 1))) z8 ++ List.replicate c.size z8) ++ B) = (A ++ (z8 :: List.replicate (122 - sizS (l.take (k + 1))) z8)) ++ (List.replicate c.size z8 ++ B) := by simp only [List.append_assoc, List.cons_append]
  have e2 : A ++ (z8 :: (List.replicate (122 - sizS (l.take (k + 1))) z8 ++ (bY c ++ B))) = (A ++ (z8 :: List.replicate (122 - sizS (l.take (k + 1))) z8)) ++ (bY c ++ B) := by simp only [List.append_assoc, List.cons_append]
  have hPl : (A ++ (z8 :: List.replicate (122 - sizS (l.take (k + 1))) z8)).length = e := by
   simp only [List.length_append, List.length_cons, List.length_replicate]
   omega
  rw [e1, e2]
  rw [List.take_left' hPl, List.append_assoc]
  congr 2
  rw [← hPl, List.drop_append, show (bY c).length = c.size from hcl, List.drop_of_length_le (by omega), List.nil_append]
  have hz0 : List.drop (e + c.size - e) (List.replicate c.size z8 ++ B) = B := by
   rw [show e + c.size - e = (List.replicate c.size z8).length by simp, List.drop_left]
  rw [← hPl] at hz0
  exact hz0
 rw [hput]
 unfold pgP
 rw [hsl, hbk]
 generalize hA : (List.replicate 4 z8 ++ [DV.v (.int .u8 kind), .v (.int .u8 (IntKind.u8.wrap (n : Int)))]) = A
 have hAl : A.length = 6 := by rw [← hA]; rfl
 have hl6 : (A ++ bY (slotS (l.take k) noS noS)).length = 6 + k := by rw [List.length_append, hAl, h1, htk]
 rw [List.set_append_right _ _ (by omega), hl6, Nat.sub_self]
 simp
theorem pg_end (kind : Int) (l : List ByteArray) (h : sizS l ≤ 122) (hk0 : 0 ≤ kind) (hk1 : kind ≤ 255) : pgP kind l.length l.length l = List.replicate 4 z8 ++ bY (bodyS kind l) := by
 have hz : ∀ m, bY (strOfNums (List.replicate m 0)) = List.replicate m z8 := fun m => by
  induction m with
  | zero => rfl
  | succ m ih =>
   have e : strOfNums (List.replicate (m + 1) 0) = strOfNums [0] ++ strOfNums (List.replicate m 0) := by
    rw [List.replicate_succ, strOfNums_cons]
   rw [e, bY_app, ih, bY_one 0 (by decide) (by decide)]; rfl
 have hw := wrap8_ge (l.length : Int)
 unfold pgP bodyS
 rw [List.take_of_length_le (Nat.le_refl _), bY_app, bY_app, bY_app, hz, strOfNums_cons, bY_app, bY_one _ hk0 hk1, bY_one _ hw.1 hw.2]
 simp
theorem packP (w0 : W0) (hg : GlobC w0) (kind : Int) (l : List ByteArray) (S : St) (hk : kind ≠ 0) (hk0 : 0 ≤ kind) (hk1 : kind ≤ 255) (h : sizS l ≤ 122) : ACall Tryz.prog w0 81 [dY kind, .sl 1 false (l.map dB8)] S (fun d S' => d = .tup [dB8 (packS kind l), dI 0] ∧ S' = S) := by
 have hll := siz_len l
 refine fnS [] mx Tryz.func81 rfl rfl (by kernel_rfl) ?_; (refine @goW _ ?_; refine goS1 @Tryz.ntmps81 ?_)
 refine ⟨fun h0 => absurd h0 hk, fun _ => use1 (sizeP w0 l _ (by omega) (by omega)) ?_⟩
 (refine @goW _ ?_; refine goS ?_)
 refine ⟨fun h0 => by omega, fun _ b => ?_⟩
 refine loopN [] l.length [6, 7, 23, 24, 25] (fun k => [(7, dI ((128 - (backS (l.take k) noS).size : Nat) : Int)), (25, dI k)]) (fun k => ⟨(b.n, pgP kind l.length k l) :: S.box, S.acc⟩) (fun _ => True) mx (by kernel_rfl) ?_ ?_
 ·(refine @goW _ ?_; refine goS ?_)
  exact ⟨rfl, .refl _⟩
 ·intro k hk' _
  have e1 : IntKind.i64.wrap ((k : Int) + 1) = ((k + 1 : Nat) : Int) := by rw [w64 (by omega) (by omega)]; omega
  have h1 := back_len (l.take k)
  have hbs := bY_len (backS (l.take k) noS)
  have htk : (l.take k).length = k := by rw [List.length_take]; omega
  have h3 := sizS_take l k
  have hpl := pg_len (kind := kind) (n := l.length) (k := k) h
  have e6 : IntKind.i64.wrap (6 + (k : Int)) = ((6 + k : Nat) : Int) := by rw [w64 (by omega) (by omega)]; omega
  (refine @goW _ ?_; refine goS ?_)
  refine ⟨fun hlt => ⟨hlt, fun c hc => ?_⟩, fun hge => ?_⟩
  ·have h4 := sizS_succ hc
   have h5 := sizS_take l (k + 1)
   have hcl := bY_len c
   have ht : l.take (k + 1) = l.take k ++ [c] := by rw [List.take_add_one, hc]; rfl
   have hb2 : (backS (l.take (k + 1)) noS).size = (backS (l.take k) noS).size + c.size := by
    rw [ht, back_app]
    show (c ++ backS (l.take k) noS).size = _
    rw [ByteArray.size_append]; omega
   have e7 : IntKind.i64.wrap (((128 - (backS (l.take k) noS).size : Nat) : Int) - (c.size : Int)) = ((128 - (backS (l.take (k + 1)) noS).size : Nat) : Int) := by rw [w64 (by omega) (by omega)]; omega
   have hE : (128 - (backS (l.take (k + 1)) noS).size) + (bY (backS (l.take k) noS)).length + c.size = 128 := by omega
   have hst := pg_step (kind := kind) (n := l.length) h hc _ hE
   rw [hcl, e7]
   generalize 128 - (backS (l.take (k + 1)) noS).size = E at *
   have hput : putL (pgP kind l.length k l) (if 128 = (E : Int).toNat then 0 else (E : Int).toNat * 1) ((bY c).flatMap cd) = putL (pgP kind l.length k l) E (bY c) := by
    rw [flat_bY, Int.toNat_natCast, Nat.mul_one]
    split
    ·have hc0 : bY c = [] := List.eq_nil_of_length_eq_zero (by omega)
     rw [hc0]
     simp [putL]
    ·rfl
   have hpl2 : (putL (pgP kind l.length k l) E (bY c)).length = 128 := by
    unfold putL
    simp only [List.length_append, List.length_take, List.length_drop]
    omega
   rw [hput, e6, hpl2, hpl, show ((6 + k : Nat) : Int).toNat * 1 = 6 + k by omega, hst]
   refine ⟨by omega, by omega, ?_, ok_bY c, by omega, by omega, by omega, by omega, hlt, ⟨rfl, e1⟩, .refl _⟩
   split <;> omega
  ·have hkl : k = l.length := by omega
   rw [hkl, pg_end kind l h hk0 hk1]
   have hbl := body_size kind h
   have hbd : (List.drop 4 (List.replicate 4 z8 ++ bY (bodyS kind l))).take 124 = bY (bodyS kind l) := by
    have e : List.drop 4 (List.replicate 4 z8 ++ bY (bodyS kind l)) = bY (bodyS kind l) := List.drop_left' rfl
    rw [e]
    exact List.take_of_length_le (by rw [bY_len]; omega)
   refine useQ (ofP w0 hg (bodyS kind l) (b := b.n) (S := ⟨(b.n, List.replicate 4 z8 ++ bY (bodyS kind l)) :: S.box, S.acc⟩) (ds := List.replicate 4 z8 ++ bY (bodyS kind l)) (by simp [lk]) hbd (by simp [bY_len]; omega) (by omega)) ?_
   (refine @goW _ ?_; refine goS ?_)
   have hcr : 0 ≤ IntKind.u64.wrap (onS 0 (bodyS kind l)) ∧ IntKind.u64.wrap (onS 0 (bodyS kind l)) < 18446744073709551616 := by
    have e : IntKind.u64.wrap (onS 0 (bodyS kind l)) = onS 0 (bodyS kind l) % 18446744073709551616 := rfl
    rw [e]
    exact ⟨Int.emod_nonneg _ (by decide), Int.emod_lt_of_pos _ (by decide)⟩
   refine useQ (numP w0 _ 4 _ (by decide) (by decide) hcr.1 hcr.2) ?_
   have hnl : (bY (numS 4 (IntKind.u64.wrap (onS 0 (bodyS kind l))))).length = 4 := by rw [bY_len, numS_size]
   have hbl2 : (bY (bodyS kind l)).length = 124 := by rw [bY_len, hbl]
   have hput : putL (z8 :: z8 :: z8 :: z8 :: bY (bodyS kind l)) 0 ((bY (numS 4 (IntKind.u64.wrap (onS 0 (bodyS kind l))))).flatMap cd) = bY (packS kind l) := by
    rw [flat_bY]
    unfold packS putL
    rw [bY_app, List.take_zero, List.nil_append, Nat.zero_add, hnl]
    rfl
   (refine @goW _ ?_; refine goS3 @hnl @hbl2 @hput ?_)
   have hpk : (bY (packS kind l)).length = 128 := by rw [bY_len, pack_size kind h]
   refine ⟨ok_bY _, use1 (cloneRowP w0 (packS kind l) (b := b.n) (o := 0) (n := 128) (c := 128) (ds := bY (packS kind l)) (by simp [lk]) ?_ (by omega) (by have := pack_size kind h; omega)) ?_⟩
   ·rw [List.drop_zero, List.take_of_length_le (by omega)]
   ·(refine @goW _ ?_; exact goT)
end Go.Proofs.YtpcmnebpnpgcmaaGreatDoor
namespace Aml.Y
open Go Go.RowKit
def kY (op : Op) : Nat := match op with
 | .lookup .. => 1
 | op => Z.kX op
def cls (gs ns : List Nat) (i : Nat) (op : Op) : Nat := if gs.contains i then 2 else if ns.contains i then 3 else match kY op with
 | 0 => 0
 | 1 => 1
 | 2 => 4
 | _ => 3
def okP (a b : Nat) : Bool := a == 0 || (a == 1 && (decide (b < 3) || b == 4)) || (a == 4 && b == 4)
structure StP (S T : St) : Prop where
 box : S.box.Perm T.box
 acc : S.acc.Perm T.acc
theorem StP.refl (S : St) : StP S S := ⟨.refl _, .refl _⟩
theorem StP.symm {S T : St} (h : StP S T) : StP T S := ⟨h.box.symm, h.acc.symm⟩
theorem StP.trans {S T U : St} (h : StP S T) (k : StP T U) : StP S U := ⟨h.box.trans k.box, h.acc.trans k.acc⟩
theorem StP.rel {w0 : W0} {g : Gh} {S T : St} {w : World} (h : StP S T) (r : Rel w0 g S w) : Rel w0 g T w :=
 ⟨r.below, r.imm, (h.box.map _).nodup_iff.1 r.nb, (h.acc.map _).nodup_iff.1 r.na, r.accw, r.fresh, fun l o ho => r.top l o (h.acc.mem_iff.2 ho), let ⟨ow, h1, h2⟩ := r.own
  ⟨ow, fun b ds hb => h1 b ds (h.box.mem_iff.2 hb), fun l o hl => h2 l o (h.acc.mem_iff.2 hl)⟩⟩
theorem nin_all {α : Type} : ∀ {l : List (Nat × α)} {b : Nat}, nin l b → ∀ p, p ∈ l → p.1 ≠ b
 | [], b, _, p, h => by cases h
 | (k, x) :: t, b, h, p, hp => by
   rcases List.mem_cons.1 hp with rfl | hp
   ·exact h.1
   ·exact nin_all h.2.2 p hp
theorem nin_ex {α : Type} (l : List (Nat × α)) : ∃ b, nin l b := by
 have : ∃ b, ∀ p, p ∈ l → p.1 < b := by
  induction l with
  | nil => exact ⟨0, fun p h => by cases h⟩
  | cons a l ih =>
   obtain ⟨b, hb⟩ := ih
   refine ⟨a.1 + b + 1, fun p hp => ?_⟩
   rcases List.mem_cons.1 hp with rfl | hp
   ·omega
   ·have := hb p hp; omega
 obtain ⟨b, hb⟩ := this
 exact ⟨b, nin_of fun p hp e => by have := hb p hp; omega⟩
theorem StP.nin {S T : St} (h : StP S T) {b : Nat} (k : nin S.box b) : nin T.box b := nin_of fun p hp => nin_all k p (h.box.mem_iff.2 hp)
theorem StP.yields {P : Program} {w0 : W0} {o : Oper} {ρ : Operand → DV} {S T : St} {K : DV → St → Prop} (h : StP S T) (y : YieldsE P w0 o ρ S K) : YieldsE P w0 o ρ T K :=
 fun g w r h1 h2 h3 => y g w r (h.symm.rel h1) h2 h3
structure Hm (X T : St) : Prop where
 box : ∀ b x, lk X.box b = some x → (b, x) ∈ T.box
 acc : ∀ l o, lk X.acc l = some o → (l, o) ∈ T.acc
theorem Hm.of {X T : St} (h : Has X T) : Hm X T := ⟨fun b x hb => lk_mem (h.box b x hb), fun l o hl => lk_mem (h.acc l o hl)⟩
theorem Hm.perm {X S T : St} (h : Hm X S) (k : StP S T) : Hm X T := ⟨fun b x hb => k.box.mem_iff.1 (h.box b x hb), fun l o hl => k.acc.mem_iff.1 (h.acc l o hl)⟩
theorem Hm.has {X T : St} {w0 : W0} {g : Gh} {w : World} (h : Hm X T) (r : Rel w0 g T w) : Has X T := ⟨fun b x hb => lk_of_mem r.nb (h.box b x hb), fun l o hl => lk_of_mem r.na (h.acc l o hl)⟩
def PC (F : List DV → St → Prop) (fr : List DV) (S : St) : Prop := ∃ T, StP T S ∧ F fr T
theorem PC.mono {F G : List DV → St → Prop} (h : ∀ fr S, F fr S → G fr S) {fr : List DV} {S : St} (k : PC F fr S) : PC G fr S := let ⟨T, a, b⟩ := k; ⟨T, a, h _ _ b⟩
def Clo (K : List DV → St → Prop) : Prop := ∀ fr S T, StP S T → K fr S → K fr T
theorem PC.clo (F : List DV → St → Prop) : Clo (PC F) := fun _ _ _ h ⟨U, a, b⟩ => ⟨U, a.trans h, b⟩
def bodyO (P : Program) (w0 : W0) (S0 : St) (c : Nat) (o : Oper) (fr : List DV) (S : St) (K : List DV → St → Prop) : Prop :=
 (c = 0 ∧ ∃ d, (∀ S', QY P w0 S' o fr d) ∧ K (pt fr o.dst d) S) ∨
 (c = 1 ∧ Hm S0 S ∧ ∃ d, (∀ S', Hm S0 S' → QY P w0 S' o fr d) ∧ K (pt fr o.dst d) S) ∨
 (c = 2 ∧ YieldsE P w0 o (ev fr) S fun d S' => Hm S0 S' ∧ K (pt fr o.dst d) S') ∨
 (c = 3 ∧ YieldsE P w0 o (ev fr) S fun d S' => K (pt fr o.dst d) S') ∨
 (c = 4 ∧ Hm S0 S ∧ ∃ t, o.op = .alloc t ∧ okE (zD P t) = true ∧ ∀ b, nin S.box b → K (pt fr o.dst (.v (.pointer (some ⟨b, 0, none⟩)))) ⟨(b, cd (zD P t)) :: S.box, S.acc⟩)
def tauO (P : Program) (w0 : W0) (S0 : St) (c : Nat) (ops : Array Oper) (o : Oper) (fr : List DV) (S : St) (K : List DV → St → Prop) : Prop :=
 (wantB ops fr o.guard = some true ∧ bodyO P w0 S0 c o fr S K) ∨ (wantB ops fr o.guard = some false ∧ K (pt fr o.dst ud) S)
section
variable {P : Program} {w0 : W0} {S0 : St} {ops : Array Oper} {md : Region.Mode}
theorem bodyO_mono {c : Nat} {o : Oper} {fr : List DV} {S : St} {K K' : List DV → St → Prop} (h : ∀ fr S, K fr S → K' fr S) (b : bodyO P w0 S0 c o fr S K) : bodyO P w0 S0 c o fr S K' := by
 rcases b with ⟨c, d, q, k⟩ | ⟨c, hS, d, q, k⟩ | ⟨c, q⟩ | ⟨c, q⟩ | ⟨c, hS, t, ht, hz, k⟩
 ·exact .inl ⟨c, d, q, h _ _ k⟩
 ·exact .inr (.inl ⟨c, hS, d, q, h _ _ k⟩)
 ·exact .inr (.inr (.inl ⟨c, yields_mono (fun d S hk => ⟨hk.1, h _ _ hk.2⟩) q⟩))
 ·exact .inr (.inr (.inr (.inl ⟨c, yields_mono (fun d S hk => h _ _ hk) q⟩)))
 ·exact .inr (.inr (.inr (.inr ⟨c, hS, t, ht, hz, fun b hb => h _ _ (k b hb)⟩)))
theorem tauO_mono {c : Nat} {o : Oper} {fr : List DV} {S : St} {K K' : List DV → St → Prop} (h : ∀ fr S, K fr S → K' fr S) (b : tauO P w0 S0 c ops o fr S K) : tauO P w0 S0 c ops o fr S K' :=
 b.imp (fun ⟨a, b⟩ => ⟨a, bodyO_mono h b⟩) fun ⟨a, b⟩ => ⟨a, h _ _ b⟩
theorem tauO_clo {c : Nat} {o : Oper} {K : List DV → St → Prop} (hK : Clo K) : Clo fun fr S => tauO P w0 S0 c ops o fr S K := fun fr S T hp h => by
 rcases h with ⟨g, b⟩ | ⟨g, k⟩
 ·refine .inl ⟨g, ?_⟩
  rcases b with ⟨c, d, q, k⟩ | ⟨c, hS, d, q, k⟩ | ⟨c, q⟩ | ⟨c, q⟩ | ⟨c, hS, t, ht, hz, k⟩
  ·exact .inl ⟨c, d, q, hK _ _ _ hp k⟩
  ·exact .inr (.inl ⟨c, hS.perm hp, d, q, hK _ _ _ hp k⟩)
  ·exact .inr (.inr (.inl ⟨c, hp.yields q⟩))
  ·exact .inr (.inr (.inr (.inl ⟨c, hp.yields q⟩)))
  ·exact .inr (.inr (.inr (.inr ⟨c, hS.perm hp, t, ht, hz, fun b hb => hK _ ⟨(b, cd (zD P t)) :: S.box, S.acc⟩ _ ⟨hp.box.cons _, hp.acc⟩ (k b (hp.symm.nin hb))⟩)))
 ·exact .inr ⟨g, hK _ _ _ hp k⟩
theorem bodyO_put {c : Nat} {o : Oper} {fr : List DV} {S : St} {K : List DV → St → Prop} {dst : Option Tmp} {e : DV} (h1 : ∀ t, dst = some t → t ∉ o.looksAt ops) (h2 : ∀ t, dst = some t → o.dst ≠ some t) :
  bodyO P w0 S0 c o (pt fr dst e) S K ↔ bodyO P w0 S0 c o fr S fun fr' S' => K (pt fr' dst e) S' := by
 have hq : ∀ S d, QY P w0 S o (pt fr dst e) d ↔ QY P w0 S o fr d := fun S d =>
  ⟨yields_congr (fun x hx => ev_put (ops := ops) h1 x hx), yields_congr (fun x hx => (ev_put (ops := ops) h1 x hx).symm)⟩
 have hc : ∀ d, pt (pt fr dst e) o.dst d = pt (pt fr o.dst d) dst e := fun d => pt_comm fr e d h2
 have hy : ∀ K, YieldsE P w0 o (ev (pt fr dst e)) S K ↔ YieldsE P w0 o (ev fr) S K := fun K =>
  ⟨yields_congr (fun x hx => ev_put (ops := ops) h1 x hx), yields_congr (fun x hx => (ev_put (ops := ops) h1 x hx).symm)⟩
 unfold bodyO
 simp only [hq, hc, hy]
theorem tauO_put {c : Nat} {o : Oper} {fr : List DV} {S : St} {K : List DV → St → Prop} {dst : Option Tmp} {e : DV} (h1 : ∀ t, dst = some t → t ∉ o.looksAt ops) (h2 : ∀ t, dst = some t → o.dst ≠ some t) :
  tauO P w0 S0 c ops o (pt fr dst e) S K ↔ tauO P w0 S0 c ops o fr S fun fr' S' => K (pt fr' dst e) S' := by
 unfold tauO
 rw [want_put h1, bodyO_put h1 h2, pt_comm fr e ud h2]
theorem bodyO_monoP {c : Nat} {o : Oper} {fr : List DV} {S : St} {K K' : List DV → St → Prop} (h : ∀ e S, K (pt fr o.dst e) S → K' (pt fr o.dst e) S) (b : bodyO P w0 S0 c o fr S K) : bodyO P w0 S0 c o fr S K' := by
 rcases b with ⟨c, d, q, k⟩ | ⟨c, hS, d, q, k⟩ | ⟨c, q⟩ | ⟨c, q⟩ | ⟨c, hS, t, ht, hz, k⟩
 ·exact .inl ⟨c, d, q, h _ _ k⟩
 ·exact .inr (.inl ⟨c, hS, d, q, h _ _ k⟩)
 ·exact .inr (.inr (.inl ⟨c, yields_mono (fun d S hk => ⟨hk.1, h _ _ hk.2⟩) q⟩))
 ·exact .inr (.inr (.inr (.inl ⟨c, yields_mono (fun d S hk => h _ _ hk) q⟩)))
 ·exact .inr (.inr (.inr (.inr ⟨c, hS, t, ht, hz, fun b hb => h _ _ (k b hb)⟩)))
theorem tauO_monoP {c : Nat} {o : Oper} {fr : List DV} {S : St} {K K' : List DV → St → Prop} (h : ∀ e S, K (pt fr o.dst e) S → K' (pt fr o.dst e) S) (b : tauO P w0 S0 c ops o fr S K) : tauO P w0 S0 c ops o fr S K' :=
 b.imp (fun ⟨a, b⟩ => ⟨a, bodyO_monoP h b⟩) fun ⟨a, b⟩ => ⟨a, h _ _ b⟩
theorem Hm.cons {X S : St} (h : Hm X S) {b : Nat} (v : List DV) : Hm X ⟨(b, v) :: S.box, S.acc⟩ := ⟨fun c x hc => List.mem_cons_of_mem _ (h.box c x hc), fun l o hl => h.acc l o hl⟩
theorem tauO_comm0 {cx cy : Nat} {x y : Oper} (hap : x.apart ops y = true) (hk : okP cx cy = true) {fr : List DV} {S : St} {K : List DV → St → Prop} (hK : Clo K) (h : tauO P w0 S0 cx ops x fr S fun fr S => tauO P w0 S0 cy ops y fr S K) :
  tauO P w0 S0 cy ops y fr S fun fr S => tauO P w0 S0 cx ops x fr S K := by
 obtain ⟨b1, b2, b3⟩ := Oper.apart_spec hap
 have hw : ∀ e, wantB ops (pt fr y.dst e) x.guard = wantB ops fr x.guard := fun e => want_put b3
 have hq : ∀ {S d e}, QY P w0 S x fr d → QY P w0 S x (pt fr y.dst e) d := fun {S d e} q => yields_congr (fun z hz => (ev_put (ops := ops) b3 z hz).symm) q
 rcases h with ⟨hg, hb⟩ | ⟨hg, hb⟩
 ·rcases hb with ⟨c, d, q, k⟩ | ⟨c, hS, d, q, k⟩ | ⟨c, -⟩ | ⟨c, -⟩ | ⟨c, hS, t, ht, hz, k⟩
  ·rw [tauO_put b1 b2] at k
   exact tauO_monoP (fun e S' hk => .inl ⟨by rw [hw]; exact hg, .inl ⟨c, d, fun S'' => hq (q S''), hk⟩⟩) k
  ·rw [tauO_put b1 b2] at k
   rcases k with ⟨g2, k⟩ | ⟨g2, k⟩
   ·rcases k with ⟨c2, d2, q2, k⟩ | ⟨c2, hS2, d2, q2, k⟩ | ⟨c2, q2⟩ | ⟨c2, -⟩ | ⟨c2, hS2, t2, ht2, hz2, k2⟩
    ·exact .inl ⟨g2, .inl ⟨c2, d2, q2, .inl ⟨by rw [hw]; exact hg, .inr (.inl ⟨c, hS, d, fun S' h' => hq (q S' h'), k⟩)⟩⟩⟩
    ·exact .inl ⟨g2, .inr (.inl ⟨c2, hS2, d2, q2, .inl ⟨by rw [hw]; exact hg, .inr (.inl ⟨c, hS, d, fun S' h' => hq (q S' h'), k⟩)⟩⟩)⟩
    ·exact .inl ⟨g2, .inr (.inr (.inl ⟨c2, yields_mono (fun e S' h' => ⟨h'.1, .inl ⟨by rw [hw]; exact hg, .inr (.inl ⟨c, h'.1, d, fun S'' h'' => hq (q S'' h''), h'.2⟩)⟩⟩) q2⟩))⟩
    ·rw [c, c2] at hk; exact absurd hk (by decide)
    ·exact .inl ⟨g2, .inr (.inr (.inr (.inr ⟨c2, hS2, t2, ht2, hz2, fun b hb => .inl ⟨by rw [hw]; exact hg, .inr (.inl ⟨c, Hm.cons hS _, d, fun S'' h'' => hq (q S'' h''), k2 b hb⟩)⟩⟩)))⟩
   ·exact .inr ⟨g2, .inl ⟨by rw [hw]; exact hg, .inr (.inl ⟨c, hS, d, fun S' h' => hq (q S' h'), k⟩)⟩⟩
  ·rw [c] at hk; simp [okP] at hk
  ·rw [c] at hk; simp [okP] at hk
  ·have hc2 : cy = 4 := by rw [c] at hk; simpa [okP] using hk
   subst hc2
   rcases Classical.em (wantB ops fr y.guard = some true) with g2 | g2
   ·refine .inl ⟨g2, .inr (.inr (.inr (.inr ⟨rfl, hS, ?_⟩)))⟩
    obtain ⟨a0, ha0⟩ := nin_ex S.box
    have k0 : tauO P w0 S0 4 ops y (pt fr x.dst (.v (.pointer (some ⟨a0, 0, none⟩)))) ⟨(a0, cd (zD P t)) :: S.box, S.acc⟩ K := k a0 ha0
    rw [tauO_put b1 b2] at k0
    have gen : ∀ a, nin S.box a → ∃ t2, y.op = .alloc t2 ∧ okE (zD P t2) = true ∧ ∀ b, nin ((a, cd (zD P t)) :: S.box) b → K (pt (pt fr y.dst (.v (.pointer (some ⟨b, 0, none⟩)))) x.dst (.v (.pointer (some ⟨a, 0, none⟩)))) ⟨(b, cd (zD P t2)) :: (a, cd (zD P t)) :: S.box, S.acc⟩ := fun a ha => by
     have k1 : tauO P w0 S0 4 ops y (pt fr x.dst (.v (.pointer (some ⟨a, 0, none⟩)))) ⟨(a, cd (zD P t)) :: S.box, S.acc⟩ K := k a ha
     rw [tauO_put b1 b2] at k1
     rcases k1 with ⟨-, b⟩ | ⟨g3, -⟩
     ·rcases b with ⟨c2, -⟩ | ⟨c2, -⟩ | ⟨c2, -⟩ | ⟨c2, -⟩ | ⟨c2, -, t2, ht2, hz2, k2⟩
      ·cases c2
      ·cases c2
      ·cases c2
      ·cases c2
      ·exact ⟨t2, ht2, hz2, fun b hb => k2 b hb⟩
     ·rw [g2] at g3; cases g3
    obtain ⟨t2, ht2, hz2, -⟩ := gen a0 ha0
    refine ⟨t2, ht2, hz2, fun b hb => .inl ⟨by rw [hw]; exact hg, .inr (.inr (.inr (.inr ⟨c, Hm.cons hS _, t, ht, hz, fun a ha => ?_⟩)))⟩⟩
    obtain ⟨t3, ht3, -, k3⟩ := gen a ha.2.2
    rw [ht2] at ht3; cases ht3
    exact hK _ ⟨(b, cd (zD P t2)) :: (a, cd (zD P t)) :: S.box, S.acc⟩ _ ⟨.swap _ _ _, .refl _⟩ (k3 b ⟨fun e => ha.2.1 e, fun e => ha.1 e, hb⟩)
   ·obtain ⟨a0, ha0⟩ := nin_ex S.box
    have k0 : tauO P w0 S0 4 ops y (pt fr x.dst (.v (.pointer (some ⟨a0, 0, none⟩)))) ⟨(a0, cd (zD P t)) :: S.box, S.acc⟩ K := k a0 ha0
    rw [tauO_put b1 b2] at k0
    rcases k0 with ⟨g3, -⟩ | ⟨g3, -⟩
    ·exact absurd g3 g2
    ·refine .inr ⟨g3, .inl ⟨by rw [hw]; exact hg, .inr (.inr (.inr (.inr ⟨c, hS, t, ht, hz, fun a ha => ?_⟩)))⟩⟩
     have k1 : tauO P w0 S0 4 ops y (pt fr x.dst (.v (.pointer (some ⟨a, 0, none⟩)))) ⟨(a, cd (zD P t)) :: S.box, S.acc⟩ K := k a ha
     rw [tauO_put b1 b2] at k1
     rcases k1 with ⟨g4, -⟩ | ⟨g4, k1⟩
     ·exact absurd g4 g2
     ·exact k1
 ·rw [tauO_put b1 b2] at hb
  exact tauO_monoP (fun e S' hk => .inr ⟨by rw [hw]; exact hg, hk⟩) hb
theorem tauO_comm {cx cy : Nat} {x y : Oper} (hap : x.apart ops y = true) (hk : okP cx cy = true) {fr : List DV} {S : St} {K : List DV → St → Prop} (h : tauO P w0 S0 cx ops x fr S (PC fun fr S => tauO P w0 S0 cy ops y fr S (PC K))) :
  tauO P w0 S0 cy ops y fr S (PC fun fr S => tauO P w0 S0 cx ops x fr S (PC K)) :=
 tauO_mono (fun fr S h => ⟨S, .refl S, h⟩) (tauO_comm0 hap hk (PC.clo K) (tauO_mono (fun fr S ⟨T, hp, h⟩ => tauO_clo (PC.clo K) _ _ _ hp h) h))
def tauI (P : Program) (w0 : W0) (S0 : St) (gs ns : List Nat) (ops : Array Oper) (i : Nat) (fr : List DV) (S : St) (K : List DV → St → Prop) : Prop := match ops[i]? with
 | none => K fr S
 | some o => tauO P w0 S0 (cls gs ns i o.op) ops o fr S K
def wpO (P : Program) (w0 : W0) (S0 : St) (gs ns : List Nat) (md : Region.Mode) (ops : Array Oper) (K : List DV → St → Prop) : Nat → Array Bool → List DV → St → Prop
 | 0, listed, fr, S => Region.ready md ops listed = [] ∧ K fr S
 | fuel + 1, listed, fr, S => (Region.ready md ops listed = [] → K fr S) ∧ ∀ i ∈ Region.ready md ops listed, tauI P w0 S0 gs ns ops i fr S (PC (wpO P w0 S0 gs ns md ops K fuel (listed.setIfInBounds i true)))
theorem wpO_first {gs ns D : List Nat} {K : List DV → St → Prop} {i : Nat} {oi : Oper} (hi : ops[i]? = some oi) :
  ∀ (fuel : Nat) (listed : Array Bool) (fr : List DV) (S : St),
   (∀ j, j ∈ D → listed.getD j true = false ∧ ∃ oj, ops[j]? = some oj ∧ ∃ e ∈ oj.after, Region.binds md e = true ∧ (e.on = i ∨ e.on ∈ D)) →
   (∀ j oj, ops[j]? = some oj → j ≠ i → listed.getD j true = false → j ∉ D → oi.apart ops oj = true ∧ okP (cls gs ns i oi.op) (cls gs ns j oj.op) = true) →
   (∀ l : List Nat, l.Nodup → (∀ k, k ∈ l → listed.getD k true = false) → l.length ≤ fuel + 1) →
   i ∈ Region.ready md ops listed → tauO P w0 S0 (cls gs ns i oi.op) ops oi fr S (PC (wpO P w0 S0 gs ns md ops K fuel (listed.setIfInBounds i true))) → wpO P w0 S0 gs ns md ops K (fuel + 1) listed fr S := by
 intro fuel
 induction fuel with
 | zero =>
  intro listed fr S _ _ hcnt hr H
  refine ⟨fun h => (by rw [h] at hr; cases hr), fun j hj => ?_⟩
  by_cases hji : j = i
  ·subst hji; unfold tauI; simp only [hi]; exact H
  ·exfalso
   have := hcnt [i, j] (by simp [Ne.symm hji]) fun k hk => by
    simp only [List.mem_cons, List.not_mem_nil, or_false] at hk
    rcases hk with rfl | rfl
    ·exact (mem_ready.1 hr).1
    ·exact (mem_ready.1 hj).1
   simp at this
 | succ fuel ih =>
  intro listed fr S hD hfree hcnt hr H
  refine ⟨fun h => (by rw [h] at hr; cases hr), fun j hj => ?_⟩
  by_cases hji : j = i
  ·subst hji; unfold tauI; simp only [hi]; exact H
  ·obtain ⟨hjun, oj, hoj, hall⟩ := mem_ready.1 hj
   have hlis : ∀ e ∈ oj.after, Region.binds md e = true → listed.getD e.on true = false → False := fun e he hb h0 => by
    have h1 := hall e he hb
    rcases Nat.lt_or_ge e.on listed.size with h' | h'
    ·simp [h'] at h0 h1; rw [h0] at h1; cases h1
    ·simp [Array.getElem?_eq_none h'] at h1
   have hjD : j ∉ D := fun hjD => by
    obtain ⟨_, oj', ho, e, he, hb, hor⟩ := hD j hjD
    rw [hoj] at ho; cases ho
    rcases hor with h | h
    ·exact hlis e he hb (by rw [h]; exact (mem_ready.1 hr).1)
    ·exact hlis e he hb (hD _ h).1
   have h1 : tauO P w0 S0 (cls gs ns i oi.op) ops oi fr S (PC fun fr S => tauO P w0 S0 (cls gs ns j oj.op) ops oj fr S (PC (wpO P w0 S0 gs ns md ops K fuel ((listed.setIfInBounds i true).setIfInBounds j true)))) :=
    tauO_mono (fun fr S h => PC.mono (fun fr S h => by
     have := h.2 j (ready_mono hj hji)
     unfold tauI at this; simp only [hoj] at this; exact this) h) H
   have hc := hfree j oj hoj hji hjun hjD
   have h2 := tauO_comm hc.1 hc.2 h1
   have hfree' : ∀ k ok, ops[k]? = some ok → k ≠ i → (listed.setIfInBounds j true).getD k true = false → k ∉ D → oi.apart ops ok = true ∧ okP (cls gs ns i oi.op) (cls gs ns k ok.op) = true := fun k ok hk hki hun hno => by
    refine hfree k ok hk hki ?_ hno
    by_cases hjk : j = k
    ·subst hjk; exact hjun
    ·rw [getD_set_ne true hjk] at hun; exact hun
   have hD' : ∀ k, k ∈ D → (listed.setIfInBounds j true).getD k true = false ∧ ∃ ok, ops[k]? = some ok ∧ ∃ e ∈ ok.after, Region.binds md e = true ∧ (e.on = i ∨ e.on ∈ D) := fun k hk => by
    refine ⟨?_, (hD k hk).2⟩
    rw [getD_set_ne true (show j ≠ k from fun e => hjD (by rw [e]; exact hk))]; exact (hD k hk).1
   unfold tauI
   simp only [hoj]
   have hcnt' : ∀ l : List Nat, l.Nodup → (∀ k, k ∈ l → (listed.setIfInBounds j true).getD k true = false) → l.length ≤ fuel + 1 := by
    intro l hn hl
    have hjs : j < listed.size := by
     rcases Nat.lt_or_ge j listed.size with h | h
     ·exact h
     ·rw [Array.getD_eq_getD_getElem?, Array.getElem?_eq_none h] at hjun; cases hjun
    have hjl : j ∉ l := fun hj => by
     have := hl j hj
     rw [Array.getD_eq_getD_getElem?, Array.getElem?_setIfInBounds] at this
     simp [hjs] at this
    have := hcnt (j :: l) (List.nodup_cons.2 ⟨hjl, hn⟩) fun k hk => by
     rcases List.mem_cons.1 hk with rfl | hk
     ·exact hjun
     ·have := hl k hk
      rw [getD_set_ne true (show j ≠ k from fun e => hjl (e ▸ hk))] at this
      exact this
    simp at this; omega
   refine tauO_mono (fun fr S h => PC.mono (fun fr S h => ih (listed.setIfInBounds j true) fr S hD' hfree' hcnt' (ready_mono hr (Ne.symm hji)) ?_) h) h2
   rw [Array.setIfInBounds_comm _ _ hji]
   exact h
def depO (md : Region.Mode) (ops : Array Oper) (listed : Array Bool) (i : Nat) : List Nat := (List.range ops.size).foldl (fun D j => match ops[j]? with
 | some oj => if !(j == i) && !listed.getD j true && oj.after.any (fun e => Region.binds md e && (e.on == i || D.contains e.on)) then j :: D else D
 | none => D) []
def freeD (gs ns : List Nat) (md : Region.Mode) (ops : Array Oper) (listed : Array Bool) (i : Nat) (D : List Nat) : Bool := (D.all fun j => !listed.getD j true && match ops[j]? with
 | some oj => oj.after.any (fun e => Region.binds md e && (e.on == i || D.contains e.on))
 | none => false) && (List.range ops.size).all fun j => match ops[i]?, ops[j]? with
 | some oi, some oj => j == i || listed.getD j true || D.contains j || (oi.apart ops oj && okP (cls gs ns i oi.op) (cls gs ns j oj.op))
 | _, _ => false
def freeO (gs ns : List Nat) (md : Region.Mode) (ops : Array Oper) (listed : Array Bool) (i : Nat) : Bool := freeD gs ns md ops listed i (depO md ops listed i)
def lexO (gs ns : List Nat) (md : Region.Mode) (ops : Array Oper) : List Nat → Array Bool → Bool
 | [], listed => (Region.ready md ops listed).isEmpty
 | k :: ks, listed => (Region.ready md ops listed).contains k && freeO gs ns md ops listed k && lexO gs ns md ops ks (listed.setIfInBounds k true)
theorem freeD_dep {gs ns D : List Nat} {listed : Array Bool} {i : Nat} (h : freeD gs ns md ops listed i D = true) : ∀ j, j ∈ D → listed.getD j true = false ∧ ∃ oj, ops[j]? = some oj ∧ ∃ e ∈ oj.after, Region.binds md e = true ∧ (e.on = i ∨ e.on ∈ D) := by
 intro j hj
 simp only [freeD, Bool.and_eq_true] at h
 have := List.all_eq_true.1 h.1 j hj
 simp only [Bool.and_eq_true, Bool.not_eq_true'] at this
 refine ⟨this.1, ?_⟩
 obtain ⟨-, h2⟩ := this
 split at h2
 ·rename_i oj ho
  obtain ⟨e, he, h3⟩ := Array.any_eq_true'.1 h2
  simp only [Bool.and_eq_true, Bool.or_eq_true, beq_iff_eq, List.contains_iff_mem] at h3
  exact ⟨oj, ho, e, he, h3⟩
 ·cases h2
theorem freeD_spec {gs ns D : List Nat} {listed : Array Bool} {i : Nat} {oi : Oper} (hi : ops[i]? = some oi) (h : freeD gs ns md ops listed i D = true) : ∀ j oj, ops[j]? = some oj → j ≠ i → listed.getD j true = false → j ∉ D → oi.apart ops oj = true ∧ okP (cls gs ns i oi.op) (cls gs ns j oj.op) = true := by
 intro j oj hj hji hun hno
 simp only [freeD, Bool.and_eq_true] at h
 have hlt : j < ops.size := (Array.getElem?_eq_some_iff.1 hj).1
 have := List.all_eq_true.1 h.2 j (List.mem_range.2 hlt)
 simp only [hi, hj, hun, Bool.or_false, Bool.or_eq_true, beq_iff_eq, Bool.and_eq_true, List.contains_iff_mem] at this
 rcases this with (h | h) | h
 ·exact absurd h hji
 ·exact absurd h hno
 ·exact h
def LO (P : Program) (w0 : W0) (S0 : St) (gs ns : List Nat) (ops : Array Oper) (K : List DV → St → Prop) : List Nat → List DV → St → Prop
 | [], fr, S => K fr S
 | i :: is, fr, S => match ops[i]? with
  | none => False
  | some o => tauO P w0 S0 (cls gs ns i o.op) ops o fr S (LO P w0 S0 gs ns ops K is)
theorem wpO_lex {gs ns : List Nat} {K : List DV → St → Prop} : ∀ (l : List Nat) (listed : Array Bool) (fr : List DV) (S : St),
  (∀ l' : List Nat, l'.Nodup → (∀ k, k ∈ l' → listed.getD k true = false) → l'.length ≤ l.length) →
  lexO gs ns md ops l listed = true → LO P w0 S0 gs ns ops K l fr S → wpO P w0 S0 gs ns md ops K l.length listed fr S
 | [], _, _, _, _, hB, h => ⟨by simpa [lexO] using hB, h⟩
 | k :: l, listed, fr, S, hcnt, hB, h => by
  simp only [List.length_cons, lexO, Bool.and_eq_true] at hB
  obtain ⟨⟨hr, hf⟩, hB'⟩ := hB
  have hr' : k ∈ Region.ready md ops listed := by simpa using hr
  have hun := (mem_ready.1 hr').1
  unfold LO at h
  split at h
  ·exact h.elim
  rename_i o h0
  refine wpO_first h0 l.length listed fr S (freeD_dep hf) (freeD_spec h0 hf) (by simpa using hcnt) hr' ?_
  refine tauO_mono (fun fr S h => ⟨S, .refl S, wpO_lex l _ fr S ?_ hB' h⟩) h
  intro l' hn hl'
  have hks : k < listed.size := by
   rcases Nat.lt_or_ge k listed.size with h | h
   ·exact h
   ·rw [Array.getD_eq_getD_getElem?, Array.getElem?_eq_none h] at hun; cases hun
  have hkl : k ∉ l' := fun hk => by
   have := hl' k hk
   rw [Array.getD_eq_getD_getElem?, Array.getElem?_setIfInBounds] at this
   simp [hks] at this
  have := hcnt (k :: l') (List.nodup_cons.2 ⟨hkl, hn⟩) fun m hm => by
   rcases List.mem_cons.1 hm with rfl | hm
   ·exact hun
   ·have := hl' m hm
    rw [getD_set_ne true (show k ≠ m from fun e => hkl (e ▸ hm))] at this
    exact this
  simp at this; omega
theorem bodyO_yields {c : Nat} {o : Oper} {fr : List DV} {S : St} {K : List DV → St → Prop} (h : bodyO P w0 S0 c o fr S K) : YieldsE P w0 o (ev fr) S fun d S' => K (pt fr o.dst d) S' := by
 rcases h with ⟨c, d, q, k⟩ | ⟨c, hS, d, q, k⟩ | ⟨c, q⟩ | ⟨c, q⟩ | ⟨c, hS, t, ht, hz, k⟩
 ·exact yields_mono (fun d' S' h => by rw [h.1, h.2]; exact k) (q S)
 ·exact yields_mono (fun d' S' h => by rw [h.1, h.2]; exact k) (q S hS)
 ·exact yields_mono (fun d' S' h => h.2) q
 ·exact q
 ·exact y_alloc ht ⟨hz, k⟩
theorem wpAny_of_O {gs ns : List Nat} {ro : Option Nat} {g0 : Gh} {Q : Exit → List DV → St → Prop} : ∀ (fuel : Nat) (listed : Array Bool) (fr : List DV) (S : St) (g : Gh) (a : Act) (w : World), g0.le g → Rel w0 g S w → RepL g fr a.tmps.toList → Dk w0 g.obj a w →
  wpO P w0 S0 gs ns md ops (fun fr S => Q .normal fr S) fuel listed fr S → wpAnyIn (fz ro) 0 P md ops (Good w0 g0 Q) fuel listed a w
 | 0, listed, fr, S, g, a, w, k, h1, h2, h3, h => ⟨h.1, k.kd h3, g, fr, S, k, h1, h2, h.2⟩
 | fuel + 1, listed, fr, S, g, a, w, k, h1, h2, h3, h => by
  refine ⟨fun h0 => ⟨k.kd h3, g, fr, S, k, h1, h2, h.1 h0⟩, fun i hi => ?_⟩
  have hq := h.2 i hi
  unfold tauI at hq
  unfold wpOpIn
  split
  ·rename_i ho; simp only [ho] at hq; obtain ⟨T, hp, hq⟩ := hq; exact wpAny_of_O fuel _ fr T g a w k (hp.symm.rel h1) h2 h3 hq
  ·rename_i o ho
   simp only [ho] at hq
   rcases hq with ⟨hw, hb⟩ | ⟨hw, hk⟩
   ·have hw' := wantB_sound (o := o) h2 hw
    rw [if_pos hw']
    refine wpIn_of_yields (bodyO_yields hb) h1 (fun x _ => rep_ev h2 x) h3 fun g' d' u S' w' k1 k2 k3 k4 k5 => ?_
    obtain ⟨T, hp, k4⟩ := k4
    exact wpAny_of_O fuel _ _ _ g' _ _ (k.trans k1) (hp.symm.rel k2) (repL_put (h2.mono k1) _ k3) (k1.dk k5) k4
   ·have hw' := wantB_sound (o := o) h2 hw
    rw [if_neg (by simp [hw'])]
    obtain ⟨T, hp, hk⟩ := hk; exact ⟨fun _ _ => trivial, wpAny_of_O fuel _ _ _ g _ _ k (hp.symm.rel h1) (repL_put h2 _ (rep_ud g)) (h3.keep (put_defers _ _ _) fun _ _ h _ => h) hk⟩
theorem awp_drawO {id : Nat} {l : List Oper} {gs ns ord : List Nat} {fr : List DV} {S : St} {Q : Exit → List DV → St → Prop} (hm : P.follows .mixedOrders = true) (hB : lexO gs ns .any l.toArray ord (Array.replicate l.length false) = true) (hO : ord.length = l.length) (h : LO P w0 S0 gs ns l.toArray (fun fr S => Q .normal fr S) ord fr S) : AWp P w0 (.region id l.toArray true) fr S Q := by
 intro g a w h1 h2 h3
 refine wpA_region_any hm fun ro => ?_
 have hR : Rel w0 g S { w with drawn := w.drawn + 1 } := h1.grow (below_drew w)
 have hcnt : ∀ l' : List Nat, l'.Nodup → (∀ k, k ∈ l' → (Array.replicate l.length false).getD k true = false) → l'.length ≤ ord.length := by
  intro l' hn hl
  have hsub : ∀ k, k ∈ l' → k ∈ List.range l.length := fun k hk => by
   have := hl k hk
   rw [List.mem_range]
   rcases Nat.lt_or_ge k l.length with h | h
   ·exact h
   ·rw [Array.getD_eq_getD_getElem?, Array.getElem?_eq_none (by simpa using h)] at this; cases this
  have := hn.length_le_of_subset (l₂ := List.range l.length) hsub
  rw [hO]; simpa using this
 have := wpO_lex (P := P) (w0 := w0) (S0 := S0) (md := .any) (ops := l.toArray) ord (Array.replicate l.length false) fr S hcnt hB h
 have := wpAny_of_O (ro := ro) (g0 := g) (Q := Q) _ _ fr S g a _ (.refl g) hR h2 (h3.keep rfl fun _ _ h _ => h) this
 rw [hO] at this
 simpa using this
theorem lookup_has {m : Option (KK × DV)} {S T : St} {x y : DV} {ok : Bool} {K : DV → Prop} (hT : Has S T) (h : vLookup m S x y ok K) : vLookup m T x y ok K := by
 unfold vLookup at *
 cases m with
 | none => exact h.elim
 | some p =>
  obtain ⟨h1, h2⟩ := h
  refine ⟨h1, ?_⟩
  cases hk : kVal y with
  | none => rw [hk] at h2; exact h2.elim
  | some k =>
   rw [hk] at h2
   obtain ⟨h3, h4⟩ := h2
   refine ⟨h3, ?_⟩
   cases x with
   | mp l =>
    simp only at h4 ⊢
    cases hl : lk S.acc l with
    | none => rw [hl] at h4; exact h4.elim
    | some o => rw [hT.acc _ _ hl]; rw [hl] at h4; exact h4
   | v u =>
    cases u with
    | map o => cases o <;> exact h4
    | _ => exact h4
   | _ => exact h4
theorem load_has {k : TK} {S T : St} {x : DV} {K : DV → Prop} (hT : Has S T) (h : vLoad k S x K) : vLoad k T x K := by
 unfold vLoad at *
 split at h
 ·split at h
  ·rename_i ds hb
   simp only [hT.box _ _ hb]
   exact h
  ·exact h.elim
 ·exact h
 ·split at h
  ·rename_i hb
   simp only [hT.acc _ _ hb]
   exact h
  ·rename_i hb
   simp only [hT.acc _ _ hb]
   exact h
  ·exact h.elim
 ·exact h.elim
end
def QO (P : Program) (w0 : W0) (S0 : St) (f : FuncId) (ds : List DV) [K : Cn (DV → Prop)] : Prop := ∃ d, (∀ T, Has S0 T → ACall P w0 f ds T fun d' S' => d' = d ∧ S' = T) ∧ K.k d
def vCallO (P : Program) (w0 : W0) (S0 : St) (cal : DV) (ds : List DV) (K : DV → Prop) : Prop := match cal with
 | .v (.func (.func f) a cap) => a.size = 0 ∧ okF P f = true ∧ cap.toList.all (fun u => u.oneCell') = true ∧ ds.all naccA = true ∧ @QO P w0 S0 f (ds ++ cap.toList.map .v) ⟨K⟩
 | _ => False
def opO (P : Program) (w0 : W0) (S0 : St) (op : Op) (fr : List DV) (S : St) (K : DV → St → Prop) : Prop := match op with
 | .load t x => Has S0 S ∧ vLoad (tk P t) S0 (ev fr x) (K · S)
 | .call ⟨.value cal, args, _⟩ => Has S0 S ∧ vCallO P w0 S0 (ev fr cal) (args.toList.map (ev fr)) (K · S)
 | .alloc t => Has S0 S ∧ okE (zD P t) = true ∧ bxK S (zD P t) K
 | .lookup t x y ok => Has S0 S ∧ vLookup (mpT P t) S0 (ev fr x) (ev fr y) ok (K · S)
 | op => selK (Z.kX op == 0) (opZ P w0 op fr S (K · S)) (vcOp P w0 op fr S K)
def stO (P : Program) (w0 : W0) (S0 : St) (gs ns : List Nat) (i : Nat) (op : Op) (fr : List DV) (S : St) (K : DV → St → Prop) : Prop :=
 selK (gs.contains i) (vcOp P w0 op fr S fun d S' => Has S0 S' ∧ K d S') (selK (ns.contains i) (vcOp P w0 op fr S K) (opO P w0 S0 op fr S K))
def stepO (P : Program) (w0 : W0) (S0 : St) (gs ns : List Nat) (ops : Array Oper) (K : List DV → St → Prop) (oo : Option Oper) (i : Nat) (fr : List DV) (S : St) : Prop := match oo with
 | none => False
 | some o => guardK ops fr o.guard (fun fr => stO P w0 S0 gs ns i o.op fr S fun d S' => K (pt fr o.dst d) S') (fun fr => K (pt fr o.dst ud) S)
def vcLO (P : Program) (w0 : W0) (S0 : St) (gs ns : List Nat) (ops : Array Oper) (K : List DV → St → Prop) : List Nat → List DV → St → Prop
 | [], fr, S => K fr S
 | i :: is, fr, S => stepO P w0 S0 gs ns ops (vcLO P w0 S0 gs ns ops K is) ops[i]? i fr S
section
variable {P : Program} {w0 : W0} {S0 : St} {ops : Array Oper} {md : Region.Mode}
theorem qy_hm {S0 : St} {o : Oper} {fr : List DV} {d : DV} (q : ∀ T, Has S0 T → QY P w0 T o fr d) (T : St) (hT : Hm S0 T) : QY P w0 T o fr d := fun g w ρ r => q T (hT.has r) g w ρ r
theorem stO_sound {gs ns : List Nat} {i : Nat} {o : Oper} {fr : List DV} {S : St} {K : List DV → St → Prop} (hs : okSl o.op = true) (h : stO P w0 S0 gs ns i o.op fr S fun d S' => K (pt fr o.dst d) S') : bodyO P w0 S0 (cls gs ns i o.op) o fr S K := by
 unfold stO at h
 cases hg : gs.contains i with
 | true =>
  rw [hg] at h
  have hc : cls gs ns i o.op = 2 := by unfold cls; rw [if_pos hg]
  rw [hc]
  have h' : vcOp P w0 o.op fr S fun d S' => Has S0 S' ∧ K (pt fr o.dst d) S' := h
  exact .inr (.inr (.inl ⟨rfl, yields_mono (fun d S' hk => ⟨.of hk.1, hk.2⟩) (vcOp_sound hs h')⟩))
 | false =>
  rw [hg] at h
  cases hn : ns.contains i with
  | true =>
   rw [hn] at h
   have hc : cls gs ns i o.op = 3 := by unfold cls; rw [if_neg (by rw [hg]; simp), if_pos hn]
   rw [hc]
   exact .inr (.inr (.inr (.inl ⟨rfl, vcOp_sound hs h⟩)))
  | false =>
   rw [hn] at h
   have hc : cls gs ns i o.op = (match kY o.op with | 0 => 0 | 1 => 1 | 2 => 4 | _ => 3) := by unfold cls; rw [if_neg (by rw [hg]; simp), if_neg (by rw [hn]; simp)]
   rw [hc]
   replace h : opO P w0 S0 o.op fr S fun d S' => K (pt fr o.dst d) S' := h
   have gen : ∀ (h : selK (Z.kX o.op == 0) (opZ P w0 o.op fr S fun d => K (pt fr o.dst d) S) (vcOp P w0 o.op fr S fun d S' => K (pt fr o.dst d) S')), Z.kX o.op = 0 ∨ Z.kX o.op = 3 → kY o.op = Z.kX o.op → bodyO P w0 S0 (match kY o.op with | 0 => 0 | 1 => 1 | 2 => 4 | _ => 3) o fr S K := by
    intro h hk hkk
    rw [hkk]
    rcases hk with hk | hk
    ·rw [hk] at h ⊢
     obtain ⟨d, q1, q2⟩ := Z.pure_detZ hk (show opZ P w0 o.op fr S fun d => K (pt fr o.dst d) S from h)
     exact .inl ⟨rfl, d, fun S' => by
      obtain ⟨d', k1, k2⟩ := opZ_sound hs (q1 S')
      subst k2; exact k1, q2⟩
    ·rw [hk] at h ⊢
     exact .inr (.inr (.inr (.inl ⟨rfl, vcOp_sound hs h⟩)))
   cases hop : o.op with
   | load t x =>
    rw [hop] at h hs
    obtain ⟨hS, h⟩ := h
    obtain ⟨d, q1, q2⟩ := det_load (show vLoad (tk P t) S0 (ev fr x) (fun d => K (pt fr o.dst d) S) from h)
    refine .inr (.inl ⟨rfl, .of hS, d, qy_hm fun T hT => ?_, q2⟩)
    exact vcOp_sound (by rw [hop]; exact hs) (by rw [hop]; simpa [vcOp] using load_has hT q1)
   | alloc t =>
    rw [hop] at h
    exact .inr (.inr (.inr (.inr ⟨rfl, .of h.1, t, hop, h.2.1, h.2.2⟩)))
   | call c =>
    obtain ⟨callee, args, ts⟩ := c
    cases callee with
    | value cal =>
     rw [hop] at h hs
     obtain ⟨hS, h⟩ := h
     simp only [vCallO] at h
     split at h
     ·rename_i f a cap hcal
      obtain ⟨h1, h2, h3, h4, d, h5, h6⟩ := h
      refine .inr (.inl ⟨rfl, .of hS, d, qy_hm fun T hT => ?_, h6⟩)
      exact vcOp_sound (by rw [hop]; exact hs) (by rw [hop]; simp only [vcOp, hcal]; exact vCall_of h1 h3 (by rw [h2, gX_t]; exact callK_id h4 (h5 T hT)))
     ·exact h.elim
    | builtin b =>
     rw [← hop]
     refine gen (by rw [hop] at h ⊢; exact h) ?_ (by rw [hop]; rfl)
     rw [hop]
     cases b <;> first | exact .inl rfl | exact .inr rfl
    | invoke r m =>
     rw [← hop]
     refine gen (by rw [hop] at h ⊢; exact h) ?_ (by rw [hop]; rfl)
     rw [hop]; exact .inr rfl
   | lookup t x y ok =>
    rw [hop] at h hs
    obtain ⟨hS, h⟩ := h
    obtain ⟨d, q1, q2⟩ := det_lookup (show vLookup (mpT P t) S0 (ev fr x) (ev fr y) ok (fun d => K (pt fr o.dst d) S) from h)
    refine .inr (.inl ⟨rfl, .of hS, d, qy_hm fun T hT => ?_, q2⟩)
    exact vcOp_sound (by rw [hop]; exact hs) (by rw [hop]; simpa [vcOp] using lookup_has hT q1)
   | _ => rw [← hop]; refine gen (by rw [hop] at h ⊢; exact h) ?_ (by rw [hop]; rfl); rw [hop]; first | exact .inl rfl | exact .inr rfl
theorem vcLO_sound {gs ns : List Nat} {K : List DV → St → Prop} (hs : ∀ (i : Nat) (o : Oper), ops[i]? = some o → okSl o.op = true) : ∀ (l : List Nat) {fr : List DV} {S : St}, vcLO P w0 S0 gs ns ops K l fr S → LO P w0 S0 gs ns ops K l fr S
 | [], fr, S, h => h
 | i :: is, fr, S, h => by
  unfold vcLO stepO at h
  unfold LO
  cases ho : ops[i]? with
  | none => rw [ho] at h; exact h
  | some o =>
   rw [ho] at h
   simp only at h ⊢
   rcases guardK_want h with ⟨hw, ha⟩ | ⟨hw, hb⟩
   ·exact .inl ⟨hw, bodyO_mono (fun fr S h => vcLO_sound hs is h) (stO_sound (hs i o ho) ha)⟩
   ·exact .inr ⟨hw, vcLO_sound hs is hb⟩
def okO (l : List Oper) (gs ns ord : List Nat) : Bool := l.all (fun o => okSl o.op) && lexO gs ns .any l.toArray ord (Array.replicate l.length false) && (ord.length == l.length)
theorem ordK (gs ns ord : List Nat) {id : Nat} {l : List Oper} {fr : List DV} {S : St} {Q : Exit → List DV → St → Prop} (hm : P.follows .mixedOrders = true) (hB : okO l gs ns ord = true) (h : vcLO P w0 S gs ns l.toArray (fun fr S => normF fr fun fr => Q .normal fr S) ord fr S) : AWp P w0 (.region id l.toArray true) fr S Q := by
 simp only [okO, Bool.and_eq_true, beq_iff_eq] at hB
 refine awp_drawO hm hB.1.2 hB.2 (vcLO_sound (fun i o ho => ?_) ord h)
 have : l[i]? = some o := by simpa using ho
 exact List.all_eq_true.1 hB.1.1 o (List.mem_of_getElem? this)
def inL : List Nat → Nat → Prop
 | [], _ => False
 | a :: L, b => a = b ∨ inL L b
noncomputable def but (L : List Nat) (S : St) : St := ⟨S.box.filter fun p => @decide (¬ inL L p.1) (Classical.propDecidable _), S.acc⟩
theorem lk_but {L : List Nat} {S : St} {b : Nat} (h : ¬ inL L b) : lk (but L S).box b = lk S.box b := by
 obtain ⟨B, A⟩ := S
 show lk (B.filter _) b = lk B b
 induction B with
 | nil => rfl
 | cons p B ih =>
  obtain ⟨k, x⟩ := p
  rw [List.filter_cons]
  split
  ·simp only [lk, ih]
  ·rename_i hn
   have hk : ¬ k = b := fun e => hn (by subst e; exact @decide_eq_true _ (Classical.propDecidable _) h)
   rw [ih]; simp only [lk, if_neg hk]
theorem lk_but_in {L : List Nat} {S : St} {b : Nat} (h : inL L b) : lk (but L S).box b = none := by
 obtain ⟨B, A⟩ := S
 show lk (B.filter _) b = none
 induction B with
 | nil => rfl
 | cons p B ih =>
  obtain ⟨k, x⟩ := p
  rw [List.filter_cons]
  split
  ·rename_i hn
   have hk : ¬ k = b := fun e => by
    subst e
    exact (@of_decide_eq_true _ (Classical.propDecidable _) hn) h
   simp only [lk, if_neg hk]; exact ih
  ·exact ih
theorem has_but (L : List Nat) (S : St) : Has (but L S) S := ⟨fun b x hb => by
 by_cases h : inL L b
 ·rw [lk_but_in h] at hb; cases hb
 ·rwa [lk_but h] at hb, fun l o hl => hl⟩
theorem ordB (L gs ns ord : List Nat) {id : Nat} {l : List Oper} {fr : List DV} {S : St} {Q : Exit → List DV → St → Prop} (hm : P.follows .mixedOrders = true) (hB : okO l gs ns ord = true) (h : vcLO P w0 (but L S) gs ns l.toArray (fun fr S => normF fr fun fr => Q .normal fr S) ord fr S) : AWp P w0 (.region id l.toArray true) fr S Q := by
 simp only [okO, Bool.and_eq_true, beq_iff_eq] at hB
 refine awp_drawO hm hB.1.2 hB.2 (vcLO_sound (fun i o ho => ?_) ord h)
 have : l[i]? = some o := by simpa using ho
 exact List.all_eq_true.1 hB.1.1 o (List.mem_of_getElem? this)
theorem useO {f : FuncId} {args args' : List DV} {K : DV → Prop} {r : DV} (h : ∀ T, Has S0 T → ACall P w0 f args' T (fun d S' => d = r ∧ S' = T)) (hk : K r) (ha : WkL args args' := by exact WkL.refl _) : @QO P w0 S0 f args ⟨K⟩ :=
 ⟨r, fun T hT => acall_one (h T hT) ha ⟨rfl, rfl⟩, hk⟩
end
section
variable {P : Program} {w0 : W0} {S0 : St} {gs ns : List Nat} {ops : Array Oper} {fr : List DV} {S : St} {dst : Option Tmp} {op : Op} {ty : TypeId} {pos : String} {aft : Array Edge}
section
variable {K : List DV → St → Prop}
theorem o_nil : vcLO P w0 S0 gs ns ops K [] fr S = K fr S := rfl
theorem o_cons (i : Nat) (is : List Nat) : vcLO P w0 S0 gs ns ops K (i :: is) fr S = stepO P w0 S0 gs ns ops (vcLO P w0 S0 gs ns ops K is) ops[i]? i fr S := rfl
@[congr] theorem c_stepO {oo oo' : Option Oper} {i : Nat} (h : oo = oo') : stepO P w0 S0 gs ns ops K oo i fr S = stepO P w0 S0 gs ns ops K oo' i fr S := by cases h; rfl
theorem o_none (i : Nat) : stepO P w0 S0 gs ns ops K (some ⟨dst, op, ty, pos, aft, none⟩) i fr S = stO P w0 S0 gs ns i op fr S fun d S' => K (pt fr dst d) S' := rfl
theorem o_some (i j : Nat) (want : Bool) : stepO P w0 S0 gs ns ops K (some ⟨dst, op, ty, pos, aft, some (j, want)⟩) i fr S = gK ((ops[j]?).bind (·.dst)) fr want (fun fr => stO P w0 S0 gs ns i op fr S fun d S' => K (pt fr dst d) S') (fun fr => K (pt fr dst ud) S) := by unfold stepO; exact q_guard _ _ _ _ _ _
end
variable {K : DV → St → Prop}
theorem o_st (i : Nat) : stO P w0 S0 gs ns i op fr S K = selK (gs.contains i) (vcOp P w0 op fr S fun d S' => Has S0 S' ∧ K d S') (selK (ns.contains i) (vcOp P w0 op fr S K) (opO P w0 S0 op fr S K)) := rfl
theorem o_load (t : TypeId) (x : Operand) : opO P w0 S0 (.load t x) fr S K = (Has S0 S ∧ vLoad (tk P t) S0 (ev fr x) (K · S)) := rfl
theorem o_alloc (t : TypeId) : opO P w0 S0 (.alloc t) fr S K = (Has S0 S ∧ okE (zD P t) = true ∧ bxK S (zD P t) K) := rfl
theorem o_call (cal : Operand) (a : List Operand) (ts : Array TypeId) : opO P w0 S0 (.call ⟨.value cal, a.toArray, ts⟩) fr S K = (Has S0 S ∧ vCallO P w0 S0 (ev fr cal) (a.map (ev fr)) (K · S)) := rfl
theorem o_callF (f : FuncId) (a cap : Array Value) (ds : List DV) (K : DV → Prop) : vCallO P w0 S0 (.v (.func (.func f) a cap)) ds K = (a.size = 0 ∧ okF P f = true ∧ cap.toList.all (fun u => u.oneCell') = true ∧ ds.all naccA = true ∧ @QO P w0 S0 f (ds ++ cap.toList.map .v) ⟨K⟩) := rfl
@[congr] theorem c_vCallO {cal cal' : DV} {ds ds' : List DV} {K : DV → Prop} (h1 : cal = cal') (h2 : ds = ds') : vCallO P w0 S0 cal ds K = vCallO P w0 S0 cal' ds' K := by cases h1; cases h2; rfl
theorem o_move (x : Operand) : opO P w0 S0 (.move x) fr S K = vcOpQ P w0 (.move x) fr S (K · S) := rfl
theorem o_assign (x : Operand) : opO P w0 S0 (.assign x) fr S K = vcOpQ P w0 (.assign x) fr S (K · S) := rfl
theorem o_pick (c a b : Operand) : opO P w0 S0 (.pick c a b) fr S K = vcOpQ P w0 (.pick c a b) fr S (K · S) := rfl
theorem o_fieldAddr (t : TypeId) (x : Operand) (f : Nat) : opO P w0 S0 (.fieldAddr t x f) fr S K = vcOpQ P w0 (.fieldAddr t x f) fr S (K · S) := rfl
theorem o_indexAddr (t : TypeId) (x i : Operand) : opO P w0 S0 (.indexAddr t x i) fr S K = vcOpQ P w0 (.indexAddr t x i) fr S (K · S) := rfl
theorem o_extract (x : Operand) (i : Nat) : opO P w0 S0 (.extract x i) fr S K = vcOpQ P w0 (.extract x i) fr S (K · S) := rfl
theorem o_nilCheck (x : Operand) : opO P w0 S0 (.nilCheck x) fr S K = vcOpQ P w0 (.nilCheck x) fr S (K · S) := rfl
theorem o_binOp (b : BinOp) (t : TypeId) (x y : Operand) (t' : TypeId) : opO P w0 S0 (.binOp b t x y t') fr S K = vcOpQ P w0 (.binOp b t x y t') fr S (K · S) := rfl
theorem o_convert (s d : TypeId) (x : Operand) : opO P w0 S0 (.convert s d x) fr S K = opZ P w0 (.convert s d x) fr S (K · S) := rfl
theorem o_makeFunc (fn : Fn) (a b : Array Operand) : opO P w0 S0 (.makeFunc fn a b) fr S K = vcOpQ P w0 (.makeFunc fn a b) fr S (K · S) := rfl
theorem o_slice (t : TypeId) (x : Operand) (lo hi mx : Option Operand) : opO P w0 S0 (.slice t x lo hi mx) fr S K = vcOpQ P w0 (.slice t x lo hi mx) fr S (K · S) := rfl
theorem o_build (t : TypeId) (parts : Array (Nat × Operand)) : opO P w0 S0 (.build t parts) fr S K = vcOpQ P w0 (.build t parts) fr S (K · S) := rfl
theorem o_buildSlice (t : TypeId) (len : Nat) (parts : Array (Nat × Operand)) : opO P w0 S0 (.buildSlice t len parts) fr S K = vcOpQ P w0 (.buildSlice t len parts) fr S (K · S) := rfl
theorem o_store (t : TypeId) (x y : Operand) : opO P w0 S0 (.store t x y) fr S K = vcOp P w0 (.store t x y) fr S K := rfl
theorem o_makeSlice (t : TypeId) (x y : Operand) : opO P w0 S0 (.makeSlice t x y) fr S K = opZ P w0 (.makeSlice t x y) fr S (K · S) := rfl
theorem o_b_len (a : Array Operand) (ts : Array TypeId) : opO P w0 S0 (.call ⟨.builtin .len, a, ts⟩) fr S K = vcOpQ P w0 (.call ⟨.builtin .len, a, ts⟩) fr S (K · S) := rfl
theorem has_self (S : St) : Has S S = True := eq_true (.refl S)
theorem has_box {S0 : St} {B : List (Nat × List DV)} {A : List (Nat × Ob)} (b : Nat) (v : List DV) (hb : lk S0.box b = none) (h : Has S0 ⟨B, A⟩) : Has S0 ⟨(b, v) :: B, A⟩ = True := eq_true ⟨fun c x hc => by
 have h1 := h.box c x hc
 show lk ((b, v) :: B) c = some x
 rw [q_lk_ne (fun e => by rw [← e, hb] at hc; cases hc)]; exact h1, h.acc⟩
theorem has_acc {S0 : St} {B : List (Nat × List DV)} {A : List (Nat × Ob)} (l : Nat) (v : Ob) (hb : lk S0.acc l = none) (h : Has S0 ⟨B, A⟩) : Has S0 ⟨B, (l, v) :: A⟩ = True := eq_true ⟨h.box, fun c x hc => by
 have h1 := h.acc c x hc
 show lk ((l, v) :: A) c = some x
 rw [q_lk_ne (fun e => by rw [← e, hb] at hc; cases hc)]; exact h1⟩
theorem inL_nil (b : Nat) : inL [] b = False := rfl
theorem inL_cons (a : Nat) (L : List Nat) (b : Nat) : inL (a :: L) b = (a = b ∨ inL L b) := rfl
theorem has_but0 (L : List Nat) (S : St) : Has (but L S) S = True := eq_true (has_but L S)
theorem hb_get {L : List Nat} {B B' : List (Nat × List DV)} {A A' : List (Nat × Ob)} (h : Has (but L ⟨B, A⟩) ⟨B', A'⟩) {c : Nat} {x : List DV} (hc : ¬ inL L c) (hx : lk B c = some x) : lk B' c = some x :=
 h.box c x (by rw [lk_but hc]; exact hx)
theorem has_same {L : List Nat} {B B' : List (Nat × List DV)} {A A' : List (Nat × Ob)} (b : Nat) (v : List DV) (h : Has (but L ⟨B, A⟩) ⟨B', A'⟩) : Has (but L ⟨(b, v) :: B, A⟩) ⟨(b, v) :: B', A'⟩ = True := eq_true ⟨fun c x hc => by
 by_cases hL : inL L c
 ·rw [lk_but_in hL] at hc; cases hc
 ·rw [lk_but hL] at hc
  show lk ((b, v) :: B') c = some x
  simp only [lk] at hc ⊢
  split
  ·rename_i e; rw [if_pos e] at hc; exact hc
  ·rename_i e; rw [if_neg e] at hc; exact hb_get h hL hc, h.acc⟩
theorem has_other {L : List Nat} {B B' : List (Nat × List DV)} {A A' : List (Nat × Ob)} (b : Nat) (v w : List DV) (hi : inL L b) (h : Has (but L ⟨B, A⟩) ⟨B', A'⟩) : Has (but L ⟨(b, v) :: B, A⟩) ⟨(b, w) :: B', A'⟩ = True := eq_true ⟨fun c x hc => by
 by_cases hL : inL L c
 ·rw [lk_but_in hL] at hc; cases hc
 ·rw [lk_but hL] at hc
  have hne : ¬ b = c := fun e => hL (e ▸ hi)
  show lk ((b, w) :: B') c = some x
  simp only [lk, if_neg hne] at hc ⊢
  exact hb_get h hL hc, h.acc⟩
def Suf {α : Type} (l' l : List (Nat × α)) : Prop := ∃ p, l = p ++ l'
theorem suf_self {α : Type} (l : List (Nat × α)) : Suf l l = True := eq_true ⟨[], rfl⟩
theorem suf_cons {α : Type} (x : Nat × α) (l' l : List (Nat × α)) (h : Suf l' l) : Suf l' (x :: l) = True := eq_true (let ⟨p, e⟩ := h; ⟨x :: p, by rw [e]; rfl⟩)
theorem fn_suf {α : Type} {l' l : List (Nat × α)} (b : FN l) (h : Suf l' l) : lk l' b.n = none := by
 obtain ⟨p, e⟩ := h
 subst e
 refine nin_lk (nin_of fun q hq => nin_all b.h q (List.mem_append_right _ hq))
end
attribute [go_sem ↓] o_nil o_cons o_st o_load o_alloc o_call o_callF o_move o_assign o_pick o_fieldAddr o_indexAddr o_extract o_nilCheck o_binOp o_convert o_makeFunc o_slice o_build o_buildSlice o_store o_makeSlice o_b_len
attribute [go_sem] o_none o_some has_self has_box has_acc suf_self suf_cons fn_suf inL_nil inL_cons has_but0 has_same has_other lk_but lk_but_in
end Aml.Y
namespace Aml
open Go Go.RowKit
def del (L : List (Nat × Ob)) (n : Nat) : List (Nat × Ob) := L.filter fun p => p.1 != n
theorem del_none {L : List (Nat × Ob)} {n : Nat} (h : ∀ p, p ∈ L → p.1 ≠ n) : del L n = L := List.filter_eq_self.2 fun p hp => by simpa using h p hp
section
variable {P : Program} {w0 : W0}
end
end Aml
namespace Aml
open Go Go.RowKit
section
variable {P : Program} {w0 : W0}
end
end Aml
namespace Aml
open Go Go.RowKit
section
variable {P : Program} {F : Fence} {n : Nat} {Q : Exit → Act → World → Prop} {a : Act} {w : World} {b : Frame} {k : List Item} {cs : List Frame}
end
section
variable {P : Program} {w0 : W0}
end
end Aml
namespace Go.Proofs.YtpcmnebpnpgcmaaGreatDoor
open Aml Go
structure E8 where
 key : ByteArray
 data : ByteArray
 far : Bool
 size : Int
 page : Int
@[go_sem] def dE8 (e : E8) : DV := .agg [dS e.key, dS e.data, dB e.far, dI e.size, dI e.page]
def cellS (b : Bool) (e : E8) : ByteArray :=
 textS e.key ++ (if b then (if e.far then ((⟨#[1]⟩ : ByteArray) ++ numS 2 (IntKind.u64.wrap e.size)) ++ numS 2 (IntKind.u64.wrap e.page) else (⟨#[0]⟩ : ByteArray) ++ e.data) else numS 2 (IntKind.u64.wrap e.page))
theorem cellS_size (b : Bool) (e : E8) : (cellS b e).size = 1 + e.key.size + (if b then (if e.far then 5 else 1 + e.data.size) else 2) := by
 unfold cellS
 rw [ByteArray.size_append, textS_size]
 have h0 : (⟨#[0]⟩ : ByteArray).size = 1 := rfl
 have h1 : (⟨#[1]⟩ : ByteArray).size = 1 := rfl
 split
 ·split
  ·rw [ByteArray.size_append, ByteArray.size_append, numS_size, numS_size, h1]
  ·rw [ByteArray.size_append, h0]
 ·rw [numS_size]
def OkE (b : Bool) (e : E8) : Prop := e.key.size ≤ 16 ∧ (if b then (if e.far then e.data = noS ∧ 16 < e.size ∧ e.size ≤ 400 ∧ 2 ≤ e.page ∧ e.page ≤ 999 else e.data.size ≤ 16 ∧ e.size = 0 ∧ e.page = 0) else e.data = noS ∧ e.far = false ∧ e.size = 0 ∧ 2 ≤ e.page ∧ e.page ≤ 999)
theorem cellsR (w0 : W0) (b : Bool) (l : List E8) (S : St) (hl : l.length ≤ 1048576) (hk : ∀ e, e ∈ l → e.key.size ≤ 255 ∧ e.data.size ≤ 1048576) : ACall Tryz.prog w0 88 [.agg [dB b, .sl 5 false (l.map dE8)]] S (fun d S' => d = .sl 1 false ((l.map (cellS b)).map dS) ∧ S' = S) := by
 refine fnS [2] mx Tryz.func88 rfl rfl (by kernel_rfl) ?_; (refine @goW _ ?_; refine goS1 @Tryz.ntmps88 ?_)
 intro b1
 refine growK 3 1 rfl (by omega) fun lp => ?_
 refine shrK [] [] mx (by kernel_rfl) ?_
 (refine @goW _ ?_; refine goS ?_)
 refine loopN [] l.length [1, 3, 4] (fun k => [(3, .acc lp.n k), (4, dI k)]) (fun k => ⟨(b1.n, [dB b, .sl 5 false (l.map dE8)]) :: S.box, (lp.n, .arr 1 (((l.take k).map (cellS b)).map dS)) :: S.acc⟩) (fun _ => True) mx (by kernel_rfl) ?_ ?_
 ·(refine @goW _ ?_; exact goT)
 ·intro k hk' _
  have hml : (l.take k).length = k := by rw [List.length_take]; omega
  (refine @goW _ ?_; refine goS1 @hml ?_)
  refine ⟨fun hlt => ⟨hlt, fun a ha b2 => ⟨hlt, fun a2 ha2 => ?_⟩⟩, fun hge => ?_⟩
  ·cases getE ha ha2
   obtain ⟨q1, q2⟩ := hk a (List.mem_of_getElem? ha)
   refine use1 (textR w0 _ _ q1) ?_
   have ht1 : l.take (k + 1) = l.take k ++ [a] := by rw [List.take_add_one, ha]; rfl
   have hts := textS_size a.key
   have hcs : cellS b a = textS a.key ++ (if b then (if a.far then ((⟨#[1]⟩ : ByteArray) ++ numS 2 (IntKind.u64.wrap a.size)) ++ numS 2 (IntKind.u64.wrap a.page) else (⟨#[0]⟩ : ByteArray) ++ a.data) else numS 2 (IntKind.u64.wrap a.page)) := rfl
   have hn2 := fun x => numS_size 2 x
   have e0 : (⟨#[0]⟩ : ByteArray).size = 1 := rfl
   have e1 : (⟨#[1]⟩ : ByteArray).size = 1 := rfl
   rw [ht1]
   have hm8 : maxLen = 9223372036854775807 := rfl
   cases b with
   | false =>
    (refine @goW _ ?_; refine goS1 @hts ?_)
    have hcS : cellS false a = textS a.key ++ numS 2 (IntKind.u64.wrap a.page) := rfl
    refine use1 (numR w0 _ 2 _ (by omega) (by omega)) ?_
    simp (maxDischargeDepth := 12) (maxSteps := 1000000) -implicitDefEqProofs only [go_sem, Nat.reduceAdd, Nat.reduceSub, Nat.reduceMul, Nat.reduceLeDiff, Nat.reduceEqDiff, Nat.reduceGT, Nat.reduceBEq, reduceCtorEq, ↓reduceIte, Int.reduceToNat, Int.reduceLE, Int.reduceLT, Int.reduceNe, Int.reduceEq, hts, hn2, hcS, hml, List.map_append, List.map_cons, List.map_nil]
    exact ⟨by omega, by omega, by omega, hlt, by rw [w64 (by omega) (by omega)]; rfl⟩
   | true =>
    cases hf : a.far with
    | false =>
     have hcS : cellS true a = textS a.key ++ ((⟨#[0]⟩ : ByteArray) ++ a.data) := by unfold cellS; rw [hf]; rfl
     simp (maxDischargeDepth := 12) (maxSteps := 1000000) -implicitDefEqProofs only [go_sem, Nat.reduceAdd, Nat.reduceSub, Nat.reduceMul, Nat.reduceLeDiff, Nat.reduceEqDiff, Nat.reduceGT, Nat.reduceBEq, reduceCtorEq, ↓reduceIte, Int.reduceToNat, Int.reduceLE, Int.reduceLT, Int.reduceNe, Int.reduceEq, hts, e0, hf, hcS, hml, List.map_append, List.map_cons, List.map_nil, ByteArray.size_append]
     exact ⟨by omega, by omega, by omega, by omega, hlt, by rw [w64 (by omega) (by omega)]; rfl⟩
    | true =>
     have hcS : cellS true a = textS a.key ++ (((⟨#[1]⟩ : ByteArray) ++ numS 2 (IntKind.u64.wrap a.size)) ++ numS 2 (IntKind.u64.wrap a.page)) := by unfold cellS; rw [hf]; rfl
     (refine @goW _ ?_; refine goS2 @hts @hf ?_)
     refine useQ (numR w0 _ 2 _ (by omega) (by omega)) ?_
     (refine @goW _ ?_; refine goS3 @e1 @hn2 @ByteArray.size_append ?_)
     refine useQ (numR w0 _ 2 _ (by omega) (by omega)) ?_
     simp (maxDischargeDepth := 12) (maxSteps := 1000000) -implicitDefEqProofs only [go_sem, Nat.reduceAdd, Nat.reduceSub, Nat.reduceMul, Nat.reduceLeDiff, Nat.reduceEqDiff, Nat.reduceGT, Nat.reduceBEq, reduceCtorEq, ↓reduceIte, Int.reduceToNat, Int.reduceLE, Int.reduceLT, Int.reduceNe, Int.reduceEq, hts, e1, hn2, hf, hcS, hml, List.map_append, List.map_cons, List.map_nil, ByteArray.size_append]
     exact ⟨by omega, by omega, by omega, hlt, by rw [w64 (by omega) (by omega)]; rfl⟩
  ·rw [List.take_of_length_le (by omega)]
   exact .refl _
def fineB (e : E8) : Bool := if e.far then eqS e.data noS && decide (16 < e.size) && decide (e.size ≤ 400) && decide (2 ≤ e.page) && decide (e.page ≤ 999) else decide (e.data.size ≤ 16) && decide (e.size = 0) && decide (e.page = 0)
theorem fineR (w0 : W0) (e : E8) (S : St) : ACall Tryz.prog w0 132 [.agg [dS e.data, dB e.far, dI e.size, dI e.page]] S (fun d S' => d = dB (fineB e) ∧ S' = S) := by
 refine fnS [] mx Tryz.func132 rfl rfl (by kernel_rfl) ?_; (refine @goW _ ?_; refine goS1 @Tryz.ntmps132 ?_)
 intro b
 unfold fineB
 have en : noS = (⟨#[]⟩ : ByteArray) := rfl
 refine ⟨fun hf => ?_, fun hf => ?_⟩
 ·rw [hf, en]
  simp only [if_true, ge_iff_le, gt_iff_lt]
  refine ⟨fun h1 => ⟨fun h2 => ⟨fun h3 => ⟨fun h4 => ?_, fun h4 => ?_⟩, fun h3 => ?_⟩, fun h2 => ?_⟩, fun h1 => ?_⟩
  ·rw [h1, decide_eq_true h2, decide_eq_true h3, decide_eq_true h4]; rfl
  ·rw [decide_eq_false h4]; simp
  ·rw [decide_eq_false h3]; simp
  ·rw [decide_eq_false h2]; simp
  ·rw [h1]; rfl
 ·rw [hf]
  simp only [Bool.false_eq_true, if_false]
  refine ⟨fun h1 => ⟨fun h2 => ?_, fun h2 => ?_⟩, fun h1 => ?_⟩
  ·rw [decide_eq_true (show e.data.size ≤ 16 by omega), decide_eq_true h2]; rfl
  ·rw [decide_eq_false h2]; simp
  ·rw [decide_eq_false (show ¬ e.data.size ≤ 16 by omega)]; rfl
theorem fine_ok {e : E8} (h : OkE true e) : fineB e = true := by
 have h := h.2
 simp only [if_true] at h
 unfold fineB
 split
 ·rename_i hf
  rw [if_pos hf] at h
  rw [eqS_iff.2 h.1, decide_eq_true h.2.1, decide_eq_true h.2.2.1, decide_eq_true h.2.2.2.1, decide_eq_true h.2.2.2.2]; rfl
 ·rename_i hf
  rw [if_neg hf] at h
  rw [decide_eq_true h.1, decide_eq_true h.2.1, decide_eq_true h.2.2]; rfl
theorem check8R (w0 : W0) (b : Bool) (l : List E8) (S : St) (hl : l.length ≤ 1048576) (hk : ∀ e, e ∈ l → OkE b e) (hr : l.Pairwise fun x y => ltS x.key y.key = true) (h0 : ∀ (i : Nat) e, l[i]? = some e → (e.key = noS ↔ i = 0 ∧ b = false)) (hs : sizS (l.map (cellS b)) ≤ 122) (h1 : 1 < l.length ∨ (b = true ∧ l.length = 1)) :
  ACall Tryz.prog w0 86 [.agg [dB b, .sl 5 false (l.map dE8)]] S (fun d S' => d = dB true ∧ S' = S) := by
 have hcl := fun S => cellsR w0 b l S hl fun e he => ⟨by have := (hk e he).1; omega, by
  have h := (hk e he).2
  split at h
  ·split at h
   ·rw [h.1, noS_size]; omega
   ·have := h.1; omega
  ·rw [h.1, noS_size]; omega⟩
 have hfi := fun e S => fineR w0 e S
 cases b with
 | true =>
  refine fnS [6,7,10] mx Tryz.func86 rfl rfl (by kernel_rfl) ?_; (refine @goW _ ?_; refine goS1 @Tryz.ntmps86 ?_)
  intro b1
  refine loopN [6, 7, 10] l.length [1, 3] (fun k => [(3, dI k)]) (fun k => ⟨(b1.n, [dB true, .sl 5 false (l.map dE8)]) :: S.box, S.acc⟩) (fun _ => True) mx (by kernel_rfl) ?_ ?_
  ·(refine @goW _ ?_; exact goT)
  ·intro k hk' _
   (refine @goW _ ?_; refine goS ?_)
   refine ⟨fun hlt => ⟨hlt, fun a ha => ⟨hlt, fun a0 ha0 b2 => ?_⟩⟩, fun hge => use1 (hcl _) ?_⟩
   ·cases getE ha ha0
    have hm := List.mem_of_getElem? ha
    have hok := hk a hm
    have f2 : ((a.key.size : Int) > 16) = False := eq_false (by have := hok.1; omega)
    have f5 : IntKind.i64.wrap ((k : Int) + 1) = ((k + 1 : Nat) : Int) := by rw [w64 (by omega) (by omega)]; rfl
    refine cutK (σ := Unit) [7, 10] [1, 3, 4, 5, 6] (fun _ => [(6, dB false)]) (fun _ => ⟨(b2.n, [dS a.data, dB a.far, dI a.size, dI a.page]) :: (b1.n, [dB true, .sl 5 false (l.map dE8)]) :: S.box, S.acc⟩) (fun _ => True) mx (by kernel_rfl) ?_ ?_
    ·(refine @goW _ ?_; refine goS ?_)
     exact ⟨(), trivial⟩
    ·intro _ _
     (refine @goW _ ?_; refine goS ?_)
     refine cutK (σ := Unit) [10] [1, 3, 4, 5, 6, 66] (fun _ => [(66, dB false)]) (fun _ => ⟨(b2.n, [dS a.data, dB a.far, dI a.size, dI a.page]) :: (b1.n, [dB true, .sl 5 false (l.map dE8)]) :: S.box, S.acc⟩) (fun _ => True) mx (by kernel_rfl) ?_ ?_
     ·rcases Nat.eq_zero_or_pos k with z0 | z0
      ·have z2 : ((k : Int) > 0) = False := eq_false (by omega)
       have f1 : eqS a.key { data := #[] } = false := eqS_no.2 fun e => (by have := ((h0 k a ha).1 e).2; cases this)
       (refine @goW _ ?_; refine goS4 @f1 @f2 @z2 @hlt ?_)
       exact ⟨(), trivial⟩
      ·have z2 : ((k : Int) > 0) = True := eq_true (by omega)
       have z3 : IntKind.i64.wrap ((k : Int) - 1) = ((k - 1 : Nat) : Int) := by rw [w64 (by omega) (by omega)]; omega
       obtain ⟨c0, hc0⟩ : ∃ c0, l[k - 1]? = some c0 := ⟨_, List.getElem?_eq_getElem (by omega)⟩
       have z4 : leS a.key c0.key = false := leS_no.2 (by obtain ⟨u1, rfl⟩ := List.getElem?_eq_some_iff.1 hc0; obtain ⟨u2, rfl⟩ := List.getElem?_eq_some_iff.1 ha; exact List.pairwise_iff_getElem.1 hr _ _ u1 u2 (by omega))
       have f1 : eqS a.key { data := #[] } = false := eqS_no.2 fun e => absurd ((h0 k a ha).1 e).1 (by omega)
       have z5 : decide (k = 0) = false := decide_eq_false (by omega)
       (refine @goW _ ?_; refine goS6 @f1 @f2 @z2 @z3 @z5 @hlt ?_)
       refine ⟨by omega, fun c1 hc1 => ?_⟩
       cases getE hc0 hc1
       exact ⟨(), z4⟩
     ·intro _ _
      (refine @goW _ ?_; refine goS ?_)
      refine use1 (hfi a _) ?_
      rw [fine_ok hok]
      (refine @goW _ ?_; refine goS ?_)
      refine cutK (σ := Unit) [] [1, 3, 4, 5, 6, 96] (fun _ => [(96, dB false)]) (fun _ => ⟨(b2.n, [dS a.data, dB a.far, dI a.size, dI a.page]) :: (b1.n, [dB true, .sl 5 false (l.map dE8)]) :: S.box, S.acc⟩) (fun _ => True) mx (by kernel_rfl) ?_ ?_
      ·(refine @goW _ ?_; refine goS ?_)
       exact ⟨(), trivial⟩
      ·intro _ _
       (refine @goW _ ?_; refine goS ?_)
       exact ⟨hlt, f5⟩
   ·(refine @goW _ ?_; refine goS ?_)
    refine use1 (sizR w0 (l.map (cellS true)) _ (by omega) (by rw [List.length_map]; exact hl)) ?_
    (refine @goW _ ?_; refine goS ?_)
    refine ⟨fun _ hn => ?_, fun hn => absurd hn (by omega)⟩
    rcases h1 with h | h
    ·omega
    ·omega
 | false =>
  refine fnS [6,7,10] mx Tryz.func86 rfl rfl (by kernel_rfl) ?_; (refine @goW _ ?_; refine goS1 @Tryz.ntmps86 ?_)
  intro b1
  refine loopN [6, 7, 10] l.length [1, 3] (fun k => [(3, dI k)]) (fun k => ⟨(b1.n, [dB false, .sl 5 false (l.map dE8)]) :: S.box, S.acc⟩) (fun _ => True) mx (by kernel_rfl) ?_ ?_
  ·(refine @goW _ ?_; exact goT)
  ·intro k hk' _
   (refine @goW _ ?_; refine goS ?_)
   refine ⟨fun hlt => ⟨hlt, fun a ha => ⟨hlt, fun a0 ha0 b2 => ?_⟩⟩, fun hge => use1 (hcl _) ?_⟩
   ·cases getE ha ha0
    have hm := List.mem_of_getElem? ha
    have hok := hk a hm
    have f2 : ((a.key.size : Int) > 16) = False := eq_false (by have := hok.1; omega)
    have f5 : IntKind.i64.wrap ((k : Int) + 1) = ((k + 1 : Nat) : Int) := by rw [w64 (by omega) (by omega)]; rfl
    refine cutK (σ := Unit) [7, 10] [1, 3, 4, 5, 6] (fun _ => [(6, dB (decide (k = 0)))]) (fun _ => ⟨(b2.n, [dS a.data, dB a.far, dI a.size, dI a.page]) :: (b1.n, [dB false, .sl 5 false (l.map dE8)]) :: S.box, S.acc⟩) (fun _ => True) mx (by kernel_rfl) ?_ ?_
    ·(refine @goW _ ?_; refine goS ?_)
     exact ⟨(), by omega⟩
    ·intro _ _
     (refine @goW _ ?_; refine goS ?_)
     refine cutK (σ := Unit) [10] [1, 3, 4, 5, 6, 66] (fun _ => [(66, dB false)]) (fun _ => ⟨(b2.n, [dS a.data, dB a.far, dI a.size, dI a.page]) :: (b1.n, [dB false, .sl 5 false (l.map dE8)]) :: S.box, S.acc⟩) (fun _ => True) mx (by kernel_rfl) ?_ ?_
     ·rcases Nat.eq_zero_or_pos k with z0 | z0
      ·have z2 : ((k : Int) > 0) = False := eq_false (by omega)
       have f1 : eqS a.key { data := #[] } = true := eqS_iff.2 ((h0 k a ha).2 ⟨z0, rfl⟩)
       have z5 : decide (k = 0) = true := decide_eq_true z0
       (refine @goW _ ?_; refine goS5 @f1 @f2 @z2 @z5 @hlt ?_)
       exact ⟨(), trivial⟩
      ·have z2 : ((k : Int) > 0) = True := eq_true (by omega)
       have z3 : IntKind.i64.wrap ((k : Int) - 1) = ((k - 1 : Nat) : Int) := by rw [w64 (by omega) (by omega)]; omega
       obtain ⟨c0, hc0⟩ : ∃ c0, l[k - 1]? = some c0 := ⟨_, List.getElem?_eq_getElem (by omega)⟩
       have z4 : leS a.key c0.key = false := leS_no.2 (by obtain ⟨u1, rfl⟩ := List.getElem?_eq_some_iff.1 hc0; obtain ⟨u2, rfl⟩ := List.getElem?_eq_some_iff.1 ha; exact List.pairwise_iff_getElem.1 hr _ _ u1 u2 (by omega))
       have f1 : eqS a.key { data := #[] } = false := eqS_no.2 fun e => absurd ((h0 k a ha).1 e).1 (by omega)
       have z5 : decide (k = 0) = false := decide_eq_false (by omega)
       (refine @goW _ ?_; refine goS6 @f1 @f2 @z2 @z3 @z5 @hlt ?_)
       refine ⟨by omega, fun c1 hc1 => ?_⟩
       cases getE hc0 hc1
       exact ⟨(), z4⟩
     ·intro _ _
      (refine @goW _ ?_; refine goS ?_)
      refine use1 (hfi a _) ?_
      skip
      (refine @goW _ ?_; refine goS ?_)
      refine cutK (σ := Unit) [] [1, 3, 4, 5, 6, 96] (fun _ => [(96, dB false)]) (fun _ => ⟨(b2.n, [dS a.data, dB a.far, dI a.size, dI a.page]) :: (b1.n, [dB false, .sl 5 false (l.map dE8)]) :: S.box, S.acc⟩) (fun _ => True) mx (by kernel_rfl) ?_ ?_
      ·have hok2 := hok.2
       simp only [Bool.false_eq_true, if_false] at hok2
       (refine @goW _ ?_; refine goS ?_)
       refine ⟨fun h => absurd h (by omega), fun _ => ⟨fun h => absurd h (by omega), fun _ => ⟨(), ?_⟩⟩⟩
       rw [hok2.1, hok2.2.1, hok2.2.2.1]; rfl
      ·intro _ _
       (refine @goW _ ?_; refine goS ?_)
       exact ⟨hlt, f5⟩
   ·(refine @goW _ ?_; refine goS ?_)
    refine use1 (sizR w0 (l.map (cellS false)) _ (by omega) (by rw [List.length_map]; exact hl)) ?_
    (refine @goW _ ?_; refine goS ?_)
    refine ⟨fun _ hn => ?_, fun hn => absurd hn (by omega)⟩
    rcases h1 with h | h
    ·omega
    ·cases h.1
theorem put8R (w0 : W0) (b : Bool) (l : List E8) (S : St) (hl : l.length ≤ 1048576) (hk : ∀ e, e ∈ l → OkE b e) (hr : l.Pairwise fun x y => ltS x.key y.key = true) (h0 : ∀ (i : Nat) e, l[i]? = some e → (e.key = noS ↔ i = 0 ∧ b = false)) (hs : sizS (l.map (cellS b)) ≤ 122) (h1 : 1 < l.length ∨ (b = true ∧ l.length = 1)) :
  ACall Tryz.prog w0 54 [.agg [dB b, .sl 5 false (l.map dE8)]] S (fun d S' => d = .tup [dS (packS (if b then 1 else 2) (l.map (cellS b))), dI 0] ∧ S' = S) := by
 have hcl := fun S => cellsR w0 b l S hl fun e he => ⟨by have := (hk e he).1; omega, by
  have h := (hk e he).2
  split at h
  ·split at h
   ·rw [h.1, noS_size]; omega
   ·have := h.1; omega
  ·rw [h.1, noS_size]; omega⟩
 have hch := fun S => check8R w0 b l S hl hk hr h0 hs h1
 cases b with
 | true =>
  refine fnS [] mx Tryz.func54 rfl rfl (by kernel_rfl) ?_; (refine @goW _ ?_; refine goS1 @Tryz.ntmps54 ?_)
  intro b1
  refine use1 (hch _) ?_
  (refine @goW _ ?_; refine goS ?_)
  refine use1 (hcl _) ?_
  (refine @goW _ ?_; refine goS ?_)
  refine use1 (packR w0 1 (l.map (cellS true)) _ (by decide) hs) ?_
  (refine @goW _ ?_; exact goT)
 | false =>
  refine fnS [] mx Tryz.func54 rfl rfl (by kernel_rfl) ?_; (refine @goW _ ?_; refine goS1 @Tryz.ntmps54 ?_)
  intro b1
  refine use1 (hch _) ?_
  (refine @goW _ ?_; refine goS ?_)
  refine use1 (hcl _) ?_
  (refine @goW _ ?_; refine goS ?_)
  refine use1 (packR w0 2 (l.map (cellS false)) _ (by decide) hs) ?_
  (refine @goW _ ?_; exact goT)
theorem o_inv {P : Program} {w0 : W0} {S0 : St} {fr : List DV} {S : St} {K : DV → St → Prop} (r : Operand) (m : String) (a : Array Operand) (ts : Array TypeId) : Y.opO P w0 S0 (.call ⟨.invoke r m, a, ts⟩) fr S K = vcOp P w0 (.call ⟨.invoke r m, a, ts⟩) fr S K := rfl
attribute [go_sem ↓] o_inv
theorem inv_l_may : invF Tryz.prog 232 "jalousie/node.may" = some 175 := by kernel_rfl
theorem inv_l_put : invF Tryz.prog 232 "jalousie/node.put" = some 176 := by kernel_rfl
theorem inv_l_least : invF Tryz.prog 232 "jalousie/node.least" = some 174 := by kernel_rfl
theorem inv_b_may : invF Tryz.prog 233 "jalousie/node.may" = some 182 := by kernel_rfl
theorem inv_b_put : invF Tryz.prog 233 "jalousie/node.put" = some 183 := by kernel_rfl
theorem inv_b_least : invF Tryz.prog 233 "jalousie/node.least" = some 181 := by kernel_rfl
attribute [go_sem] inv_l_may inv_l_put inv_l_least inv_b_may inv_b_put inv_b_least
theorem kindP (w0 : W0) (b : Bool) (l : List E8) (S : St) : ACall Tryz.prog w0 82 [.agg [dB b, .sl 5 false (l.map dE8)]] S (fun d S' => d = .v (.int .u8 (if b then 1 else 2)) ∧ S' = S) := by
 cases b with
 | true =>
  refine fnS [] mx Tryz.func82 rfl rfl (by kernel_rfl) ?_; (refine @goW _ ?_; exact goT1 @Tryz.ntmps82)
 | false =>
  refine fnS [] mx Tryz.func82 rfl rfl (by kernel_rfl) ?_; (refine @goW _ ?_; exact goT1 @Tryz.ntmps82)
theorem shapesP (w0 : W0) (S : St) : ACall Tryz.prog w0 124 [] S (fun d S' => d = .sl 1 false [.v .nilIface, .ifc 232 (.agg []), .ifc 233 (.agg [])] ∧ S' = S) := by
 refine fnS [] mx Tryz.func124 rfl rfl (by kernel_rfl) ?_; (refine @goW _ ?_; exact goT1 @Tryz.ntmps124)
theorem keyP (w0 : W0) (s : ByteArray) (S : St) : ACall Tryz.prog w0 178 [dS s] S (fun d S' => d = dB (decide (s.size ≠ 0) && decide (s.size ≤ 16)) ∧ S' = S) := by
 refine fnS [] mx Tryz.func178 rfl rfl (by kernel_rfl) ?_; (refine @goW _ ?_; refine goS1 @Tryz.ntmps178 ?_)
 refine ⟨fun h => ?_, fun h => ?_⟩
 ·have : ¬ s.size = 0 := fun e => by
   rw [eqS_iff.2 (show s = (⟨#[]⟩ : ByteArray) from ByteArray.ext (by have : s.data.size = 0 := e; exact Array.eq_empty_of_size_eq_zero this))] at h
   cases h
  rw [decide_eq_true this, Bool.true_and]
  exact decide_eq_decide.2 (by omega)
 ·have := eqS_iff.1 h
  subst this; rfl
theorem pageP (w0 : W0) (n : Int) (S : St) : ACall Tryz.prog w0 179 [dI n] S (fun d S' => d = dB (decide (2 ≤ n) && decide (n ≤ 999)) ∧ S' = S) := by
 refine fnS [] mx Tryz.func179 rfl rfl (by kernel_rfl) ?_; (refine @goW _ ?_; refine goS1 @Tryz.ntmps179 ?_)
 refine ⟨fun h => ?_, fun h => ?_⟩
 ·rw [decide_eq_true (show 2 ≤ n from h), Bool.true_and]
 ·rw [decide_eq_false (show ¬ 2 ≤ n from h), Bool.false_and]
theorem leastLP (w0 : W0) (S : St) : ACall Tryz.prog w0 174 [.agg []] S (fun d S' => d = dI 1 ∧ S' = S) := by
 refine fnS [] mx Tryz.func174 rfl rfl (by kernel_rfl) ?_; (refine @goW _ ?_; exact goT1 @Tryz.ntmps174)
theorem leastBP (w0 : W0) (S : St) : ACall Tryz.prog w0 181 [.agg []] S (fun d S' => d = dI 2 ∧ S' = S) := by
 refine fnS [] mx Tryz.func181 rfl rfl (by kernel_rfl) ?_; (refine @goW _ ?_; exact goT1 @Tryz.ntmps181)
@[go_sem] def dV8 (e : E8) : DV := .agg [dS e.data, dB e.far, dI e.size, dI e.page]
def valS (b : Bool) (e : E8) : ByteArray := if b then (if e.far then ((⟨#[1]⟩ : ByteArray) ++ numS 2 (IntKind.u64.wrap e.size)) ++ numS 2 (IntKind.u64.wrap e.page) else (⟨#[0]⟩ : ByteArray) ++ e.data) else numS 2 (IntKind.u64.wrap e.page)
theorem leafPutP (w0 : W0) (e : E8) (S : St) (h : OkE true e) : ACall Tryz.prog w0 176 [.agg [], dV8 e] S (fun d S' => d = dB8 (valS true e) ∧ S' = S) := by
 have h2 := h.2
 simp only [if_true] at h2
 unfold valS
 simp only [if_true]
 have e1 : (⟨#[1]⟩ : ByteArray) = strOfNums [1] := rfl
 have e0 : (⟨#[0]⟩ : ByteArray) = strOfNums [0] := rfl
 have b1 := bY_one 1 (by decide) (by decide)
 have b0 := bY_one 0 (by decide) (by decide)
 have hm8 : maxLen = 9223372036854775807 := rfl
 cases hf : e.far with
 | true =>
  rw [if_pos hf] at h2
  have w1 : IntKind.u64.wrap e.size = e.size := wu64 (by omega) (by omega)
  have w2 : IntKind.u64.wrap e.page = e.page := wu64 (by omega) (by omega)
  have l1 : (bY (numS 2 e.size)).length = 2 := by rw [bY_len, numS_size]
  have l2 : (bY (numS 2 e.page)).length = 2 := by rw [bY_len, numS_size]
  rw [if_pos rfl, w1, w2, e1]
  refine fnS [2] mx Tryz.func176 rfl rfl (by kernel_rfl) ?_; (refine @goW _ ?_; refine goS2 @Tryz.ntmps176 @hf ?_)
  intro c1 c2
  refine Y.ordK [4, 8] [] [0, 1, 5, 2, 3, 6, 4, 7, 8, 9] mx (by kernel_rfl) ?_
  (refine @goW _ ?_; refine goS ?_)
  refine Y.useO (fun T _ => twoP w0 e.size T (by omega) (by omega)) ?_
  (refine @goW _ ?_; refine goS1 @l1 ?_)
  refine ⟨by omega, fun b => Y.useO (fun T _ => twoP w0 e.page T (by omega) (by omega)) ?_⟩
  (refine @goW _ ?_; refine goS2 @l1 @l2 ?_)
  rw [bY_app, bY_app, b1]
  exact ⟨by omega, .refl _⟩
 | false =>
  rw [if_neg (by rw [hf]; simp)] at h2
  have hb := bY_len e.data
  have e9 : e.data.data.toList.length = e.data.size := rfl
  rw [if_neg (by simp), e0]
  refine fnS [2] mx Tryz.func176 rfl rfl (by kernel_rfl) ?_; (refine @goW _ ?_; refine goS2 @Tryz.ntmps176 @hf ?_)
  intro c1 c2
  rw [e9, bY_app, b0]
  exact ⟨by omega, by omega, fun b => .refl _⟩
theorem branchPutP (w0 : W0) (e : E8) (S : St) (h : OkE false e) : ACall Tryz.prog w0 183 [.agg [], dV8 e] S (fun d S' => d = dB8 (valS false e) ∧ S' = S) := by
 have h2 := h.2
 simp only [Bool.false_eq_true, if_false] at h2
 have w2 : IntKind.u64.wrap e.page = e.page := wu64 (by omega) (by omega)
 unfold valS
 rw [if_neg (by simp), w2]
 refine fnS [] mx Tryz.func183 rfl rfl (by kernel_rfl) ?_; (refine @goW _ ?_; refine goS1 @Tryz.ntmps183 ?_)
 intro c1 c2
 refine use1 (twoP w0 e.page _ (by omega) (by omega)) ?_
 (refine @goW _ ?_; exact goT)
theorem leafMayP (w0 : W0) (i : Int) (e : E8) (S : St) (h : OkE true e) (hk : e.key ≠ noS) : ACall Tryz.prog w0 175 [.agg [], dI i, dE8 e] S (fun d S' => d = dB true ∧ S' = S) := by
 have h1 := h.1
 have h2 := h.2
 simp only [if_true] at h2
 have hks : e.key.size ≠ 0 := fun q => hk (ByteArray.ext (Array.eq_empty_of_size_eq_zero q))
 have hkey := fun S => keyP w0 e.key S
 rw [decide_eq_true hks, decide_eq_true h1] at hkey
 cases hf : e.far with
 | true =>
  rw [if_pos hf] at h2
  have hp := fun S => pageP w0 e.page S
  rw [decide_eq_true h2.2.2.2.1, decide_eq_true h2.2.2.2.2] at hp
  have hd : eqS e.data { data := #[] } = true := eqS_iff.2 h2.1
  refine fnS [] mx Tryz.func175 rfl rfl (by kernel_rfl) ?_; (refine @goW _ ?_; refine goS2 @Tryz.ntmps175 @hf ?_)
  intro c1 c2 c3
  refine use1 (hkey _) ?_
  (refine @goW _ ?_; refine goS1 @hd ?_)
  refine ⟨fun _ => ⟨fun _ => use1 (hp _) ?_, fun q => absurd h2.2.2.1 q⟩, fun q => absurd h2.2.1 q⟩
  (refine @goW _ ?_; exact goT)
 | false =>
  rw [if_neg (by rw [hf]; simp)] at h2
  refine fnS [] mx Tryz.func175 rfl rfl (by kernel_rfl) ?_; (refine @goW _ ?_; refine goS2 @Tryz.ntmps175 @hf ?_)
  intro c1 c2 c3
  refine use1 (hkey _) ?_
  (refine @goW _ ?_; refine goS ?_)
  exact ⟨fun _ => ⟨fun _ => h2.2.2, fun q => q h2.2.1⟩, fun q => by omega⟩
theorem branchMayP (w0 : W0) (i : Nat) (e : E8) (S : St) (h : OkE false e) (hk : e.key = noS ↔ i = 0) : ACall Tryz.prog w0 182 [.agg [], dI i, dE8 e] S (fun d S' => d = dB true ∧ S' = S) := by
 have h1 := h.1
 have h2 := h.2
 simp only [Bool.false_eq_true, if_false] at h2
 have hp := fun S => pageP w0 e.page S
 have hkey := fun S => keyP w0 e.key S
 have hfin : ((decide (2 ≤ e.page) && decide (e.page ≤ 999)) = true → (decide (e.data.data.toList = ByteArray.empty.data.toList) && !e.far && decide (e.size = 0)) = true) ∧ ((decide (2 ≤ e.page) && decide (e.page ≤ 999)) = false → False) := by
  rw [decide_eq_true h2.2.2.2.1, decide_eq_true h2.2.2.2.2, h2.1, h2.2.1, h2.2.2.1]
  exact ⟨fun _ => by decide, fun q => by cases q⟩
 rcases Nat.eq_zero_or_pos i with z | z
 ·have hkn := hk.2 z
  have hd : eqS e.key { data := #[] } = true := eqS_iff.2 hkn
  have zi : ((i : Int) = 0) = True := eq_true (by omega)
  refine fnS [] mx Tryz.func182 rfl rfl (by kernel_rfl) ?_; (refine @goW _ ?_; refine goS3 @Tryz.ntmps182 @zi @hd ?_)
  intro c1 c2
  refine use1 (hp _) ?_
  (refine @goW _ ?_; refine goS ?_)
  exact hfin
 ·have hks : ¬ e.key.size = 0 := fun q => absurd (hk.1 (ByteArray.ext (Array.eq_empty_of_size_eq_zero q))) (by omega)
  have hkk : (decide (¬ e.key.size = 0) && decide (e.key.size ≤ 16)) = true := by rw [decide_eq_true hks, decide_eq_true h1]; rfl
  have zi : ((i : Int) = 0) = False := eq_false (by omega)
  have zj : ((i : Int) > 0) = True := eq_true (by omega)
  refine fnS [] mx Tryz.func182 rfl rfl (by kernel_rfl) ?_; (refine @goW _ ?_; refine goS3 @Tryz.ntmps182 @zi @zj ?_)
  intro c1 c2
  refine use1 (hkey _) ?_
  (refine @goW _ ?_; refine goS1 @hkk ?_)
  refine use1 (hp _) ?_
  (refine @goW _ ?_; refine goS ?_)
  exact hfin
theorem textA (w0 : W0) (s : ByteArray) (S : St) (h : s.size ≤ 255) : ACall Tryz.prog w0 128 [dS s] S (fun d S' => ∃ r : FN S.acc, d = .acc r.n (textS s).size ∧ S' = ⟨S.box, (r.n, .tl 1 (bY (textS s))) :: S.acc⟩) := by
 have e0 : (if (255 : Int) < (s.size : Int) then 255 else (s.size : Int)) = s.size := if_neg (by omega)
 have e1 : s.extract 0 (s.size : Int).toNat = s := by rw [Int.toNat_natCast]; exact ByteArray.extract_zero_size
 have e2 : s.data.toList.length = s.size := rfl
 have hm8 : maxLen = 9223372036854775807 := rfl
 have hts := textS_size s
 have e3 : bY (textS s) = .v (.int .u8 (IntKind.u8.wrap (s.size : Int))) :: bY s := by
  have hw : IntKind.u64.wrap (s.size : Int) = s.size := wu64 (by omega) (by omega)
  have h8 : IntKind.u8.wrap (s.size : Int) = s.size := by
   have e : IntKind.u8.wrap (s.size : Int) = (s.size : Int) % 256 := rfl
   rw [e]; omega
  unfold textS
  rw [hw, bY_app, numS, numX, bY_app, h8, bY_one _ (by omega) (by omega)]
  rfl
 refine fnO [] mx Tryz.func128 rfl rfl (by kernel_rfl) ?_; (refine @goW _ ?_; refine goS1 @Tryz.ntmps128 ?_)
 rw [e0, e1, e2, e3]
 refine ⟨by omega, by omega, by omega, by omega, fun b => ⟨b, ?_, ?_⟩⟩
 ·rw [hts, Nat.add_comm]
 ·rfl
theorem cell_val (b : Bool) (e : E8) : cellS b e = textS e.key ++ valS b e := rfl
theorem valS_size (b : Bool) (e : E8) : (valS b e).size = if b then (if e.far then 5 else 1 + e.data.size) else 2 := by
 have h := cellS_size b e
 rw [cell_val, ByteArray.size_append, textS_size] at h
 omega
theorem cellsP (w0 : W0) (b : Bool) (l : List E8) (S : St) (hl : l.length ≤ 1048576) (hk : ∀ e, e ∈ l → OkE b e) : ACall Tryz.prog w0 83 [.agg [dB b, .sl 5 false (l.map dE8)]] S (fun d S' => d = .sl 1 false ((l.map (cellS b)).map dB8) ∧ S' = S) := by
 have hkd := fun S => kindP w0 b l S
 cases b with
 | true =>
  refine fnS [6] mx Tryz.func83 rfl rfl (by kernel_rfl) ?_; (refine @goW _ ?_; refine goS1 @Tryz.ntmps83 ?_)
  intro b1
  refine useQ (shapesP w0 _) ?_
  (refine @goW _ ?_; refine goS ?_)
  refine useQ (hkd _) ?_
  (refine @goW _ ?_; refine goS ?_)
  refine growK 4 1 rfl (by omega) fun lp => ?_
  (refine @goW _ ?_; refine goS ?_)
  refine loopN [6] l.length [3, 4, 13, 14, 15] (fun k => [(4, .acc lp.n k), (15, dI k)]) (fun k => ⟨(b1.n, [dB true, .sl 5 false (l.map dE8)]) :: S.box, (lp.n, .arr 1 (((l.take k).map (cellS true)).map dB8)) :: S.acc⟩) (fun _ => True) mx (by kernel_rfl) ?_ ?_
  ·(refine @goW _ ?_; exact goT)
  ·intro k hk' _
   have hml : (l.take k).length = k := by rw [List.length_take]; omega
   have e1 : IntKind.i64.wrap ((k : Int) + 1) = ((k + 1 : Nat) : Int) := by rw [w64 (by omega) (by omega)]; omega
   (refine @goW _ ?_; refine goS1 @hml ?_)
   refine ⟨fun hlt => ⟨hlt, fun a ha b2 => ?_⟩, fun hge => ?_⟩
   ·have hok := hk a (List.mem_of_getElem? ha)
    have hk1 := hok.1
    refine Y.ordK [3, 8, 9] [10] [0, 1, 4, 5, 2, 6, 3, 7, 8, 9, 10, 11] mx (by kernel_rfl) ?_
    (refine @goW _ ?_; refine goS ?_)
    refine useK (textA w0 a.key _ (by omega)) ?_
    rintro _ _ ⟨r, rfl, rfl⟩
    (refine @goW _ ?_; refine goS ?_)
    refine use1 (leafPutP w0 a _ hok) ?_
    have hvs := valS_size true a
    have hts := textS_size a.key
    have l1 := bY_len (textS a.key)
    have l2 := bY_len (valS true a)
    have hm8 : maxLen = 9223372036854775807 := rfl
    have hda : a.data.size ≤ 16 ∨ a.data.size = 0 := by
     have h2 := hok.2
     simp only [if_true] at h2
     by_cases q : a.far = true
     ·rw [if_pos q] at h2; right; rw [h2.1]; rfl
     ·rw [if_neg q] at h2; left; exact h2.1
    have hsz : (valS true a).size ≤ 17 := by
     rw [hvs]
     simp only [if_true]
     split <;> omega
    (refine @goW _ ?_; refine goS3 @l1 @l2 @hml ?_)
    have hrow : ((l.take (k + 1)).map (cellS true)).map dB8 = ((l.take k).map (cellS true)).map dB8 ++ [.sl 1 false (bY (textS a.key) ++ bY (valS true a))] := by
     rw [List.take_add_one, ha, Option.toList_some, List.map_append, List.map_append, ← bY_app]
     rfl
    rw [hrow]
    exact ⟨by omega, by omega, by omega, by omega, hlt, e1, .consB (.consA (.refl _))⟩
   ·rw [List.take_of_length_le (by omega)]
    exact .refl _
 | false =>
  refine fnS [6] mx Tryz.func83 rfl rfl (by kernel_rfl) ?_; (refine @goW _ ?_; refine goS1 @Tryz.ntmps83 ?_)
  intro b1
  refine useQ (shapesP w0 _) ?_
  (refine @goW _ ?_; refine goS ?_)
  refine useQ (hkd _) ?_
  (refine @goW _ ?_; refine goS ?_)
  refine growK 4 1 rfl (by omega) fun lp => ?_
  (refine @goW _ ?_; refine goS ?_)
  refine loopN [6] l.length [3, 4, 13, 14, 15] (fun k => [(4, .acc lp.n k), (15, dI k)]) (fun k => ⟨(b1.n, [dB false, .sl 5 false (l.map dE8)]) :: S.box, (lp.n, .arr 1 (((l.take k).map (cellS false)).map dB8)) :: S.acc⟩) (fun _ => True) mx (by kernel_rfl) ?_ ?_
  ·(refine @goW _ ?_; exact goT)
  ·intro k hk' _
   have hml : (l.take k).length = k := by rw [List.length_take]; omega
   have e1 : IntKind.i64.wrap ((k : Int) + 1) = ((k + 1 : Nat) : Int) := by rw [w64 (by omega) (by omega)]; omega
   (refine @goW _ ?_; refine goS1 @hml ?_)
   refine ⟨fun hlt => ⟨hlt, fun a ha b2 => ?_⟩, fun hge => ?_⟩
   ·have hok := hk a (List.mem_of_getElem? ha)
    have hk1 := hok.1
    refine Y.ordK [3, 8, 9] [10] [0, 1, 4, 5, 2, 6, 3, 7, 8, 9, 10, 11] mx (by kernel_rfl) ?_
    (refine @goW _ ?_; refine goS ?_)
    refine useK (textA w0 a.key _ (by omega)) ?_
    rintro _ _ ⟨r, rfl, rfl⟩
    (refine @goW _ ?_; refine goS ?_)
    refine use1 (branchPutP w0 a _ hok) ?_
    have hvs := valS_size false a
    have hts := textS_size a.key
    have l1 := bY_len (textS a.key)
    have l2 := bY_len (valS false a)
    have hm8 : maxLen = 9223372036854775807 := rfl
    have hsz : (valS false a).size ≤ 17 := by
     rw [hvs]
     simp
    (refine @goW _ ?_; refine goS3 @l1 @l2 @hml ?_)
    have hrow : ((l.take (k + 1)).map (cellS false)).map dB8 = ((l.take k).map (cellS false)).map dB8 ++ [.sl 1 false (bY (textS a.key) ++ bY (valS false a))] := by
     rw [List.take_add_one, ha, Option.toList_some, List.map_append, List.map_append, ← bY_app]
     rfl
    rw [hrow]
    exact ⟨by omega, by omega, by omega, by omega, hlt, e1, .consB (.consA (.refl _))⟩
   ·rw [List.take_of_length_le (by omega)]
    exact .refl _
theorem checkP8 (w0 : W0) (b : Bool) (l : List E8) (S : St) (hl : l.length ≤ 1048576) (hk : ∀ e, e ∈ l → OkE b e) (hr : l.Pairwise fun x y => ltS x.key y.key = true) (h0 : ∀ (i : Nat) e, l[i]? = some e → (e.key = noS ↔ i = 0 ∧ b = false)) (hs : sizS (l.map (cellS b)) ≤ 122) (h1 : 1 < l.length ∨ (b = true ∧ l.length = 1)) :
  ACall Tryz.prog w0 80 [.agg [dB b, .sl 5 false (l.map dE8)]] S (fun d S' => d = dB true ∧ S' = S) := by
 have hkd := fun S => kindP w0 b l S
 have hcl := fun S => cellsP w0 b l S hl hk
 cases b with
 | true =>
  refine fnS [] mx Tryz.func80 rfl rfl (by kernel_rfl) ?_; (refine @goW _ ?_; refine goS1 @Tryz.ntmps80 ?_)
  intro b1
  refine useQ (shapesP w0 _) ?_
  (refine @goW _ ?_; refine goS ?_)
  refine useQ (hkd _) ?_
  (refine @goW _ ?_; refine goS ?_)
  refine loopN [] l.length [1, 3, 12, 13, 14] (fun k => [(14, dI k)]) (fun k => ⟨(b1.n, [dB true, .sl 5 false (l.map dE8)]) :: S.box, S.acc⟩) (fun _ => True) mx (by kernel_rfl) ?_ ?_
  ·(refine @goW _ ?_; exact goT)
  ·intro k hk' _
   have e1 : IntKind.i64.wrap ((k : Int) + 1) = ((k + 1 : Nat) : Int) := by rw [w64 (by omega) (by omega)]; omega
   (refine @goW _ ?_; refine goS ?_)
   refine ⟨fun hlt => ⟨hlt, fun a ha b2 => ?_⟩, fun hge => ?_⟩
   ·have hok := hk a (List.mem_of_getElem? ha)
    have hkn : a.key ≠ noS := fun e => (by have := ((h0 k a ha).1 e).2; cases this)
    refine useQ (leafMayP w0 k a _ hok hkn) ?_
    rcases Nat.eq_zero_or_pos k with z0 | z0
    ·have z2 : ((k : Int) > 0) = False := eq_false (by omega)
     (refine @goW _ ?_; refine goS1 @z2 ?_)
     exact ⟨hlt, e1⟩
    ·have z2 : ((k : Int) > 0) = True := eq_true (by omega)
     have z3 : IntKind.i64.wrap ((k : Int) - 1) = ((k - 1 : Nat) : Int) := by rw [w64 (by omega) (by omega)]; omega
     obtain ⟨c0, hc0⟩ : ∃ c0, l[k - 1]? = some c0 := ⟨_, List.getElem?_eq_getElem (by omega)⟩
     have z4 : leS a.key c0.key = false := leS_no.2 (by obtain ⟨u1, rfl⟩ := List.getElem?_eq_some_iff.1 hc0; obtain ⟨u2, rfl⟩ := List.getElem?_eq_some_iff.1 ha; exact List.pairwise_iff_getElem.1 hr _ _ u1 u2 (by omega))
     (refine @goW _ ?_; refine goS2 @z2 @z3 ?_)
     refine ⟨by omega, fun c1 hc1 => ?_⟩
     cases getE hc0 hc1
     (refine @goW _ ?_; refine goS1 @z4 ?_)
     exact ⟨hlt, e1⟩
   ·refine useQ (leastLP w0 _) ?_
    have hpos : ((l.length : Int) ≥ 1) = True := eq_true (by
     rcases h1 with q | ⟨_, q⟩ <;> omega)
    (refine @goW _ ?_; refine goS1 @hpos ?_)
    refine useQ (hcl _) ?_
    (refine @goW _ ?_; refine goS ?_)
    refine useQ (sizeP w0 (l.map (cellS true)) _ (by omega) (by rw [List.length_map]; exact hl)) ?_
    have hle : decide ((sizS (l.map (cellS true)) : Int) ≤ 122) = true := decide_eq_true (by omega)
    (refine @goW _ ?_; exact goT1 @hle)
 | false =>
  refine fnS [] mx Tryz.func80 rfl rfl (by kernel_rfl) ?_; (refine @goW _ ?_; refine goS1 @Tryz.ntmps80 ?_)
  intro b1
  refine useQ (shapesP w0 _) ?_
  (refine @goW _ ?_; refine goS ?_)
  refine useQ (hkd _) ?_
  (refine @goW _ ?_; refine goS ?_)
  refine loopN [] l.length [1, 3, 12, 13, 14] (fun k => [(14, dI k)]) (fun k => ⟨(b1.n, [dB false, .sl 5 false (l.map dE8)]) :: S.box, S.acc⟩) (fun _ => True) mx (by kernel_rfl) ?_ ?_
  ·(refine @goW _ ?_; exact goT)
  ·intro k hk' _
   have e1 : IntKind.i64.wrap ((k : Int) + 1) = ((k + 1 : Nat) : Int) := by rw [w64 (by omega) (by omega)]; omega
   (refine @goW _ ?_; refine goS ?_)
   refine ⟨fun hlt => ⟨hlt, fun a ha b2 => ?_⟩, fun hge => ?_⟩
   ·have hok := hk a (List.mem_of_getElem? ha)
    have hkn : a.key = noS ↔ k = 0 := ⟨fun e => ((h0 k a ha).1 e).1, fun e => (h0 k a ha).2 ⟨e, rfl⟩⟩
    refine useQ (branchMayP w0 k a _ hok hkn) ?_
    rcases Nat.eq_zero_or_pos k with z0 | z0
    ·have z2 : ((k : Int) > 0) = False := eq_false (by omega)
     (refine @goW _ ?_; refine goS1 @z2 ?_)
     exact ⟨hlt, e1⟩
    ·have z2 : ((k : Int) > 0) = True := eq_true (by omega)
     have z3 : IntKind.i64.wrap ((k : Int) - 1) = ((k - 1 : Nat) : Int) := by rw [w64 (by omega) (by omega)]; omega
     obtain ⟨c0, hc0⟩ : ∃ c0, l[k - 1]? = some c0 := ⟨_, List.getElem?_eq_getElem (by omega)⟩
     have z4 : leS a.key c0.key = false := leS_no.2 (by obtain ⟨u1, rfl⟩ := List.getElem?_eq_some_iff.1 hc0; obtain ⟨u2, rfl⟩ := List.getElem?_eq_some_iff.1 ha; exact List.pairwise_iff_getElem.1 hr _ _ u1 u2 (by omega))
     (refine @goW _ ?_; refine goS2 @z2 @z3 ?_)
     refine ⟨by omega, fun c1 hc1 => ?_⟩
     cases getE hc0 hc1
     (refine @goW _ ?_; refine goS1 @z4 ?_)
     exact ⟨hlt, e1⟩
   ·refine useQ (leastBP w0 _) ?_
    have hpos : ((l.length : Int) ≥ 2) = True := eq_true (by
     rcases h1 with q | ⟨q, _⟩
     ·omega
     ·cases q)
    (refine @goW _ ?_; refine goS1 @hpos ?_)
    refine useQ (hcl _) ?_
    (refine @goW _ ?_; refine goS ?_)
    refine useQ (sizeP w0 (l.map (cellS false)) _ (by omega) (by rw [List.length_map]; exact hl)) ?_
    have hle : decide ((sizS (l.map (cellS false)) : Int) ≤ 122) = true := decide_eq_true (by omega)
    (refine @goW _ ?_; exact goT1 @hle)
theorem putP8 (w0 : W0) (hg : GlobC w0) (b : Bool) (l : List E8) (S : St) (hl : l.length ≤ 1048576) (hk : ∀ e, e ∈ l → OkE b e) (hr : l.Pairwise fun x y => ltS x.key y.key = true) (h0 : ∀ (i : Nat) e, l[i]? = some e → (e.key = noS ↔ i = 0 ∧ b = false)) (hs : sizS (l.map (cellS b)) ≤ 122) (h1 : 1 < l.length ∨ (b = true ∧ l.length = 1)) :
  ACall Tryz.prog w0 48 [.agg [dB b, .sl 5 false (l.map dE8)]] S (fun d S' => d = .tup [dB8 (packS (if b then 1 else 2) (l.map (cellS b))), dI 0] ∧ S' = S) := by
 have hkd := fun S => kindP w0 b l S
 have hcl := fun S => cellsP w0 b l S hl hk
 have hch := fun S => checkP8 w0 b l S hl hk hr h0 hs h1
 have hpk := fun S => packP w0 hg (if b then 1 else 2) (l.map (cellS b)) S (by cases b <;> decide) (by cases b <;> decide) (by cases b <;> decide) hs
 generalize (if b then (1 : Int) else 2) = kd at *
 refine fnS [] mx Tryz.func48 rfl rfl (by kernel_rfl) ?_; (refine @goW _ ?_; refine goS1 @Tryz.ntmps48 ?_)
 intro b1
 refine use1 (hch _) ?_
 (refine @goW _ ?_; refine goS ?_)
 refine useQ (hkd _) ?_
 (refine @goW _ ?_; refine goS ?_)
 refine useQ (hcl _) ?_
 (refine @goW _ ?_; refine goS ?_)
 refine useQ (hpk _) ?_
 (refine @goW _ ?_; exact goT)
def partI (z i : Nat) : Nat := min 119 (z - 119 * i)
def chCell (v : ByteArray) (at_ : List Int) (i : Nat) : ByteArray := numS 2 (IntKind.u64.wrap ((at_[i + 1]?).getD 0)) ++ v.extract (119 * i) (119 * i + partI v.size i)
def chainS (v : ByteArray) (at_ : List Int) : List ByteArray := (List.range at_.length).map fun i => packS 3 [chCell v at_ i]
theorem hasR (w0 : W0) (l : List Int) (x : Int) (S : St) (hl : l.length ≤ 1048576) : ACall Tryz.prog w0 129 [dL l, dI x] S (fun d S' => d = dB (decide (x ∈ l)) ∧ S' = S) := by
 have f1 : ∀ k, l[k]? = some x → decide (x ∈ l) = true := fun k h => decide_eq_true (List.mem_of_getElem? h)
 have f2 : (∀ (j : Nat) a, l[j]? = some a → ¬ a = x) → decide (x ∈ l) = false := fun h => decide_eq_false fun hx => by
  obtain ⟨j, hj⟩ := List.mem_iff_getElem?.1 hx
  exact h j x hj rfl
 generalize decide (x ∈ l) = R at *
 refine fnS [] mx Tryz.func129 rfl rfl (by kernel_rfl) ?_; (refine @goW _ ?_; refine goS1 @Tryz.ntmps129 ?_)
 refine loopN [] l.length [0, 1, 5] (fun k => [(5, dI k)]) (fun _ => S) (fun k => ∀ (j : Nat) a, j < k → l[j]? = some a → ¬ a = x) mx (by kernel_rfl) ?_ ?_
 ·(refine @goW _ ?_; refine goS ?_)
  exact fun j a h => absurd h (by omega)
 ·intro k hk hinv
  (refine @goW _ ?_; refine goS ?_)
  refine ⟨fun hlt => ⟨hlt, fun a ha => ⟨fun he => by subst he; rw [f1 k ha], fun he => ⟨hlt, fun j c hj hc => ?_, by rw [w64 (by omega) (by omega)]; rfl⟩⟩⟩, fun hge => ?_⟩
  ·rcases Nat.lt_succ_iff_lt_or_eq.1 hj with h | h
   ·exact hinv j c h hc
   ·subst h; cases getE ha hc; exact he
  ·rw [f2 fun j a ha => hinv j a (by have := (List.getElem?_eq_some_iff.1 ha).1; omega) ha]
theorem partR (w0 : W0) (z i : Nat) (S : St) (hz : z ≤ 1048576) (hi : 119 * i < z) : ACall Tryz.prog w0 131 [dI z, dI i] S (fun d S' => d = dI (partI z i) ∧ S' = S) := by
 have e1 : IntKind.i64.wrap (119 * (i : Int)) = ((119 * i : Nat) : Int) := by rw [w64 (by omega) (by omega)]; omega
 have e2 : IntKind.i64.wrap ((z : Int) - ((119 * i : Nat) : Int)) = ((z - 119 * i : Nat) : Int) := by rw [w64 (by omega) (by omega)]; omega
 refine fnS [] mx Tryz.func131 rfl rfl (by kernel_rfl) ?_; (refine @goW _ ?_; refine goS1 @Tryz.ntmps131 ?_)
 rw [e1, e2]
 unfold partI
 exact ⟨fun h => by omega, fun h => by omega⟩
theorem chCell_size {v : ByteArray} {at_ : List Int} {i : Nat} (hi : 119 * i < v.size) : (chCell v at_ i).size = 2 + partI v.size i := by
 unfold chCell partI
 rw [ByteArray.size_append, numS_size, ByteArray.size_extract]
 omega
theorem put9R (w0 : W0) (v : ByteArray) (at_ : List Int) (S : St) (hv : v.size ≤ 400) (hn : need (v.size : Int) = at_.length) (h0 : at_ ≠ []) (hr : ∀ x, x ∈ at_ → 2 ≤ x ∧ x ≤ 999) (hd : at_.Nodup) :
  ACall Tryz.prog w0 85 [dS v, dL at_] S (fun d S' => d = .tup [.sl 1 false ((chainS v at_).map dS), dI 0] ∧ S' = S) := by
 have hpos := List.length_pos_iff.2 h0
 have hneed : 16 < v.size ∧ 119 * (at_.length - 1) < v.size ∧ at_.length ≤ 4 := by
  unfold need at hn
  split at hn
  ·omega
  ·omega
 have hcl : (chainS v at_).length = at_.length := by unfold chainS; rw [List.length_map, List.length_range]
 refine fnS [5,8] mx Tryz.func85 rfl rfl (by kernel_rfl) ?_; (refine @goW _ ?_; refine goS1 @Tryz.ntmps85 ?_)
 refine use1 (needR w0 _ _) ?_
 rw [hn]
 (refine @goW _ ?_; refine goS ?_)
 refine ⟨fun h => absurd h (by omega), fun _ => ?_⟩
 refine growK 7 1 rfl (by omega) fun lp => ?_
 refine shrK [8] [] mx (by kernel_rfl) ?_
 (refine @goW _ ?_; refine goS ?_)
 refine loopN [8] at_.length [0, 1, 6, 7, 8] (fun k => [(7, .acc lp.n k), (8, dI k)]) (fun k => ⟨S.box, (lp.n, .arr 1 (((chainS v at_).take k).map dS)) :: S.acc⟩) (fun _ => True) mx (by kernel_rfl) ?_ ?_
 ·(refine @goW _ ?_; exact goT)
 ·intro k hk' _
  have hml : ((chainS v at_).take k).length = k := by rw [List.length_take]; omega
  (refine @goW _ ?_; refine goS1 @hml ?_)
  refine ⟨fun hlt => ?_, fun hge => ?_⟩
  ·obtain ⟨x, hx⟩ : ∃ x, at_[k]? = some x := ⟨_, List.getElem?_eq_getElem hlt⟩
   have hxr := hr x (List.mem_of_getElem? hx)
   refine cutK (σ := Unit) [] [0, 1, 6, 7, 8, 50] (fun _ => [(50, dB false)]) (fun _ => ⟨S.box, (lp.n, .arr 1 (((chainS v at_).take k).map dS)) :: S.acc⟩) (fun _ => True) mx (by kernel_rfl) ?_ ?_
   ·(refine @goW _ ?_; refine goS1 @hml ?_)
    refine ⟨hlt, fun a ha => ⟨fun h => ?_, fun _ => ⟨hlt, fun a2 ha2 => ⟨fun h => ?_, fun _ => ⟨by omega, hlt, fun a3 ha3 => ?_⟩⟩⟩⟩⟩
    ·cases getE hx ha; omega
    ·cases getE hx ha2; omega
    ·cases getE hx ha3
     have hno : decide (x ∈ at_.take k) = false := decide_eq_false fun hm => by
      obtain ⟨j, hj⟩ := List.mem_iff_getElem?.1 hm
      rw [List.getElem?_take] at hj
      split at hj
      ·rename_i hjk
       obtain ⟨u1, e1⟩ := List.getElem?_eq_some_iff.1 hj
       obtain ⟨u2, e2⟩ := List.getElem?_eq_some_iff.1 hx
       have := (List.pairwise_iff_getElem.1 hd) j k u1 u2 hjk
       exact this (e1.trans e2.symm)
      ·cases hj
     refine useQ (hasR w0 (at_.take k) x _ (by rw [List.length_take]; omega)) ?_
     rw [hno]
     (refine @goW _ ?_; refine goS ?_)
     exact ⟨(), trivial⟩
   ·intro _ _
    have e1 : IntKind.i64.wrap ((k : Int) + 1) = ((k + 1 : Nat) : Int) := by rw [w64 (by omega) (by omega)]; rfl
    have e2 : IntKind.i64.wrap (119 * (k : Int)) = ((119 * k : Nat) : Int) := by rw [w64 (by omega) (by omega)]; omega
    have hvk : 119 * k < v.size := by omega
    have hpl : partI v.size k ≤ 119 ∧ 119 * k + partI v.size k ≤ v.size := by unfold partI; omega
    have hs : (chainS v at_).take (k + 1) = (chainS v at_).take k ++ [packS 3 [chCell v at_ k]] := by
     rw [List.take_add_one]; unfold chainS; rw [List.getElem?_map, List.getElem?_range hlt]; rfl
    have hcs := chCell_size (at_ := at_) hvk
    have hsz : sizS [chCell v at_ k] ≤ 122 := by simp only [sizS, List.map_cons, List.map_nil, List.sum_cons, List.sum_nil]; omega
    have hpk := fun S => packR w0 3 [chCell v at_ k] S (by decide) hsz
    have hpa := fun S => partR w0 v.size k S (by omega) hvk
    have hc0 : chCell v at_ k = numS 2 (IntKind.u64.wrap ((at_[k + 1]?).getD 0)) ++ v.extract (119 * k) (119 * k + partI v.size k) := rfl
    have hn2 := fun x => numS_size 2 x
    rw [hs]
    generalize packS 3 [chCell v at_ k] = PK at *
    (refine @goW _ ?_; refine goS3 @hml @e1 @e2 ?_)
    have e3 : IntKind.i64.wrap (((119 * k : Nat) : Int) + ((partI v.size k : Nat) : Int)) = ((119 * k + partI v.size k : Nat) : Int) := by rw [w64 (by omega) (by omega)]; omega
    have hes : (v.extract (119 * k) (119 * k + partI v.size k)).size = partI v.size k := by rw [ByteArray.size_extract]; omega
    refine ⟨fun hlt2 => ⟨hlt2, fun a ha => ?_⟩, fun hge2 => ?_⟩
    ·rw [ha, Option.getD_some] at hc0
     refine use1 (numR w0 _ 2 _ (by omega) (by omega)) ?_
     (refine @goW _ ?_; refine goS1 @e2 ?_)
     refine use1 (hpa _) ?_
     (refine @goW _ ?_; refine goS1 @e2 ?_)
     rw [e3, Int.toNat_natCast, hn2, hes, ← hc0]
     refine ⟨by omega, by omega, by omega, use1 (hpk _) ?_ ⟨.refl _, .full _ _ _, trivial⟩⟩
     simp (maxDischargeDepth := 12) (maxSteps := 1000000) -implicitDefEqProofs only [go_sem, Nat.reduceAdd, Nat.reduceSub, Nat.reduceMul, Nat.reduceLeDiff, Nat.reduceEqDiff, Nat.reduceGT, Nat.reduceBEq, reduceCtorEq, ↓reduceIte, Int.reduceToNat, Int.reduceLE, Int.reduceLT, Int.reduceNe, Int.reduceEq, hml, e1, List.map_append, List.map_cons, List.map_nil]
     exact ⟨by omega, by unfold maxLen; omega, hlt⟩
    ·rw [List.getElem?_eq_none (by omega), Option.getD_none] at hc0
     refine use1 (numR w0 _ 2 _ (by omega) (by omega)) ?_
     (refine @goW _ ?_; refine goS1 @e2 ?_)
     refine use1 (hpa _) ?_
     (refine @goW _ ?_; refine goS1 @e2 ?_)
     rw [e3, Int.toNat_natCast, hn2, hes, ← hc0]
     refine ⟨by omega, by omega, by omega, use1 (hpk _) ?_ ⟨.refl _, .full _ _ _, trivial⟩⟩
     simp (maxDischargeDepth := 12) (maxSteps := 1000000) -implicitDefEqProofs only [go_sem, Nat.reduceAdd, Nat.reduceSub, Nat.reduceMul, Nat.reduceLeDiff, Nat.reduceEqDiff, Nat.reduceGT, Nat.reduceBEq, reduceCtorEq, ↓reduceIte, Int.reduceToNat, Int.reduceLE, Int.reduceLT, Int.reduceNe, Int.reduceEq, hml, e1, List.map_append, List.map_cons, List.map_nil]
     exact ⟨by omega, by unfold maxLen; omega, hlt⟩
  ·rw [List.take_of_length_le (by omega)]
   exact .refl _
end Go.Proofs.YtpcmnebpnpgcmaaGreatDoor
namespace Go.Proofs.YtpcmnebpnpgcmaaGreatDoor
open Aml Go
section
variable (S : St) (l : Nat) (K : DV → St → Prop)
theorem m9_okE : okE (.mp l) = true := rfl
theorem m9_cd : cd (.mp l) = [.mp l] := rfl
theorem m9_shr : shr S (.mp l) K = K (.mp l) S := rfl
end
attribute [go_sem] m9_okE m9_cd
attribute [go_sem ↓] m9_shr
@[go_sem] def pt9 (b : Nat) : DV := .v (.pointer (some ⟨b, 0, none⟩))
def k9 (a : Int) : Value := .int .i64 a
def Seen (es : List (Value × DV × Nat)) (pre : List Int) : Prop := ∀ x, mGet es (k9 x) = if x ∈ pre then some (dI 1) else none
theorem addP (w0 : W0) {S : St} {bp la m c : Nat} {pre : List Int} {es : List (Value × DV × Nat)} (hb : lk S.box bp = some [.acc la pre.length, .mp m]) (ha : lk S.acc la = some (.arr 1 (pre.map dI))) (hm : lk S.acc m = some (.xo (.mp (.int .i64) es c))) (hs : Seen es pre) (hl : pre.length ≤ 1000)
  (x : Int) (h1 : 2 ≤ x) (h2 : x ≤ 999) (hx : x ∉ pre) (hne : ¬ la = m) :
  ACall Tryz.prog w0 120 [pt9 bp, dI x] S (fun d S' => d = dB true ∧ S' = ⟨up S.box bp [.acc la (pre ++ [x]).length, .mp m], up (up S.acc la (.arr 1 ((pre ++ [x]).map dI))) m (.xo (.mp (.int .i64) (mSet es c (k9 x) (dI 1)) (mClk es c (k9 x))))⟩) := by
 have hg : mGet es (.int .i64 x) = none := by have := hs x; rw [if_neg hx] at this; exact this
 have f1 : (x < 2) = False := eq_false (by omega)
 have f2 : (x > 999) = False := eq_false (by omega)
 have hm8 : maxLen = 9223372036854775807 := rfl
 have ez : IntKind.i64.wrap (0 + 1) = 1 := by decide
 have hmu : ∀ v, lk (up S.acc la v) m = some (.xo (.mp (.int .i64) es c)) := fun v => by rw [lk_up_ne hne]; exact hm
 refine fnO [] mx Tryz.func120 rfl rfl (by kernel_rfl) ?_; simp (maxDischargeDepth := 12) (maxSteps := 1000000) -implicitDefEqProofs only [Tryz.ntmps120, go_sem, Nat.reduceAdd, Nat.reduceSub, Nat.reduceMul, Nat.reduceLeDiff, Nat.reduceEqDiff, Nat.reduceGT, Nat.reduceBEq, reduceCtorEq, ↓reduceIte, Int.reduceToNat, Int.reduceLE, Int.reduceLT, Int.reduceNe, Int.reduceEq, f1, f2, hb, hm, hg, ha, hmu, ez]
 have hmap : (pre ++ [x]).map dI = pre.map dI ++ [.v (.int .i64 x)] := by simp [dI]
 refine ⟨fun q => absurd q (by decide), fun _ => ⟨by omega, by omega, ?_⟩⟩
 rw [hmap]
 rfl
theorem seen_add {es : List (Value × DV × Nat)} {pre : List Int} (h : Seen es pre) (c : Nat) (x : Int) : Seen (mSet es c (k9 x) (dI 1)) (pre ++ [x]) := fun y => by
 by_cases q : y = x
 ·subst q
  rw [mGet_set_same, if_pos (by simp)]
 ·rw [mGet_set_ne _ _ (k := k9 x) (k' := k9 y) (fun e => q (by unfold k9 at e; cases e; rfl)), h]
  simp [q]
structure Pl9 (S : St) (bp la m : Nat) (pre : List Int) : Prop where
 b : lk S.box bp = some [.acc la pre.length, .mp m]
 a : lk S.acc la = some (.arr 1 (pre.map dI))
 m : ∃ es c, lk S.acc m = some (.xo (.mp (.int .i64) es c)) ∧ Seen es pre
structure Fr9 (S S' : St) (bp la m : Nat) : Prop where
 b : ∀ c x, c ≠ bp → lk S.box c = some x → lk S'.box c = some x
 a : ∀ c x, c ≠ la → c ≠ m → lk S.acc c = some x → lk S'.acc c = some x
theorem addQ (w0 : W0) {S : St} {bp la m : Nat} {pre : List Int} (h : Pl9 S bp la m pre) (hl : pre.length ≤ 1000) (x : Int) (h1 : 2 ≤ x) (h2 : x ≤ 999) (hx : x ∉ pre) (hne : ¬ la = m) :
  ACall Tryz.prog w0 120 [pt9 bp, dI x] S (fun d S' => d = dB true ∧ Pl9 S' bp la m (pre ++ [x]) ∧ Fr9 S S' bp la m) := by
 obtain ⟨es, c, hm, hs⟩ := h.m
 refine (addP w0 h.b h.a hm hs hl x h1 h2 hx hne).mono ?_
 rintro d S' ⟨rfl, rfl⟩
 refine ⟨rfl, ⟨?_, ?_, mSet es c (k9 x) (dI 1), mClk es c (k9 x), ?_, seen_add hs c x⟩, fun c x hc hx => ?_, fun c x hc hc2 hx => ?_⟩
 ·show lk (up S.box bp _) bp = _
  rw [lk_up_same, h.b]; rfl
 ·show lk (up (up S.acc la _) m _) la = _
  rw [lk_up_ne (fun e => hne e.symm), lk_up_same, h.a]; rfl
 ·show lk (up (up S.acc la _) m _) m = _
  rw [lk_up_same, lk_up_ne hne, hm]; rfl
 ·show lk (up S.box bp _) c = _
  rw [lk_up_ne (fun e => hc e.symm)]; exact hx
 ·show lk (up (up S.acc la _) m _) c = _
  rw [lk_up_ne (fun e => hc2 e.symm), lk_up_ne (fun e => hc e.symm)]; exact hx
theorem put1P (w0 : W0) {S : St} {b6 bp la m : Nat} {pre : List Int} (h6 : lk S.box b6 = some [pt9 bp]) (h : Pl9 S bp la m pre) (hl : pre.length ≤ 1000) (x : Int) (h1 : 2 ≤ x) (h2 : x ≤ 999) (hx : x ∉ pre) (hne : ¬ la = m) :
  ACall Tryz.prog w0 119 [dI x, pt9 b6] S (fun d S' => d = dB false ∧ Pl9 S' bp la m (pre ++ [x]) ∧ Fr9 S S' bp la m) := by
 refine fnO [] mx Tryz.func119 rfl rfl (by kernel_rfl) ?_; simp only [Tryz.ntmps119, List.length_cons, List.length_nil, Nat.reduceAdd, Nat.reduceSub, List.reduceReplicate, List.cons_append, List.nil_append]; (refine @goW _ ?_; refine goS2 @Tryz.ntmps119 @h6 ?_)
 refine useK (addQ w0 h hl x h1 h2 hx hne) ?_
 rintro _ S' ⟨rfl, hp, hf⟩
 (refine @goW _ ?_; refine goS ?_)
 exact ⟨hp, hf⟩
theorem Fr9.refl (S : St) (bp la m : Nat) : Fr9 S S bp la m := ⟨fun _ _ _ h => h, fun _ _ _ _ h => h⟩
theorem Fr9.trans {S T U : St} {bp la m : Nat} (h : Fr9 S T bp la m) (k : Fr9 T U bp la m) : Fr9 S U bp la m := ⟨fun c x hc hx => k.b c x hc (h.b c x hc hx), fun c x hc hc2 hx => k.a c x hc hc2 (h.a c x hc hc2 hx)⟩
theorem indexP9 (w0 : W0) {S : St} {b6 bp la m : Nat} (at_ : List Int) (h6 : lk S.box b6 = some [pt9 bp]) (h : Pl9 S bp la m []) (hl : at_.length ≤ 1000) (hr : ∀ x, x ∈ at_ → 2 ≤ x ∧ x ≤ 999) (hd : at_.Nodup) (hne : ¬ la = m) (hb6 : b6 ≠ bp) :
  ACall Tryz.prog w0 151 [dL at_, .v (.func (.func 119) #[] #[.pointer (some ⟨b6, 0, none⟩)])] S (fun d S' => d = dI (-1) ∧ Pl9 S' bp la m at_ ∧ Fr9 S S' bp la m) := by
 refine fnO [] mx Tryz.func151 rfl rfl (by kernel_rfl) ?_; (refine @goW _ ?_; refine goS1 @Tryz.ntmps151 ?_)
 refine loopK [] [0, 1, 7, 8] (fun s : Nat × St => [(8, dI s.1)]) (fun s => s.2) (fun s => s.1 ≤ at_.length ∧ Pl9 s.2 bp la m (at_.take s.1) ∧ Fr9 S s.2 bp la m) (fun s => at_.length - s.1) (0, S) mx (by kernel_rfl) ?_ ?_
 ·refine ⟨⟨by simp, h, Fr9.refl _ _ _ _⟩, ?_, ?_⟩
  ·(refine @goW _ ?_; exact goT)
  ·exact .refl _
 ·rintro ⟨k, T⟩ ⟨hk, hT, hF⟩
  simp only at hk hT hF
  have e1 : IntKind.i64.wrap ((k : Int) + 1) = ((k + 1 : Nat) : Int) := by rw [w64 (by omega) (by omega)]; omega
  (refine @goW _ ?_; refine goS ?_)
  refine ⟨fun hlt => ⟨hlt, fun x hx => ?_⟩, fun hge => ?_⟩
  ·have ht : at_.take (k + 1) = at_.take k ++ [x] := by rw [List.take_add_one, hx]; rfl
   have hm := List.mem_of_getElem? hx
   have hno : x ∉ at_.take k := fun q => by
    have := hd.sublist (List.take_sublist (k + 1) at_)
    rw [ht, List.nodup_append] at this
    exact this.2.2 x q x (by simp) rfl
   refine useK (put1P w0 (hF.b b6 _ hb6 h6) hT (by rw [List.length_take]; omega) x (hr x hm).1 (hr x hm).2 hno hne) ?_
   rintro _ T2 ⟨rfl, hT2, hF2⟩
   (refine @goW _ ?_; refine goS ?_)
   exact ⟨(k + 1, T2), ⟨hlt, ht ▸ hT2, hF.trans hF2⟩, by show at_.length - (k + 1) < at_.length - k; omega, e1, .refl _⟩
  ·have hk2 : at_.take k = at_ := List.take_of_length_le (by omega)
   rw [hk2] at hT
   exact ⟨hT, hF⟩
theorem containsP9 (w0 : W0) {S : St} {b6 bp la m : Nat} (at_ : List Int) (h6 : lk S.box b6 = some [pt9 bp]) (h : Pl9 S bp la m []) (hl : at_.length ≤ 1000) (hr : ∀ x, x ∈ at_ → 2 ≤ x ∧ x ≤ 999) (hd : at_.Nodup) (hne : ¬ la = m) (hb6 : b6 ≠ bp) :
  ACall Tryz.prog w0 118 [dL at_, .v (.func (.func 119) #[] #[.pointer (some ⟨b6, 0, none⟩)])] S (fun d S' => d = dB false ∧ Fr9 S S' bp la m) := by
 refine fnO [] mx Tryz.func118 rfl rfl (by kernel_rfl) ?_; (refine @goW _ ?_; refine goS1 @Tryz.ntmps118 ?_)
 refine useK (indexP9 w0 at_ h6 h hl hr hd hne hb6) ?_
 rintro _ T ⟨rfl, _, hF⟩
 (refine @goW _ ?_; refine goS ?_)
 exact ⟨rfl, hF⟩
end Go.Proofs.YtpcmnebpnpgcmaaGreatDoor
