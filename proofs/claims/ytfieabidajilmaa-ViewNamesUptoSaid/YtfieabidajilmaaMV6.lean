/-
  Putting and deleting keep trees that may be; their entries are the old ones with one more, or less: plain laws. By an AI agent.
-/
import Derived.Test.YtfieabidajilmaaMV5
namespace Go.Proofs.Ytfieabidajilmaa
open Aml Go
set_option linter.unusedVariables false
set_option linter.unusedSimpArgs false
set_option maxRecDepth 100000

def insE (key val : ByteArray) (l : List C) : List C := l.filter (fun c => ltS c.key key) ++ .mk key val [] [] :: l.filter (fun c => ltS key c.key)
def delE (key : ByteArray) (l : List C) : List C := l.filter fun c => !eqS c.key key
theorem flt_all {p : C → Bool} {l : List C} (h : ∀ a, a ∈ l → p a = true) : l.filter p = l := List.filter_eq_self.2 h
theorem flt_no {p : C → Bool} {l : List C} (h : ∀ a, a ∈ l → p a = false) : l.filter p = [] := List.filter_eq_nil_iff.2 fun a ha => by rw [h a ha]; simp
/-- Entries around a key. -/
theorem cut_at (key : ByteArray) : ∀ {l : List C}, Rise l → ∃ A B, l = A ++ B ∧ (∀ a, a ∈ A → ltS a.key key = true) ∧ ∀ b, b ∈ B → ltS b.key key = false
  | [], _ => ⟨[], [], rfl, fun a h => (by cases h), fun a h => (by cases h)⟩
  | c :: l, h => by
    unfold Rise at h
    rw [List.pairwise_cons] at h
    cases hc : ltS c.key key with
    | true =>
      obtain ⟨A, B, rfl, h1, h2⟩ := cut_at key h.2
      exact ⟨c :: A, B, rfl, fun a ha => by
        rcases List.mem_cons.1 ha with rfl | ha
        · exact hc
        · exact h1 a ha, h2⟩
    | false =>
      refine ⟨[], c :: l, rfl, fun a h => (by cases h), fun b hb => ?_⟩
      rcases List.mem_cons.1 hb with rfl | hb
      · exact hc
      · cases hb2 : ltS b.key key with
        | false => rfl
        | true => rw [ltS_trans (h.1 b hb) hb2] at hc; cases hc
theorem idx_app {A B : List C} {key : ByteArray} (h1 : ∀ a, a ∈ A → ltS a.key key = true) (h2 : ∀ b, b ∈ B → ltS b.key key = false) : idxN (A ++ B) key = A.length := by
  unfold idxN
  rw [List.takeWhile_append_of_pos h1]
  cases B with
  | nil => simp
  | cons b B => rw [List.takeWhile_cons, h2 b List.mem_cons_self]; simp
/-- A key is put among a leaf's cells. -/
theorem leafPut_eq {l : List C} (h : Rise l) (key val : ByteArray) : leafPut l key val = insE key val l ∧ ((leafPut l key val).map (sizeC true)).sum ≤ (l.map (sizeC true)).sum + sizeC true (.mk key val [] []) - (if (l.any fun c => eqS c.key key) then ((l.filter fun c => eqS c.key key).map (sizeC true)).sum else 0) := by
  obtain ⟨A, B, rfl, h1, h2⟩ := cut_at key h
  have hA : (A.any fun c => eqS c.key key) = false := List.any_eq_false.2 fun a ha => by
    have := ltS_ne (h1 a ha)
    rw [← eqS_no] at this
    rw [this]; simp
  have hA2 : (A.filter fun c => eqS c.key key) = [] := flt_no fun a ha => by rw [eqS_no]; exact ltS_ne (h1 a ha)
  have hi := idx_app h1 h2
  unfold leafPut insE
  simp only [hi]
  rw [List.filter_append, List.filter_append, flt_all h1, flt_no h2, flt_no (l := A) fun a ha => ltS_asymm (h1 a ha), List.append_nil, List.nil_append, List.any_append, hA, Bool.false_or, List.filter_append, hA2, List.nil_append]
  cases B with
  | nil => simp
  | cons b B =>
    have hb : ∀ b', b' ∈ B → ltS b.key b'.key = true := by
      unfold Rise at h
      rw [pw_app, List.pairwise_cons] at h
      exact h.2.1.1
    have hge := h2 b List.mem_cons_self
    rw [List.getElem?_append_right (Nat.le_refl _), Nat.sub_self, List.getElem?_cons_zero]
    simp only
    by_cases e : b.key = key
    · rw [if_pos (eqS_iff.2 e), withC_app]
      have hB : ∀ b', b' ∈ B → ltS key b'.key = true := fun b' hb' => e ▸ hb b' hb'
      have hB2 : (B.filter fun c => eqS c.key key) = [] := flt_no fun a ha => by rw [eqS_no]; exact (ltS_ne (hB a ha)).symm
      rw [List.filter_cons, e, ltS_irrefl, if_neg (by simp), flt_all hB, List.any_cons, eqS_iff.2 e, Bool.true_or, if_pos rfl, List.filter_cons, if_pos (eqS_iff.2 e), hB2]
      refine ⟨by simp, ?_⟩
      simp only [List.map_append, List.sum_append, List.map_cons, List.map_nil, List.sum_cons, List.sum_nil]
      omega
    · rw [if_neg (by rw [eqS_iff]; exact e)]
      have hlt : ltS key b.key = true := by
        rcases ltS_tri key b.key with h | h | h
        · exact h
        · exact absurd h.symm e
        · rw [hge] at h; cases h
      have hB : ∀ b', b' ∈ b :: B → ltS key b'.key = true := fun b' hb' => by
        rcases List.mem_cons.1 hb' with rfl | hb'
        · exact hlt
        · exact ltS_trans hlt (hb b' hb')
      have hany : ((b :: B).any fun c => eqS c.key key) = false := List.any_eq_false.2 fun a ha => by
        have := (ltS_ne (hB a ha)).symm
        rw [← eqS_no] at this
        rw [this]; simp
      rw [List.take_left', List.drop_left', flt_all hB, hany]
      · refine ⟨by simp, ?_⟩
        simp only [List.map_append, List.sum_append, List.map_cons, List.map_nil, List.sum_cons, List.sum_nil, Bool.false_eq_true, if_false]
        omega
      · rfl
      · rfl
theorem rise_filter {l : List C} (h : Rise l) (p : C → Bool) : Rise (l.filter p) := List.Pairwise.filter p h
theorem rise_ins {l : List C} (h : Rise l) (key val : ByteArray) : Rise (insE key val l) := by
  unfold insE Rise
  rw [pw_app, List.pairwise_cons]
  refine ⟨rise_filter h _, ⟨fun b hb => ?_, rise_filter h _⟩, fun a ha b hb => ?_⟩
  · exact (List.mem_filter.1 hb).2
  · have h1 : ltS a.key key = true := (List.mem_filter.1 ha).2
    rcases List.mem_cons.1 hb with rfl | hb
    · exact h1
    · exact ltS_trans h1 (List.mem_filter.1 hb).2
theorem mem_ins {key val : ByteArray} {l : List C} {x : C} (h : x ∈ insE key val l) : x ∈ l ∨ x = .mk key val [] [] := by
  rcases List.mem_append.1 h with h | h
  · exact .inl (List.mem_filter.1 h).1
  · rcases List.mem_cons.1 h with h | h
    · exact .inr h
    · exact .inl (List.mem_filter.1 h).1
theorem ins_mid {key val : ByteArray} {A B M : List C} (h1 : ∀ a, a ∈ A → ltS a.key key = true) (h2 : ∀ b, b ∈ B → ltS key b.key = true) : insE key val (A ++ M ++ B) = A ++ insE key val M ++ B := by
  unfold insE
  rw [List.filter_append, List.filter_append, List.filter_append, List.filter_append, flt_all h1, flt_no (l := B) fun b hb => ltS_asymm (h2 b hb), flt_no (l := A) fun a ha => ltS_asymm (h1 a ha), flt_all h2]
  simp
theorem del_mid {key : ByteArray} {A B M : List C} (h1 : ∀ a, a ∈ A → ltS a.key key = true) (h2 : ∀ b, b ∈ B → ltS key b.key = true) : delE key (A ++ M ++ B) = A ++ delE key M ++ B := by
  unfold delE
  rw [List.filter_append, List.filter_append, flt_all (l := A) fun a ha => by rw [eqS_no.2 (ltS_ne (h1 a ha))]; rfl, flt_all (l := B) fun b hb => by rw [eqS_no.2 (ltS_ne (h2 b hb)).symm]; rfl]
theorem wayF_spec (l : List C) (key : ByteArray) : ∀ i, i < l.length → (wayF l key i = 0 ∨ ∃ c, l[wayF l key i]? = some c ∧ leS c.key key = true) ∧ ∀ j c, wayF l key i < j → j ≤ i → l[j]? = some c → leS c.key key = false
  | 0, _ => ⟨.inl rfl, fun j c h1 h2 => by simp only [wayF] at h1; omega⟩
  | i + 1, hi => by
    obtain ⟨h1, h2⟩ := wayF_spec l key i (by omega)
    have hx : l[i + 1]? = some l[i + 1] := List.getElem?_eq_getElem hi
    cases hle : leS l[i + 1].key key with
    | true =>
      have e : wayF l key (i + 1) = i + 1 := by simp only [wayF, hx, hle, if_true]
      rw [e]
      exact ⟨.inr ⟨_, hx, hle⟩, fun j c h3 h4 => by omega⟩
    | false =>
      have e : wayF l key (i + 1) = wayF l key i := by simp only [wayF, hx, hle, Bool.false_eq_true, if_false]
      rw [e]
      refine ⟨h1, fun j c h3 h4 hc => ?_⟩
      rcases Nat.lt_or_ge i j with h | h
      · have : j = i + 1 := by omega
        subst this
        rw [hx] at hc; cases hc; exact hle
      · exact h2 j c h3 h hc
/-- The kid that a key goes to. -/
theorem way_split {G : N → Prop} {l : List C} (h : BrG G l) (hn : l ≠ []) (key : ByteArray) : ∃ A c B, l = A ++ c :: B ∧ A.length = way l key ∧ (∀ a, a ∈ A → ∀ x, x ∈ enC false a → ltS x.key key = true) ∧ leS c.key key = true ∧ ∀ b, b ∈ B → ltS key b.key = true := by
  have hpos := List.length_pos_iff.2 hn
  have hw := way_lt hn key
  obtain ⟨h1, h2⟩ := wayF_spec l key (l.length - 1) (by omega)
  have hwd : way l key = wayF l key (l.length - 1) := rfl
  rw [← hwd] at h1 h2
  have hsp : l = l.take (way l key) ++ l[way l key] :: l.drop (way l key + 1) := by
    rw [← List.drop_eq_getElem_cons hw, List.take_append_drop]
  have hle : leS l[way l key].key key = true := by
    rcases h1 with h1 | ⟨c, hc, h1⟩
    · have hk := h.k0
      have : l[way l key].key = noS := by
        rw [← hk]
        cases l with
        | nil => exact absurd rfl hn
        | cons a t => simp [h1, keyOf]
      rw [this]; exact noS_le _
    · rw [List.getElem?_eq_getElem hw] at hc
      cases hc; exact h1
  have hpw := h.pw
  rw [hsp, pw_app] at hpw
  refine ⟨_, _, _, hsp, by rw [List.length_take]; omega, fun a ha x hx => ltS_leS ((hpw.2.2 a ha _ List.mem_cons_self).2 x hx) hle, hle, fun b hb => ?_⟩
  obtain ⟨j, hj⟩ := List.mem_iff_getElem?.1 hb
  rw [List.getElem?_drop] at hj
  exact leS_no.1 (h2 _ b (by omega) (by have := (List.getElem?_eq_some_iff.1 hj).1; omega) hj)
theorem brG_lt {d : Nat} {A B : List C} {c : C} (h : BrG (Good d) (A ++ c :: B)) {key : ByteArray} (hB : ∀ b, b ∈ B → ltS key b.key = true) : ∀ x, x ∈ B.flatMap (enC false) → ltS key x.key = true := fun x hx => by
  obtain ⟨b, hb, hx⟩ := List.mem_flatMap.1 hx
  exact ltS_leS (hB b hb) ((h.cell b (by simp [hb])).2.1 x hx)
theorem fits_two {d : Nat} {k : N} (h : Good d k) (hf : Fits k) : k.leaf = true ∨ 2 ≤ k.l.length := by
  cases d with
  | zero => exact .inl h.1
  | succ d =>
    refine .inr ?_
    have hs := good_sizes h
    rw [if_neg (by omega)] at hs
    have h30 := hf.1
    unfold sizesN at hs h30
    match hl : k.l, hs, h30 with
    | [], _, h30 => simp at h30
    | [c], hs, h30 =>
      have := hs (sizeC k.leaf c) (by simp)
      simp at h30; omega
    | _ :: _ :: _, _, _ => simp
/-- One kid of a branch is another one. -/
theorem pre_kid {d : Nat} {A B : List C} {c : C} {kid : N} (h : BrG (Good d) (A ++ c :: B)) (k' : N) (hg : Good d k') (hs : (sizesN k').sum ≤ 167) (hk : c.kid = [kid]) (hlo : ∀ x, x ∈ enN k' → leS c.key x.key = true) (hup : ∀ x, x ∈ enN k' → ∀ b, b ∈ B → ltS x.key b.key = true) : Pre d A (cellN c.key k') B := by
  obtain ⟨p1, p2, p3⟩ := pw_app.1 h.pw
  rw [List.pairwise_cons] at p2
  refine ⟨?_, pw_app.2 ⟨p1, List.pairwise_cons.2 ⟨fun b hb => ⟨(p2.1 b hb).1, fun x hx => ?_⟩, p2.2⟩, fun a ha b hb => ?_⟩, fun x hx => h.cell x (by simp [hx]), fun x hx => h.cell x (by simp [hx]), ⟨(h.cell c (by simp)).1.1, rfl, rfl⟩, fun x hx => ?_, k', rfl, hg, hs⟩
  · rw [← h.k0]; exact keyOf_app rfl (by simp) (by simp)
  · rw [enC_cell] at hx; exact hup x hx b hb
  · rcases List.mem_cons.1 hb with rfl | hb
    · exact p3 a ha c List.mem_cons_self
    · exact p3 a ha b (List.mem_cons_of_mem _ hb)
  · rw [enC_cell] at hx; exact hlo x hx
theorem Mended.good {d : Nat} {L : List C} {m : N} (h : Mended d L m) : Good (d + 1) m := ⟨h.leaf, h.ne, h.br⟩
theorem sizes_leaf {n : N} (h : n.leaf = true) : sizesN n = n.l.map (sizeC true) := by unfold sizesN; rw [h]
theorem sizes_branch {n : N} (h : n.leaf = false) : sizesN n = n.l.map (sizeC false) := by unfold sizesN; rw [h]
theorem ends_two {A B : List C} {c : C} (h : 2 ≤ (A ++ c :: B).length) : A ≠ [] ∨ B ≠ [] := by
  rcases A with _ | ⟨a, A⟩
  · right; rintro rfl; simp at h
  · exact .inl (by simp)
theorem put_good {key val : ByteArray} (hk0 : key ≠ noS) (hk : key.size ≤ 16) (hv : val.size ≤ 400) : ∀ {d : Nat} {n : N}, Good d n → (sizesN n).sum ≤ 122 → n.leaf = true ∨ 2 ≤ n.l.length → Good d (putN key val n) ∧ (sizesN (putN key val n)).sum ≤ 157 ∧ enN (putN key val n) = insE key val (enN n)
  | 0, n, h, hs, h2 => by
    rw [putN_leaf _ _ _ h.1, en_leaf h.1, enN_mk, flat_leaf, sizes_mk]
    rw [sizes_leaf h.1] at hs
    obtain ⟨e1, e2⟩ := leafPut_eq h.2.1 key val
    have h35 := (size_leaf (c := .mk key val [] []) ⟨hk, hv⟩).2
    refine ⟨⟨rfl, ?_, fun c hc => ?_⟩, ?_, e1⟩
    · show Rise (leafPut n.l key val)
      rw [e1]; exact rise_ins h.2.1 key val
    · rcases leafPut_mem hc with hc | rfl
      · exact h.2.2 c hc
      · exact ⟨hk0, hk, hv, fun e => absurd rfl e, by simp [C.pages], rfl⟩
    · have hpos : 0 ≤ ((n.l.filter fun c => eqS c.key key).map (sizeC true)).sum := sum_pos fun x hx => by
        obtain ⟨c, hc, rfl⟩ := List.mem_map.1 hx
        obtain ⟨_, w2, w3, _⟩ := h.2.2 c (List.mem_filter.1 hc).1
        exact (size_leaf ⟨w2, w3⟩).1
      split at e2 <;> omega
  | d + 1, n, h, hs, h2 => by
    have hB := h.2.2
    have h2 := h2.resolve_left (by rw [h.1]; simp)
    obtain ⟨A, c, B, hl, hw, hA, hc, hBk⟩ := way_split hB h.2.1 key
    have hcl : n.l[way n.l key]? = some c := by rw [← hw]; conv => lhs; rw [hl]
                                                simp
    have hcm : c ∈ n.l := List.mem_of_getElem? hcl
    obtain ⟨o1, o2, kid, hkid, o4, o5⟩ := hB.cell c hcm
    obtain ⟨g1, g2, g3⟩ := put_good hk0 hk hv o4 o5.2 (fits_two o4 o5)
    rw [putN_br _ _ _ h.1 hcl hkid, ← hw]
    rw [sizes_branch h.1] at hs
    have hen : enN n = A.flatMap (enC false) ++ enN kid ++ B.flatMap (enC false) := by rw [enN_eq, h.1, hl, List.flatMap_append, List.flatMap_cons, enC_br hkid, List.append_assoc]
    rw [hl] at hB hs h2 ⊢
    rw [withC_app, List.append_assoc, List.singleton_append]
    rw [enC_br hkid] at o2
    obtain ⟨p1, p2, p3⟩ := pw_app.1 hB.pw
    rw [List.pairwise_cons] at p2
    have hP := pre_kid hB (putN key val kid) g1 (by omega) hkid (fun x hx => by
      rw [g3] at hx
      rcases mem_ins hx with hx | rfl
      · exact o2 x hx
      · exact hc) fun x hx b hb => by
      rw [g3] at hx
      rcases mem_ins hx with hx | rfl
      · exact (p2.1 b hb).2 x (by rw [enC_br hkid]; exact hx)
      · exact hBk b hb
    have hm := mend_ok hP (ends_two h2)
    refine ⟨hm.good, ?_, ?_⟩
    · have := hm.sum
      simp only [List.map_append, List.map_cons, List.sum_append, List.sum_cons, size_br, cellN, C.key_mk] at this hs
      simp only [cellN]
      omega
    · rw [hm.en, hen, ins_mid, List.flatMap_append, List.flatMap_cons, enC_cell, g3, List.append_assoc]
      · intro a ha
        obtain ⟨a', ha', hx⟩ := List.mem_flatMap.1 ha
        exact hA a' ha' a hx
      · exact brG_lt hB hBk
theorem without_good {key : ByteArray} : ∀ {d : Nat} {n : N}, Good d n → (sizesN n).sum ≤ 122 → n.leaf = true ∨ 2 ≤ n.l.length → Good d (withoutN key n) ∧ (sizesN (withoutN key n)).sum ≤ 142 ∧ enN (withoutN key n) = delE key (enN n)
  | 0, n, h, hs, h2 => by
    rw [withoutN_leaf _ _ h.1, en_leaf h.1, enN_mk, flat_leaf, sizes_mk]
    rw [sizes_leaf h.1] at hs
    refine ⟨⟨rfl, rise_filter h.2.1 _, fun c hc => h.2.2 c (List.mem_filter.1 hc).1⟩, ?_, rfl⟩
    have : ∀ l : List C, (∀ c, c ∈ l → ShL c) → ((l.filter fun c => !eqS c.key key).map (sizeC true)).sum ≤ (l.map (sizeC true)).sum := by
      intro l
      induction l with
      | nil => intro _; exact Int.le_refl _
      | cons c l ih =>
        intro hl
        have h1 := ih fun c hc => hl c (List.mem_cons_of_mem _ hc)
        obtain ⟨_, w2, w3, _⟩ := hl c List.mem_cons_self
        have := (size_leaf ⟨w2, w3⟩).1
        rw [List.filter_cons, List.map_cons, List.sum_cons]
        split
        · rw [List.map_cons, List.sum_cons]; omega
        · omega
    have := this n.l h.2.2
    omega
  | d + 1, n, h, hs, h2 => by
    have hB := h.2.2
    have h2 := h2.resolve_left (by rw [h.1]; simp)
    obtain ⟨A, c, B, hl, hw, hA, hc, hBk⟩ := way_split hB h.2.1 key
    have hcl : n.l[way n.l key]? = some c := by rw [← hw]; conv => lhs; rw [hl]
                                                simp
    have hcm : c ∈ n.l := List.mem_of_getElem? hcl
    obtain ⟨o1, o2, kid, hkid, o4, o5⟩ := hB.cell c hcm
    obtain ⟨g1, g2, g3⟩ := without_good (key := key) o4 o5.2 (fits_two o4 o5)
    rw [withoutN_br _ _ h.1 hcl hkid, ← hw]
    rw [sizes_branch h.1] at hs
    have hen : enN n = A.flatMap (enC false) ++ enN kid ++ B.flatMap (enC false) := by rw [enN_eq, h.1, hl, List.flatMap_append, List.flatMap_cons, enC_br hkid, List.append_assoc]
    rw [hl] at hB hs h2 ⊢
    have hset : (A ++ c :: B).set A.length (.mk c.key c.data c.pages [withoutN key kid]) = A ++ cellN c.key (withoutN key kid) :: B := by
      rw [List.set_append_right _ _ (Nat.le_refl _), Nat.sub_self, List.set_cons_zero, o1.2.1, o1.2.2]; rfl
    rw [hset]
    rw [enC_br hkid] at o2
    obtain ⟨p1, p2, p3⟩ := pw_app.1 hB.pw
    rw [List.pairwise_cons] at p2
    have hP := pre_kid hB (withoutN key kid) g1 (by omega) hkid (fun x hx => by
      rw [g3] at hx
      exact o2 x (List.mem_filter.1 hx).1) fun x hx b hb => by
      rw [g3] at hx
      exact (p2.1 b hb).2 x (by rw [enC_br hkid]; exact (List.mem_filter.1 hx).1)
    have hm := mend_ok hP (ends_two h2)
    refine ⟨hm.good, ?_, ?_⟩
    · have := hm.sum
      simp only [List.map_append, List.map_cons, List.sum_append, List.sum_cons, size_br, cellN, C.key_mk] at this hs
      simp only [cellN]
      omega
    · rw [hm.en, hen, del_mid, List.flatMap_append, List.flatMap_cons, enC_cell, g3, List.append_assoc]
      · intro a ha
        obtain ⟨a', ha', hx⟩ := List.mem_flatMap.1 ha
        exact hA a' ha' a hx
      · exact brG_lt hB hBk
/-- A tree that may be. -/
def RootG (n : N) : Prop := ∃ d, Good d n ∧ (sizesN n).sum ≤ 122 ∧ (n.leaf = true ∨ 2 ≤ n.l.length)
theorem top_good : ∀ {d : Nat} {n : N}, Good d n → (sizesN n).sum ≤ 167 → RootG (topN n) ∧ enN (topN n) = enN n := by
  have one : ∀ {d : Nat} {n : N}, Good d n → (sizesN n).sum ≤ 167 → n.leaf = true ∨ n.l.length ≠ 1 → RootG (topN n) ∧ enN (topN n) = enN n := by
    intro d n h hs h1
    rw [topN_else _ h1]
    have hP : Pre d [] (cellN noS n) [] := ⟨rfl, List.pairwise_singleton _ _, fun x hx => (by cases hx), fun x hx => (by cases hx), ⟨by show noS.size ≤ 16; rw [noS_size]; omega, rfl, rfl⟩, fun x hx => noS_le _, n, rfl, h, hs⟩
    rcases parted_ok (p := 0) hP (kid := n) rfl (m := partedN (.mk 0 false [cellN noS n]) n 0 noS) rfl with ⟨q1, q2, q3⟩ | ⟨q1, q2, q3, q4, q5, q6, q7⟩
    · rw [if_pos (atR_zero q3)]
      refine ⟨⟨d, h, q3, ?_⟩, rfl⟩
      rcases h1 with h1 | h1
      · exact .inl h1
      · cases hl : n.leaf with
        | true => exact .inl rfl
        | false =>
          refine .inr ?_
          cases d with
          | zero => have := h.1; rw [hl] at this; cases this
          | succ d => have := List.length_pos_iff.2 h.2.1; omega
    · have hne : atR (sizesN n) ≠ 0 := by
        intro e
        unfold partedN at q1
        simp only [e, if_true] at q1
        cases q1
      rw [if_neg hne]
      have hmd : mendN (.mk 0 false [cellN noS n]) 0 = (partedN (.mk 0 false [cellN noS n]) n 0 noS).1 := by
        have e1 : cellAt [cellN noS n] 0 = cellN noS n := rfl
        have e2 : kid0 (cellN noS n) = n := rfl
        have e3 : (cellN noS n).key = noS := rfl
        unfold mendN
        simp only [N.l_mk, e1, e2, e3]
        rw [if_pos q1]
      rw [hmd]
      have he : enN (partedN (.mk 0 false [cellN noS n]) n 0 noS).1 = enN n := by
        have := q5
        simp only [List.nil_append, List.flatMap_cons, List.flatMap_nil, List.append_nil, enC_cell] at this
        exact this
      have hlen : (partedN (.mk 0 false [cellN noS n]) n 0 noS).1.l.length = 2 := by simpa using q3
      refine ⟨⟨d + 1, ⟨q2, by intro e; rw [e] at hlen; simp at hlen, q4⟩, ?_, .inr (by omega)⟩, he⟩
      have : (sizesN (partedN (.mk 0 false [cellN noS n]) n 0 noS).1).sum ≤ (([] ++ cellN noS n :: []).map (sizeC false)).sum + 20 := q7
      have e4 : (([] ++ cellN noS n :: []).map (sizeC false)).sum = 4 := by
        simp only [List.nil_append, List.map_cons, List.map_nil, List.sum_cons, List.sum_nil, size_br, cellN, C.key_mk, noS_size]; omega
      omega
  intro d
  induction d with
  | zero => intro n h hs; exact one h hs (.inl h.1)
  | succ d ih =>
    intro n h hs
    by_cases h1 : n.l.length = 1
    · obtain ⟨c, hc⟩ := List.length_eq_one_iff.1 h1
      obtain ⟨_, _, k, hk, hg, hf⟩ := h.2.2.cell c (by rw [hc]; exact List.mem_singleton_self c)
      rw [topN_one n h.1 hc hk]
      obtain ⟨i1, i2⟩ := ih hg (by have := hf.2; omega)
      refine ⟨i1, ?_⟩
      rw [i2, enN_eq n, h.1, hc, List.flatMap_cons, List.flatMap_nil, enC_br hk, List.append_nil]
    · exact one h hs (.inr h1)
theorem root_put {key val : ByteArray} (hk0 : key ≠ noS) (hk : key.size ≤ 16) (hv : val.size ≤ 400) {n : N} (h : RootG n) : RootG (Put key val n) ∧ enN (Put key val n) = insE key val (enN n) := by
  obtain ⟨d, h1, h2, h3⟩ := h
  obtain ⟨g1, g2, g3⟩ := put_good hk0 hk hv h1 h2 h3
  obtain ⟨t1, t2⟩ := top_good g1 (by omega)
  exact ⟨t1, t2.trans g3⟩
theorem find_good (key : ByteArray) : ∀ {d : Nat} {n : N}, Good d n → findN key n = ((enN n).find? fun c => eqS c.key key).map C.data
  | 0, n, h => by rw [findN_leaf _ _ h.1, en_leaf h.1]
  | d + 1, n, h => by
    have hB := h.2.2
    obtain ⟨A, c, B, hl, hw, hA, hc, hBk⟩ := way_split hB h.2.1 key
    have hcl : n.l[way n.l key]? = some c := by rw [← hw]; conv => lhs; rw [hl]
                                                simp
    obtain ⟨o1, o2, kid, hkid, o4, o5⟩ := hB.cell c (List.mem_of_getElem? hcl)
    have hen : enN n = A.flatMap (enC false) ++ (enN kid ++ B.flatMap (enC false)) := by rw [enN_eq, h.1, hl, List.flatMap_append, List.flatMap_cons, enC_br hkid]
    rw [findN_br _ _ h.1 hcl hkid, find_good key o4, hen, List.find?_append, List.find?_append]
    rw [hl] at hB
    have f1 : (A.flatMap (enC false)).find? (fun c => eqS c.key key) = none := List.find?_eq_none.2 fun x hx => by
      obtain ⟨a, ha, hx⟩ := List.mem_flatMap.1 hx
      rw [eqS_no.2 (ltS_ne (hA a ha x hx))]; simp
    have f2 : (B.flatMap (enC false)).find? (fun c => eqS c.key key) = none := List.find?_eq_none.2 fun x hx => by
      rw [eqS_no.2 (ltS_ne (brG_lt hB hBk x hx)).symm]; simp
    rw [f1, f2]
    cases (enN kid).find? fun c => eqS c.key key <;> rfl
theorem del_none {key : ByteArray} {l : List C} (h : (l.find? fun c => eqS c.key key) = none) : delE key l = l := flt_all fun a ha => by
  have := List.find?_eq_none.1 h a ha
  simpa using this
theorem root_del (key : ByteArray) {n : N} (h : RootG n) : RootG (Del key n) ∧ enN (Del key n) = delE key (enN n) := by
  obtain ⟨d, h1, h2, h3⟩ := h
  unfold Del
  have hf := find_good key h1
  split
  · obtain ⟨g1, g2, g3⟩ := without_good (key := key) h1 h2 h3
    obtain ⟨t1, t2⟩ := top_good g1 (by omega)
    exact ⟨t1, t2.trans g3⟩
  · rename_i hn
    refine ⟨⟨d, h1, h2, h3⟩, (del_none ?_).symm⟩
    rw [hf] at hn
    cases hx : (enN n).find? fun c => eqS c.key key with
    | none => rfl
    | some c => rw [hx] at hn; simp at hn
end Go.Proofs.Ytfieabidajilmaa
