/-
  FreshPath is true wherever it is called. By an AI agent.
-/
import Derived.Test.YtkibkahknibgfaaMT5
namespace Go.Proofs.Ytkibkahknibgfaa
open Aml Go
set_option linter.unusedVariables false
set_option linter.unusedSimpArgs false
set_option maxRecDepth 100000

/-- What holds of a tree that isn't laid by what holds of its cells. -/
structure Hered (Q : N → Prop) (q : Bool → C → Prop) : Prop where
  of : ∀ b l, (∀ c, c ∈ l → q b c) → Q (.mk 0 b l)
  to : ∀ n, Q n → ∀ c, c ∈ n.l → q n.leaf c
  kid : ∀ c k, c.kid = [k] → q false c → Q k
  cell : ∀ c k, c.kid = [k] → c.pages = [] → Q k → q false c
section
variable {Q : N → Prop} {q : Bool → C → Prop}
theorem hered_setKey (H : Hered Q q) {d : Nat} {n : N} (hn : Nd d n) (hlf : n.leaf = false) (key : ByteArray) {l : List C} (hl : ∀ c, c ∈ l → c ∈ n.l) (h : ∀ c, c ∈ l → q false c) : ∀ c, c ∈ setKey key l → q false c := by
  cases l with
  | nil => exact h
  | cons a l =>
    intro c hc
    rcases List.mem_cons.1 hc with rfl | hc
    · cases d with
      | zero => have := hn.1; rw [hlf] at this; cases this
      | succ d =>
        obtain ⟨hs, k, hk, _⟩ := hn.2.2 a (hl a List.mem_cons_self)
        exact H.cell _ k hk (List.eq_nil_of_length_eq_zero (Nat.le_zero.1 hs.2.2)) (H.kid a k hk (h a List.mem_cons_self))
    · exact h c (List.mem_cons_of_mem _ hc)
theorem hered_parted (H : Hered Q q) {d : Nat} {n kid : N} {k : Nat} {key : ByteArray} (hk : Nd d kid) (hQ : Q kid) (h : ∀ c, c ∈ n.l → q false c) (hp : n.page = 0) (hl : n.leaf = false) :
    (partedN n kid k key).1.page = 0 ∧ (partedN n kid k key).1.leaf = false ∧ ∀ x, x ∈ (partedN n kid k key).1.l → q false x := by
  unfold partedN
  simp only
  split
  · exact ⟨hp, hl, h⟩
  · refine ⟨rfl, rfl, fun x hx => ?_⟩
    rcases mem_withC hx with hx | hx
    · exact h x hx
    · rcases List.mem_cons.1 hx with rfl | hx
      · exact H.cell _ _ rfl rfl (H.of _ _ fun c hc => H.to kid hQ c (List.mem_of_mem_take hc))
      · rw [List.mem_singleton] at hx; subst hx
        refine H.cell _ _ rfl rfl (H.of _ _ fun c hc => ?_)
        cases hb : kid.leaf with
        | true =>
          rw [hb, if_pos rfl] at hc
          have := H.to kid hQ c (List.mem_of_mem_drop hc)
          rwa [hb] at this
        | false =>
          rw [hb, if_neg (by simp)] at hc
          exact hered_setKey H hk hb noS (fun c hc => List.mem_of_mem_drop hc) (fun c hc => by
            have := H.to kid hQ c (List.mem_of_mem_drop hc)
            rwa [hb] at this) c hc
theorem hered_both (H : Hered Q q) {d : Nat} {a b : N} {key : ByteArray} (ha : Nd d a) (hb : Nd d b) (qa : Q a) (qb : Q b) : Q (bothN a b key) := by
  unfold bothN
  refine H.of _ _ fun c hc => ?_
  rcases List.mem_append.1 hc with hc | hc
  · exact H.to a qa c hc
  · have e := nd_leaf_eq ha hb
    cases hl : b.leaf with
    | true =>
      rw [hl, if_pos rfl] at hc
      have := H.to b qb c hc
      rwa [← e] at this
    | false =>
      rw [hl, if_neg (by simp)] at hc
      rw [e, hl]
      exact hered_setKey H hb hl key (fun c hc => hc) (fun c hc => by
        have := H.to b qb c hc
        rwa [hl] at this) c hc
theorem hered_mend (H : Hered Q q) {d : Nat} {n : N} {k : Nat} (hn : Nd (d + 1) n) (hlt : k < n.l.length) (h : ∀ c, c ∈ n.l → q false c) (hp : n.page = 0) : (mendN n k).page = 0 ∧ (mendN n k).leaf = false ∧ ∀ x, x ∈ (mendN n k).l → q false x := by
  obtain ⟨c, kid, hc, e1, e2, hkid, hkey, hnd⟩ := nd_kid hn hlt
  have hQ := H.kid c kid hkid (h c (List.mem_of_getElem? hc))
  unfold mendN
  simp only [e1, e2]
  split
  · exact hered_parted H hnd hQ h hp hn.1
  · split
    · exact ⟨hp, hn.1, h⟩
    · rename_i h1 h2
      simp only [Bool.or_eq_true, decide_eq_true_eq, not_or] at h2
      have hj : (if k + 1 < n.l.length then k else k - 1) + 1 < n.l.length := by split <;> omega
      generalize (if k + 1 < n.l.length then k else k - 1) = j at *
      obtain ⟨c0, k0, hc0, f1, f2, hk0, hkey0, hnd0⟩ := nd_kid hn (k := j) (by omega)
      obtain ⟨c1, k1, hc1, g1, g2, hk1, hkey1, hnd1⟩ := nd_kid hn hj
      rw [f1, f2, g1, g2]
      have hQb : Q (bothN k0 k1 c1.key) := hered_both H hnd0 hnd1 (H.kid c0 k0 hk0 (h c0 (List.mem_of_getElem? hc0))) (H.kid c1 k1 hk1 (h c1 (List.mem_of_getElem? hc1)))
      refine hered_parted H (nd_both hnd0 hnd1 hkey1) hQb (fun x hx => ?_) rfl rfl
      rcases mem_withC hx with hx | hx
      · rcases mem_withC hx with hx | hx
        · exact h x hx
        · cases hx
      · rw [List.mem_singleton] at hx; subst hx
        exact H.cell _ _ rfl rfl hQb
theorem hered_mk (H : Hered Q q) {n : N} (h : n.page = 0 ∧ n.leaf = false ∧ ∀ x, x ∈ n.l → q false x) : Q n := by
  obtain ⟨h1, h2, h3⟩ := h
  rw [N.eta n, h1, h2]
  exact H.of _ _ h3
theorem hered_put (H : Hered Q q) {key val : ByteArray} (hk : key.size ≤ 16) (hv : val.size ≤ 400) (hq : q true (.mk key val [] [])) : ∀ {d : Nat} {n : N}, Nd d n → Q n → Q (putN key val n)
  | 0, n, h, hQ => by
    rw [putN_leaf _ _ _ h.1]
    refine H.of _ _ fun c hc => ?_
    rcases leafPut_mem hc with hc | rfl
    · have := H.to n hQ c hc
      rwa [h.1] at this
    · exact hq
  | d + 1, n, h, hQ => by
    have hw := way_lt h.2.1 key
    obtain ⟨c, kid, hc, _, _, hkid, hkey, hnd⟩ := nd_kid h hw
    rw [putN_br _ _ _ h.1 hc hkid]
    have hcs : ∀ x, x ∈ n.l → q false x := fun x hx => by have := H.to n hQ x hx; rwa [h.1] at this
    have i1 := hered_put H hk hv hq hnd (H.kid c kid hkid (hcs c (List.mem_of_getElem? hc)))
    have h1 := nd_with h hw 0 (m := [cellN c.key (putN key val kid)]) (.inr (by simp)) fun c' hc' => by
      rw [List.mem_singleton] at hc'; subst hc'; exact cell_ok hkey (nd_put hk hv hnd)
    have h2 := withC_len (m := [cellN c.key (putN key val kid)]) hw
    refine hered_mk H (hered_mend H h1 (by simp only [N.l_mk, List.length_cons, List.length_nil] at *; omega) (fun x hx => ?_) rfl)
    rcases mem_withC hx with hx | hx
    · exact hcs x hx
    · rw [List.mem_singleton] at hx; subst hx
      exact H.cell _ _ rfl rfl i1
theorem hered_without (H : Hered Q q) {key : ByteArray} : ∀ {d : Nat} {n : N}, Nd d n → Q n → Q (withoutN key n)
  | 0, n, h, hQ => by
    rw [withoutN_leaf _ _ h.1]
    refine H.of _ _ fun c hc => ?_
    have := H.to n hQ c (List.mem_filter.1 hc).1
    rwa [h.1] at this
  | d + 1, n, h, hQ => by
    have hw := way_lt h.2.1 key
    obtain ⟨c, kid, hc, _, _, hkid, hkey, hnd⟩ := nd_kid h hw
    obtain ⟨hs, _⟩ := h.2.2 c (List.mem_of_getElem? hc)
    rw [withoutN_br _ _ h.1 hc hkid]
    have hcs : ∀ x, x ∈ n.l → q false x := fun x hx => by have := H.to n hQ x hx; rwa [h.1] at this
    have i1 := hered_without H (key := key) hnd (H.kid c kid hkid (hcs c (List.mem_of_getElem? hc)))
    have h1 := nd_set h hw (c' := .mk c.key c.data c.pages [withoutN key kid]) ⟨⟨hs.1, hs.2.1, hs.2.2⟩, _, rfl, nd_without hnd⟩
    refine hered_mk H (hered_mend H h1 (by simp only [N.l_mk, List.length_set]; exact hw) (fun x hx => ?_) rfl)
    rcases mem_set hx with hx | rfl
    · exact hcs x hx
    · exact H.cell _ _ rfl (List.eq_nil_of_length_eq_zero (Nat.le_zero.1 hs.2.2)) i1
theorem hered_top (H : Hered Q q) : ∀ {d : Nat} {n : N}, Nd d n → Q n → Q (topN n) := by
  have one : ∀ {d : Nat} {n : N}, Nd d n → Q n → Q (if atR (sizesN n) = 0 then n else mendN (.mk 0 false [cellN noS n]) 0) := fun {d n} h hQ => by
    split
    · exact hQ
    · refine hered_mk H (hered_mend H (d := d) (n := .mk 0 false [cellN noS n]) (k := 0) ⟨rfl, by simp [N.l], fun c hc => by
        simp only [N.l_mk, List.mem_singleton] at hc
        subst hc
        exact cell_ok (by rw [noS_size]; omega) h⟩ (by simp [N.l]) (fun x hx => ?_) rfl)
      simp only [N.l_mk, List.mem_singleton] at hx
      subst hx
      exact H.cell _ _ rfl rfl hQ
  intro d
  induction d with
  | zero => intro n h hQ; rw [topN_else _ (.inl h.1)]; exact one h hQ
  | succ d ih =>
    intro n h hQ
    by_cases h1 : n.l.length = 1
    · obtain ⟨c, hc⟩ := List.length_eq_one_iff.1 h1
      have hcm : c ∈ n.l := by rw [hc]; exact List.mem_singleton_self c
      obtain ⟨_, k, hk, hn⟩ := h.2.2 c hcm
      rw [topN_one n h.1 hc hk]
      have := H.to n hQ c hcm
      rw [h.1] at this
      exact ih hn (H.kid c k hk this)
    · rw [topN_else _ (.inr h1)]; exact one h hQ
theorem hered_Put (H : Hered Q q) {key val : ByteArray} (hk : key.size ≤ 16) (hv : val.size ≤ 400) (hq : q true (.mk key val [] [])) {d : Nat} {n : N} (h : Nd d n) (hQ : Q n) : Q (Put key val n) :=
  hered_top H (nd_put hk hv h) (hered_put H hk hv hq h hQ)
theorem hered_Del (H : Hered Q q) {key : ByteArray} {d : Nat} {n : N} (h : Nd d n) (hQ : Q n) : Q (Del key n) := by
  unfold Del
  split
  · exact hered_top H (nd_without h) (hered_without H h hQ)
  · exact hQ
end

/-- How often a page stands below cells. -/
def cnL (p : Int) (b : Bool) (l : List C) : Nat := (l.flatMap (alC b)).count p
theorem cnL_app (p : Int) (b : Bool) (l m : List C) : cnL p b (l ++ m) = cnL p b l + cnL p b m := by unfold cnL; rw [List.flatMap_append, List.count_append]
theorem cnL_cons (p : Int) (b : Bool) (c : C) (l : List C) : cnL p b (c :: l) = (alC b c).count p + cnL p b l := by unfold cnL; rw [List.flatMap_cons, List.count_append]
theorem cnL_nil (p : Int) (b : Bool) : cnL p b [] = 0 := rfl
theorem cnL_split (p : Int) (b : Bool) (l : List C) (i : Nat) : cnL p b (l.take i) + cnL p b (l.drop i) = cnL p b l := by rw [← cnL_app, List.take_append_drop]
theorem cnL_withC {p : Int} {b : Bool} {l m : List C} {i : Nat} {c : C} (h : l[i]? = some c) : cnL p b (withC l i m) + (alC b c).count p = cnL p b l + cnL p b m := by
  have h1 := cnL_split p b l i
  have h2 : l.drop i = c :: l.drop (i + 1) := by
    obtain ⟨hlt, rfl⟩ := List.getElem?_eq_some_iff.1 h
    exact List.drop_eq_getElem_cons hlt
  rw [h2, cnL_cons] at h1
  unfold withC
  rw [cnL_app, cnL_app]
  omega
theorem alC_key (key : ByteArray) (c : C) : alC false (.mk key c.data c.pages c.kid) = alC false c := by cases c; simp [alC, C.pages, C.kid]
theorem cnL_setKey (p : Int) (key : ByteArray) (l : List C) : cnL p false (setKey key l) = cnL p false l := by
  cases l with
  | nil => rfl
  | cons a l => rw [setKey_app, cnL_cons, cnL_cons, alC_key]
theorem al_zero (p : Int) (b : Bool) (l : List C) : (alN (.mk 0 b l)).count p = cnL p b l := by rw [alN_eq]; rfl
theorem al_ge (p : Int) (n : N) : cnL p n.leaf n.l ≤ (alN n).count p := by rw [alN_eq, List.count_append]; exact Nat.le_add_left _ _
theorem alC_cell (key : ByteArray) (k : N) : alC false (cellN key k) = alN k := by rw [alC_br rfl]; rfl
theorem cn_parted {n kid : N} {k : Nat} {c : C} {key : ByteArray} (p : Int) (hc : n.l[k]? = some c) (hk : c.kid = [kid]) (hlf : n.leaf = false) : (alN (partedN n kid k key).1).count p ≤ (alN n).count p := by
  unfold partedN
  simp only
  split
  · exact Nat.le_refl _
  · have h1 := cnL_split p kid.leaf kid.l (atR (sizesN kid))
    have h2 := cnL_withC (p := p) (b := false) (m := [cellN key (.mk 0 kid.leaf (kid.l.take (atR (sizesN kid)))), cellN (keyOf (kid.l.drop (atR (sizesN kid)))) (.mk 0 kid.leaf (if kid.leaf then (kid.l.drop (atR (sizesN kid))) else setKey noS (kid.l.drop (atR (sizesN kid)))))]) hc
    have h3 : cnL p kid.leaf (if kid.leaf then (kid.l.drop (atR (sizesN kid))) else setKey noS (kid.l.drop (atR (sizesN kid)))) = cnL p kid.leaf (kid.l.drop (atR (sizesN kid))) := by
      cases hb : kid.leaf with
      | true => rw [if_pos rfl]
      | false => rw [if_neg (by simp), cnL_setKey]
    rw [cnL_cons, cnL_cons, cnL_nil, alC_cell, alC_cell, al_zero, al_zero, h3, alC_br hk, List.count_append] at h2
    have h4 := al_ge p n
    have h5 := al_ge p kid
    rw [hlf] at h4
    rw [al_zero]
    omega
theorem cn_both (p : Int) {a b : N} {key : ByteArray} (h : a.leaf = b.leaf) : (alN (bothN a b key)).count p ≤ (alN a).count p + (alN b).count p := by
  have h1 := al_ge p a
  have h2 := al_ge p b
  unfold bothN
  rw [al_zero, cnL_app]
  rw [← h] at h2 ⊢
  cases hb : a.leaf with
  | true => rw [hb] at h1 h2; rw [if_pos rfl]; omega
  | false => rw [hb] at h1 h2; rw [if_neg (by simp), cnL_setKey]; omega
theorem cn_mend {d : Nat} {n : N} {k : Nat} (p : Int) (hn : Nd (d + 1) n) (hlt : k < n.l.length) : (alN (mendN n k)).count p ≤ (alN n).count p := by
  obtain ⟨c, kid, hc, e1, e2, hkid, hkey, hnd⟩ := nd_kid hn hlt
  unfold mendN
  simp only [e1, e2]
  split
  · exact cn_parted p hc hkid hn.1
  · split
    · exact Nat.le_refl _
    · rename_i h1 h2
      simp only [Bool.or_eq_true, decide_eq_true_eq, not_or] at h2
      have hj : (if k + 1 < n.l.length then k else k - 1) + 1 < n.l.length := by split <;> omega
      generalize (if k + 1 < n.l.length then k else k - 1) = j at *
      obtain ⟨c0, k0, hc0, f1, f2, hk0, hkey0, hnd0⟩ := nd_kid hn (k := j) (by omega)
      obtain ⟨c1, k1, hc1, g1, g2, hk1, hkey1, hnd1⟩ := nd_kid hn hj
      rw [f1, f2, g1, g2]
      have hwl := withC_len (m := []) hj
      simp only [List.length_nil] at hwl
      have hj2 : j < (withC n.l (j + 1) []).length := by omega
      refine Nat.le_trans (cn_parted p (c := cellN c0.key (bothN k0 k1 c1.key)) (withC_at hj2) rfl rfl) ?_
      have t1 := cnL_withC (p := p) (b := false) (m := []) hc1
      have hat : (withC n.l (j + 1) [])[j]? = some c0 := by
        unfold withC
        rw [List.append_assoc, List.getElem?_append_left (by rw [List.length_take]; omega), List.getElem?_take, if_pos (by omega)]
        exact hc0
      have t2 := cnL_withC (p := p) (b := false) (m := [cellN c0.key (bothN k0 k1 c1.key)]) hat
      have t3 := cn_both p (key := c1.key) (nd_leaf_eq hnd0 hnd1)
      have t4 := al_ge p n
      rw [hn.1] at t4
      rw [cnL_cons, cnL_nil, alC_cell, alC_br hk0, List.count_append] at t2
      rw [cnL_nil, alC_br hk1, List.count_append] at t1
      rw [al_zero]
      omega
theorem cn_leafPut (p : Int) (l : List C) (key val : ByteArray) : cnL p true (leafPut l key val) ≤ cnL p true l := by
  have hnew : (alC true (.mk key val [] [])).count p = 0 := rfl
  have h2 : cnL p true (l.take (idxN l key) ++ [.mk key val [] []] ++ l.drop (idxN l key)) ≤ cnL p true l := by
    have := cnL_split p true l (idxN l key)
    rw [cnL_app, cnL_app, cnL_cons, cnL_nil, hnew]; omega
  unfold leafPut
  simp only
  split
  · rename_i c hc
    split
    · have := cnL_withC (p := p) (b := true) (m := [C.mk key val [] []]) hc
      rw [cnL_cons, cnL_nil, hnew] at this
      omega
    · exact h2
  · exact h2
theorem cn_put {key val : ByteArray} (hk : key.size ≤ 16) (hv : val.size ≤ 400) (p : Int) : ∀ {d : Nat} {n : N}, Nd d n → (alN (putN key val n)).count p ≤ (alN n).count p
  | 0, n, h => by
    rw [putN_leaf _ _ _ h.1, al_zero]
    have := cn_leafPut p n.l key val
    have h4 := al_ge p n
    rw [h.1] at h4
    omega
  | d + 1, n, h => by
    have hw := way_lt h.2.1 key
    obtain ⟨c, kid, hc, _, _, hkid, hkey, hnd⟩ := nd_kid h hw
    rw [putN_br _ _ _ h.1 hc hkid]
    have h1 := nd_with h hw 0 (m := [cellN c.key (putN key val kid)]) (.inr (by simp)) fun c' hc' => by
      rw [List.mem_singleton] at hc'; subst hc'; exact cell_ok hkey (nd_put hk hv hnd)
    have h2 := withC_len (m := [cellN c.key (putN key val kid)]) hw
    refine Nat.le_trans (cn_mend p h1 (by simp only [N.l_mk, List.length_cons, List.length_nil] at *; omega)) ?_
    have t := cnL_withC (p := p) (b := false) (m := [cellN c.key (putN key val kid)]) hc
    have i1 := cn_put hk hv p hnd
    have h4 := al_ge p n
    rw [h.1] at h4
    rw [cnL_cons, cnL_nil, alC_cell, alC_br hkid, List.count_append] at t
    rw [al_zero]
    omega
theorem cn_without {key : ByteArray} (p : Int) : ∀ {d : Nat} {n : N}, Nd d n → (alN (withoutN key n)).count p ≤ (alN n).count p
  | 0, n, h => by
    rw [withoutN_leaf _ _ h.1, al_zero]
    have h4 := al_ge p n
    rw [h.1] at h4
    have : ∀ l : List C, cnL p true (l.filter fun c => !eqS c.key key) ≤ cnL p true l := by
      intro l
      induction l with
      | nil => exact Nat.le_refl _
      | cons c l ih =>
        rw [List.filter_cons, cnL_cons]
        split
        · rw [cnL_cons]; omega
        · omega
    have := this n.l
    omega
  | d + 1, n, h => by
    have hw := way_lt h.2.1 key
    obtain ⟨c, kid, hc, _, _, hkid, hkey, hnd⟩ := nd_kid h hw
    obtain ⟨hs, _⟩ := h.2.2 c (List.mem_of_getElem? hc)
    rw [withoutN_br _ _ h.1 hc hkid]
    have h1 := nd_set h hw (c' := .mk c.key c.data c.pages [withoutN key kid]) ⟨⟨hs.1, hs.2.1, hs.2.2⟩, _, rfl, nd_without hnd⟩
    refine Nat.le_trans (cn_mend p h1 (by simp only [N.l_mk, List.length_set]; exact hw)) ?_
    have e : n.l.set (way n.l key) (.mk c.key c.data c.pages [withoutN key kid]) = withC n.l (way n.l key) [.mk c.key c.data c.pages [withoutN key kid]] := by
      unfold withC
      rw [List.set_eq_take_append_cons_drop, if_pos hw]; simp
    have t := cnL_withC (p := p) (b := false) (m := [.mk c.key c.data c.pages [withoutN key kid]]) hc
    have i1 := cn_without (key := key) p hnd
    have h4 := al_ge p n
    rw [h.1] at h4
    rw [cnL_cons, cnL_nil, alC_br (c := .mk c.key c.data c.pages [withoutN key kid]) rfl, alC_br hkid, List.count_append, List.count_append] at t
    rw [al_zero, e]
    simp only [C.pages_mk] at t
    omega
theorem cn_top (p : Int) {d : Nat} : ∀ {n : N}, Nd d n → (alN (topN n)).count p ≤ (alN n).count p := by
  have one : ∀ {d : Nat} {n : N}, Nd d n → (alN (if atR (sizesN n) = 0 then n else mendN (.mk 0 false [cellN noS n]) 0)).count p ≤ (alN n).count p := fun {d n} h => by
    split
    · exact Nat.le_refl _
    · refine Nat.le_trans (cn_mend p (d := d) (n := .mk 0 false [cellN noS n]) (k := 0) ⟨rfl, by simp [N.l], fun c hc => by
        simp only [N.l_mk, List.mem_singleton] at hc
        subst hc
        exact cell_ok (by rw [noS_size]; omega) h⟩ (by simp [N.l])) ?_
      rw [al_zero, cnL_cons, cnL_nil, alC_cell]
      exact Nat.le_refl _
  induction d with
  | zero => intro n h; rw [topN_else _ (.inl h.1)]; exact one h
  | succ d ih =>
    intro n h
    by_cases h1 : n.l.length = 1
    · obtain ⟨c, hc⟩ := List.length_eq_one_iff.1 h1
      obtain ⟨_, k, hk, hn⟩ := h.2.2 c (by rw [hc]; exact List.mem_singleton_self c)
      rw [topN_one n h.1 hc hk]
      have := ih hn
      have h4 := al_ge p n
      rw [h.1, hc, cnL_cons, cnL_nil, alC_br hk, List.count_append] at h4
      omega
    · rw [topN_else _ (.inr h1)]; exact one h
/-- No page is new. -/
theorem cn_Put {key val : ByteArray} (hk : key.size ≤ 16) (hv : val.size ≤ 400) (p : Int) {d : Nat} {n : N} (h : Nd d n) : (alN (Put key val n)).count p ≤ (alN n).count p :=
  Nat.le_trans (cn_top p (nd_put hk hv h)) (cn_put hk hv p h)
theorem cn_Del {key : ByteArray} (p : Int) {d : Nat} {n : N} (h : Nd d n) : (alN (Del key n)).count p ≤ (alN n).count p := by
  unfold Del
  split
  · exact Nat.le_trans (cn_top p (nd_without h)) (cn_without p h)
  · exact Nat.le_refl _
end Go.Proofs.Ytkibkahknibgfaa

namespace Go.Proofs.Ytkibkahknibgfaa
open Aml Go
set_option linter.unusedVariables false
set_option linter.unusedSimpArgs false
set_option maxRecDepth 100000

theorem al_len {d : Nat} {n : N} (h : Nd d n) : (alN n).length ≤ 1 + 5 * totN n := by
  rw [(al_perm d n h).length_eq]
  exact pgS_le noB h
theorem alT_le (b : Bool) (l : List C) (k : Nat) : ((l.take k).flatMap (alC b)).length ≤ (l.flatMap (alC b)).length := by
  have := congrArg (List.flatMap (alC b)) (List.take_append_drop k l)
  have := congrArg List.length this
  simp only [List.flatMap_append, List.length_append] at this
  omega
theorem alT_succ {b : Bool} {l : List C} {k : Nat} {c : C} (h : l[k]? = some c) : (l.take (k + 1)).flatMap (alC b) = (l.take k).flatMap (alC b) ++ alC b c := by
  rw [List.take_add_one, h]; simp
set_option maxHeartbeats 4000000 in
theorem allR (w0 : W0) : ∀ (d : Nat) (n : N) (S : St), Nd d n → totN n ≤ 131072 → ACall Try.prog w0 68 [eN n] S (fun e S' => e = dL (alN n) ∧ S' = S) := by
  intro d
  induction d with
  | zero =>
    intro n S hn ht
    have hlf := hn.1
    have hl := tot_len n
    have hq := alN_eq n
    have hle := al_len hn
    rw [hlf] at hq
    have hm8 : maxLen = 9223372036854775807 := rfl
    refine fnS [2] mx Try.func68 rfl rfl (by kernel_rfl) ?_; simp (maxDischargeDepth := 12) (maxSteps := 1000000) -implicitDefEqProofs only [Try.ntmps68, go_sem, Nat.reduceAdd, Nat.reduceSub, Nat.reduceMul, Nat.reduceLeDiff, Nat.reduceEqDiff, Nat.reduceGT, Nat.reduceBEq, reduceCtorEq, ↓reduceIte, Int.reduceToNat, Int.reduceLE, Int.reduceLT, Int.reduceNe, Int.reduceEq,  hlf]
    intro b
    refine growK 3 1 rfl (by omega) fun lp => ?_
    refine shrK [] [] mx (by kernel_rfl) ?_
    simp (maxDischargeDepth := 12) (maxSteps := 1000000) -implicitDefEqProofs only [go_sem, Nat.reduceAdd, Nat.reduceSub, Nat.reduceMul, Nat.reduceLeDiff, Nat.reduceEqDiff, Nat.reduceGT, Nat.reduceBEq, reduceCtorEq, ↓reduceIte, Int.reduceToNat, Int.reduceLE, Int.reduceLT, Int.reduceNe, Int.reduceEq]
    refine ⟨fun hp => ⟨by omega, ?_⟩, fun hp => ?_⟩
    all_goals
      obtain ⟨P0, hP0⟩ : ∃ P0, P0 = (if n.page ≠ 0 then [n.page] else []) := ⟨_, rfl⟩
      rw [← hP0] at hq
      have hP1 : P0.length ≤ 1 := by rw [hP0]; split <;> simp
      rw [hq, List.length_append] at hle
      refine loopN [] n.l.length [1, 3, 4] (fun k => [(3, .acc lp.n (P0 ++ (n.l.take k).flatMap (alC true)).length), (4, dI k)]) (fun k => ⟨(b.n, [dI n.page, dB true, .sl 4 false (n.l.map dC)]) :: S.box, (lp.n, .arr 1 ((P0 ++ (n.l.take k).flatMap (alC true)).map dI)) :: S.acc⟩) (fun _ => True) mx (by kernel_rfl) ?_ ?_
      · simp (maxDischargeDepth := 12) (maxSteps := 1000000) -implicitDefEqProofs only [go_sem, Nat.reduceAdd, Nat.reduceSub, Nat.reduceMul, Nat.reduceLeDiff, Nat.reduceEqDiff, Nat.reduceGT, Nat.reduceBEq, reduceCtorEq, ↓reduceIte, Int.reduceToNat, Int.reduceLE, Int.reduceLT, Int.reduceNe, Int.reduceEq]
        first
          | (rw [if_pos (show n.page ≠ 0 from hp)] at hP0
             subst hP0
             exact ⟨.refl _, .refl _⟩)
          | (rw [if_neg (show ¬ n.page ≠ 0 from hp)] at hP0
             subst hP0
             exact ⟨.refl _, .refl _⟩)
      · intro k hk _
        have h1 := alT_le true n.l k
        have h2 := alT_le true n.l (k + 1)
        simp (maxDischargeDepth := 12) (maxSteps := 1000000) -implicitDefEqProofs only [go_sem, Nat.reduceAdd, Nat.reduceSub, Nat.reduceMul, Nat.reduceLeDiff, Nat.reduceEqDiff, Nat.reduceGT, Nat.reduceBEq, reduceCtorEq, ↓reduceIte, Int.reduceToNat, Int.reduceLE, Int.reduceLT, Int.reduceNe, Int.reduceEq]
        refine ⟨fun hlt => ⟨hlt, fun c hc => ?_⟩, fun hge => ?_⟩
        · have h3 := alT_succ (b := true) hc
          have h4 := congrArg List.length h3
          rw [List.length_append, alC_leaf] at h4
          refine ⟨by omega, by omega, hlt, ⟨.eq (by rw [h4, Nat.add_assoc]), by rw [w64 (by omega) (by omega)]; omega⟩, ?_⟩
          rw [h3, alC_leaf, List.append_assoc]
          exact .refl _
        · rw [List.take_of_length_le (by omega), hq]
          exact .refl _
  | succ d ih =>
    intro n S hn ht
    have hlf := hn.1
    have hl := tot_len n
    have hq := alN_eq n
    have hle := al_len hn
    rw [hlf] at hq
    have hm8 : maxLen = 9223372036854775807 := rfl
    refine fnS [2] mx Try.func68 rfl rfl (by kernel_rfl) ?_; simp (maxDischargeDepth := 12) (maxSteps := 1000000) -implicitDefEqProofs only [Try.ntmps68, go_sem, Nat.reduceAdd, Nat.reduceSub, Nat.reduceMul, Nat.reduceLeDiff, Nat.reduceEqDiff, Nat.reduceGT, Nat.reduceBEq, reduceCtorEq, ↓reduceIte, Int.reduceToNat, Int.reduceLE, Int.reduceLT, Int.reduceNe, Int.reduceEq,  hlf]
    intro b
    refine growK 3 1 rfl (by omega) fun lp => ?_
    refine shrK [] [] mx (by kernel_rfl) ?_
    simp (maxDischargeDepth := 12) (maxSteps := 1000000) -implicitDefEqProofs only [go_sem, Nat.reduceAdd, Nat.reduceSub, Nat.reduceMul, Nat.reduceLeDiff, Nat.reduceEqDiff, Nat.reduceGT, Nat.reduceBEq, reduceCtorEq, ↓reduceIte, Int.reduceToNat, Int.reduceLE, Int.reduceLT, Int.reduceNe, Int.reduceEq]
    refine ⟨fun hp => ⟨by omega, ?_⟩, fun hp => ?_⟩
    all_goals
      obtain ⟨P0, hP0⟩ : ∃ P0, P0 = (if n.page ≠ 0 then [n.page] else []) := ⟨_, rfl⟩
      rw [← hP0] at hq
      have hP1 : P0.length ≤ 1 := by rw [hP0]; split <;> simp
      rw [hq, List.length_append] at hle
      refine loopN [] n.l.length [1, 3, 4] (fun k => [(3, .acc lp.n (P0 ++ (n.l.take k).flatMap (alC false)).length), (4, dI k)]) (fun k => ⟨(b.n, [dI n.page, dB false, .sl 4 false (n.l.map dC)]) :: S.box, (lp.n, .arr 1 ((P0 ++ (n.l.take k).flatMap (alC false)).map dI)) :: S.acc⟩) (fun _ => True) mx (by kernel_rfl) ?_ ?_
      · simp (maxDischargeDepth := 12) (maxSteps := 1000000) -implicitDefEqProofs only [go_sem, Nat.reduceAdd, Nat.reduceSub, Nat.reduceMul, Nat.reduceLeDiff, Nat.reduceEqDiff, Nat.reduceGT, Nat.reduceBEq, reduceCtorEq, ↓reduceIte, Int.reduceToNat, Int.reduceLE, Int.reduceLT, Int.reduceNe, Int.reduceEq]
        first
          | (rw [if_pos (show n.page ≠ 0 from hp)] at hP0
             subst hP0
             exact ⟨.refl _, .refl _⟩)
          | (rw [if_neg (show ¬ n.page ≠ 0 from hp)] at hP0
             subst hP0
             exact ⟨.refl _, .refl _⟩)
      · intro k hk _
        have h1 := alT_le false n.l k
        have h2 := alT_le false n.l (k + 1)
        simp (maxDischargeDepth := 12) (maxSteps := 1000000) -implicitDefEqProofs only [go_sem, Nat.reduceAdd, Nat.reduceSub, Nat.reduceMul, Nat.reduceLeDiff, Nat.reduceEqDiff, Nat.reduceGT, Nat.reduceBEq, reduceCtorEq, ↓reduceIte, Int.reduceToNat, Int.reduceLE, Int.reduceLT, Int.reduceNe, Int.reduceEq]
        refine ⟨fun hlt => ⟨hlt, fun c hc => ?_⟩, fun hge => ?_⟩
        · obtain ⟨hs, kid, hkid, hnd⟩ := hn.2.2 c (List.mem_of_getElem? hc)
          have hpn : c.pages = [] := List.eq_nil_of_length_eq_zero (Nat.le_zero.1 hs.2.2)
          have htk := tot_kid (List.mem_of_getElem? hc) hkid
          have hkl : ((n.l.take (k + 1)).flatMap (alC false)) = (n.l.take k).flatMap (alC false) ++ alN kid := by rw [alT_succ hc, alC_br hkid, hpn, List.nil_append]
          have hkn := congrArg List.length hkl
          rw [List.length_append] at hkn
          rw [hpn, List.append_nil, List.length_nil, Nat.add_zero]
          refine ⟨by omega, by omega, hlt, fun c2 hc2 => ?_⟩
          rw [hc] at hc2
          cases hc2
          rw [hkid]
          refine ⟨by simp, fun kid2 hkid2 => ?_⟩
          cases hkid2
          refine use1 (ih kid _ hnd (by omega)) ?_
          simp (maxDischargeDepth := 12) (maxSteps := 1000000) -implicitDefEqProofs only [go_sem, Nat.reduceAdd, Nat.reduceSub, Nat.reduceMul, Nat.reduceLeDiff, Nat.reduceEqDiff, Nat.reduceGT, Nat.reduceBEq, reduceCtorEq, ↓reduceIte, Int.reduceToNat, Int.reduceLE, Int.reduceLT, Int.reduceNe, Int.reduceEq]
          refine ⟨by omega, by omega, hlt, ⟨.eq (by rw [hkn, Nat.add_assoc]), by rw [w64 (by omega) (by omega)]; omega⟩, ?_⟩
          rw [hkl, List.append_assoc]
          exact .refl _
        · rw [List.take_of_length_le (by omega), hq]
          exact .refl _
set_option maxHeartbeats 4000000 in
theorem refPagesW (w0 : W0) (d : Nat) (n : N) (S : St) (hn : Nd d n) (ht : totN n ≤ 131072) : ACall Try.prog w0 34 [eN n] S (fun e S' => e = dL (pgsT n) ∧ S' = S) := by
  have hle := al_len hn
  refine fnS [] mx Try.func34 rfl rfl (by kernel_rfl) ?_; simp (maxDischargeDepth := 12) (maxSteps := 1000000) -implicitDefEqProofs only [Try.ntmps34, go_sem, Nat.reduceAdd, Nat.reduceSub, Nat.reduceMul, Nat.reduceLeDiff, Nat.reduceEqDiff, Nat.reduceGT, Nat.reduceBEq, reduceCtorEq, ↓reduceIte, Int.reduceToNat, Int.reduceLE, Int.reduceLT, Int.reduceNe, Int.reduceEq]
  intro b
  refine use1 (allR w0 d n _ hn ht) ?_
  simp (maxDischargeDepth := 12) (maxSteps := 1000000) -implicitDefEqProofs only [go_sem, Nat.reduceAdd, Nat.reduceSub, Nat.reduceMul, Nat.reduceLeDiff, Nat.reduceEqDiff, Nat.reduceGT, Nat.reduceBEq, reduceCtorEq, ↓reduceIte, Int.reduceToNat, Int.reduceLE, Int.reduceLT, Int.reduceNe, Int.reduceEq]
  refine use1 (sortedR w0 (alN n) _ (by omega)) ?_
  simp (maxDischargeDepth := 12) (maxSteps := 1000000) -implicitDefEqProofs only [go_sem, Nat.reduceAdd, Nat.reduceSub, Nat.reduceMul, Nat.reduceLeDiff, Nat.reduceEqDiff, Nat.reduceGT, Nat.reduceBEq, reduceCtorEq, ↓reduceIte, Int.reduceToNat, Int.reduceLE, Int.reduceLT, Int.reduceNe, Int.reduceEq]
  rw [srt_congr (al_perm d n hn)]
  exact .refl _
set_option maxHeartbeats 4000000 in
theorem withoutR (w0 : W0) (l o : List Int) (S : St) (h0 : l.length ≤ 1048576) (h1 : o.length ≤ 1048576) : ACall Try.prog w0 72 [dL l, dL o] S (fun e S' => e = dL (fltI o l) ∧ S' = S) := by
  have hm8 : maxLen = 9223372036854775807 := rfl
  refine fnS [2] mx Try.func72 rfl rfl (by kernel_rfl) ?_; simp (maxDischargeDepth := 12) (maxSteps := 1000000) -implicitDefEqProofs only [Try.ntmps72, go_sem, Nat.reduceAdd, Nat.reduceSub, Nat.reduceMul, Nat.reduceLeDiff, Nat.reduceEqDiff, Nat.reduceGT, Nat.reduceBEq, reduceCtorEq, ↓reduceIte, Int.reduceToNat, Int.reduceLE, Int.reduceLT, Int.reduceNe, Int.reduceEq]
  refine growK 5 1 rfl (by omega) fun lp => ?_
  refine shrK [] [] mx (by kernel_rfl) ?_
  simp (maxDischargeDepth := 12) (maxSteps := 1000000) -implicitDefEqProofs only [go_sem, Nat.reduceAdd, Nat.reduceSub, Nat.reduceMul, Nat.reduceLeDiff, Nat.reduceEqDiff, Nat.reduceGT, Nat.reduceBEq, reduceCtorEq, ↓reduceIte, Int.reduceToNat, Int.reduceLE, Int.reduceLT, Int.reduceNe, Int.reduceEq]
  refine loopN [] l.length [0, 1, 5, 6] (fun k => [(5, .acc lp.n (fltI o (l.take k)).length), (6, dI k)]) (fun k => ⟨S.box, (lp.n, .arr 1 ((fltI o (l.take k)).map dI)) :: S.acc⟩) (fun _ => True) mx (by kernel_rfl) ?_ ?_
  · simp (maxDischargeDepth := 12) (maxSteps := 1000000) -implicitDefEqProofs only [go_sem, Nat.reduceAdd, Nat.reduceSub, Nat.reduceMul, Nat.reduceLeDiff, Nat.reduceEqDiff, Nat.reduceGT, Nat.reduceBEq, reduceCtorEq, ↓reduceIte, Int.reduceToNat, Int.reduceLE, Int.reduceLT, Int.reduceNe, Int.reduceEq]
    exact ⟨.refl _, .refl _⟩
  · intro k hk _
    simp (maxDischargeDepth := 12) (maxSteps := 1000000) -implicitDefEqProofs only [go_sem, Nat.reduceAdd, Nat.reduceSub, Nat.reduceMul, Nat.reduceLeDiff, Nat.reduceEqDiff, Nat.reduceGT, Nat.reduceBEq, reduceCtorEq, ↓reduceIte, Int.reduceToNat, Int.reduceLE, Int.reduceLT, Int.reduceNe, Int.reduceEq]
    refine ⟨fun hlt => ?_, fun hge => ?_⟩
    · have hx : l[k]? = some l[k] := List.getElem?_eq_getElem hlt
      refine loopN [] o.length [0, 1, 5, 6, 7, 8] (fun j => [(7, dB (hitI (o.take j) l[k])), (8, dI j)]) (fun j => ⟨S.box, (lp.n, .arr 1 ((fltI o (l.take k)).map dI)) :: S.acc⟩) (fun _ => True) mx (by kernel_rfl) ?_ ?_
      · simp (maxDischargeDepth := 12) (maxSteps := 1000000) -implicitDefEqProofs only [go_sem, Nat.reduceAdd, Nat.reduceSub, Nat.reduceMul, Nat.reduceLeDiff, Nat.reduceEqDiff, Nat.reduceGT, Nat.reduceBEq, reduceCtorEq, ↓reduceIte, Int.reduceToNat, Int.reduceLE, Int.reduceLT, Int.reduceNe, Int.reduceEq]
        rfl
      · intro j hj _
        have hfl : (fltI o (l.take k)).length ≤ 1048576 := Nat.le_trans (List.length_filter_le _ _) (by rw [List.length_take]; omega)
        have hfs : fltI o (l.take (k + 1)) = fltI o (l.take k) ++ if hitI o l[k] then [] else [l[k]] := by
          unfold fltI
          rw [List.take_add_one, hx, Option.toList_some, List.filter_append]
          congr 1
          cases h : hitI o l[k] <;> simp [h]
        have hj1 : ∀ a, o[j]? = some a → hitI (o.take (j + 1)) l[k] = (hitI (o.take j) l[k] || decide (a = l[k])) := fun a ha => by
          unfold hitI
          rw [List.take_add_one, ha, Option.toList_some]
          rw [Bool.eq_iff_iff]
          simp only [List.mem_append, List.mem_singleton, Bool.or_eq_true, decide_eq_true_eq]
          exact ⟨fun h => h.imp id Eq.symm, fun h => h.imp id Eq.symm⟩
        have hk1 : IntKind.i64.wrap ((k : Int) + 1) = ((k + 1 : Nat) : Int) := by rw [w64 (by omega) (by omega)]; omega
        simp (maxDischargeDepth := 12) (maxSteps := 1000000) -implicitDefEqProofs only [go_sem, Nat.reduceAdd, Nat.reduceSub, Nat.reduceMul, Nat.reduceLeDiff, Nat.reduceEqDiff, Nat.reduceGT, Nat.reduceBEq, reduceCtorEq, ↓reduceIte, Int.reduceToNat, Int.reduceLE, Int.reduceLT, Int.reduceNe, Int.reduceEq, hx]
        refine ⟨fun hlj => ?_, fun hgj => ?_⟩
        · have ho : o[j]? = some o[j] := List.getElem?_eq_getElem hlj
          have hj2 : IntKind.i64.wrap ((j : Int) + 1) = ((j + 1 : Nat) : Int) := by rw [w64 (by omega) (by omega)]; omega
          refine ⟨fun hh => ⟨hlj, by rw [hj1 _ ho, hh]; rfl, hj2⟩, fun hh => ⟨hlj, fun a ha => ⟨hlt, hlj, by rw [hj1 _ ha, hh]; rfl, hj2⟩⟩⟩
        · rw [List.take_of_length_le (Nat.le_of_not_lt hgj)]
          refine ⟨fun hh => ⟨hlt, ⟨?_, hk1⟩, ?_⟩, fun hh => ⟨hlt, by omega, by omega, hlt, ⟨?_, hk1⟩, ?_⟩⟩
          · rw [hfs, hh]; simp only [if_true, List.append_nil]; exact .refl _
          · rw [hfs, hh]; simp only [if_true, List.append_nil]; exact .refl _
          · rw [hfs, hh, List.length_append]; exact .refl _
          · rw [hfs, hh, List.map_append]; exact .refl _
    · rw [List.take_of_length_le (by omega)]
      exact .refl _
set_option maxHeartbeats 4000000 in
theorem refLostW (w0 : W0) (d e : Nat) (a b : N) (S : St) (ha : Nd d a) (hta : totN a ≤ 131072) (hb : Nd e b) (htb : totN b ≤ 131072) : ACall Try.prog w0 36 [eN a, eN b] S (fun e S' => e = dL (fltI (pgsT b) (pgsT a)) ∧ S' = S) := by
  refine fnS [] mx Try.func36 rfl rfl (by kernel_rfl) ?_; simp (maxDischargeDepth := 12) (maxSteps := 1000000) -implicitDefEqProofs only [Try.ntmps36, go_sem, Nat.reduceAdd, Nat.reduceSub, Nat.reduceMul, Nat.reduceLeDiff, Nat.reduceEqDiff, Nat.reduceGT, Nat.reduceBEq, reduceCtorEq, ↓reduceIte, Int.reduceToNat, Int.reduceLE, Int.reduceLT, Int.reduceNe, Int.reduceEq]
  intro b1 b2
  refine useQ (refPagesW w0 d a _ ha hta) ?_
  simp (maxDischargeDepth := 12) (maxSteps := 1000000) -implicitDefEqProofs only [go_sem, Nat.reduceAdd, Nat.reduceSub, Nat.reduceMul, Nat.reduceLeDiff, Nat.reduceEqDiff, Nat.reduceGT, Nat.reduceBEq, reduceCtorEq, ↓reduceIte, Int.reduceToNat, Int.reduceLE, Int.reduceLT, Int.reduceNe, Int.reduceEq]
  refine useQ (refPagesW w0 e b _ hb htb) ?_
  simp (maxDischargeDepth := 12) (maxSteps := 1000000) -implicitDefEqProofs only [go_sem, Nat.reduceAdd, Nat.reduceSub, Nat.reduceMul, Nat.reduceLeDiff, Nat.reduceEqDiff, Nat.reduceGT, Nat.reduceBEq, reduceCtorEq, ↓reduceIte, Int.reduceToNat, Int.reduceLE, Int.reduceLT, Int.reduceNe, Int.reduceEq]
  have hla := pgS_le noB ha
  have hlb := pgS_le noB hb
  refine useQ (withoutR w0 (pgsT a) (pgsT b) _ (by unfold pgsT; rw [srt_length]; omega) (by unfold pgsT; rw [srt_length]; omega)) ?_
  simp (maxDischargeDepth := 12) (maxSteps := 1000000) -implicitDefEqProofs only [go_sem, Nat.reduceAdd, Nat.reduceSub, Nat.reduceMul, Nat.reduceLeDiff, Nat.reduceEqDiff, Nat.reduceGT, Nat.reduceBEq, reduceCtorEq, ↓reduceIte, Int.reduceToNat, Int.reduceLE, Int.reduceLT, Int.reduceNe, Int.reduceEq]
end Go.Proofs.Ytkibkahknibgfaa

namespace Aml
open Go Go.RowKit
set_option linter.unusedVariables false
set_option linter.unusedSimpArgs false

/-- Which of the remaining ones may come: the first, the second, either. -/
inductive Tr where
  | leaf | head (t : Tr) | snd (t : Tr) | both (t u : Tr)
def vwT (P : Program) (w0 : W0) (K : List DV → St → Prop) : Tr → List Oper → List DV → St → Prop
  | .leaf, [], fr, S => K fr S
  | .head t, o :: r, fr, S => vcOp P w0 o.op fr S fun d S' => vwT P w0 K t r (pt fr o.dst d) S'
  | .snd t, p :: o :: r, fr, S => vcOp P w0 o.op fr S fun d S' => vwT P w0 K t (p :: r) (pt fr o.dst d) S'
  | .both t u, p :: o :: r, fr, S => (vcOp P w0 p.op fr S fun d S' => vwT P w0 K t (o :: r) (pt fr p.dst d) S') ∧ vcOp P w0 o.op fr S fun d S' => vwT P w0 K u (p :: r) (pt fr o.dst d) S'
  | _, _, _, _ => False
def okT (ops : Array Oper) : Nat → Array Bool → Tr → List Nat → Bool
  | _, L, .leaf, [] => (Region.ready .any ops L).isEmpty
  | f + 1, L, .head t, i :: r => !(Region.ready .any ops L).isEmpty && (Region.ready .any ops L).all (fun x => x == i) && okT ops f (L.setIfInBounds i true) t r
  | f + 1, L, .snd t, i :: j :: r => !(Region.ready .any ops L).isEmpty && (Region.ready .any ops L).all (fun x => x == j) && okT ops f (L.setIfInBounds j true) t (i :: r)
  | f + 1, L, .both t u, i :: j :: r => !(Region.ready .any ops L).isEmpty && (Region.ready .any ops L).all (fun x => x == i || x == j) && okT ops f (L.setIfInBounds i true) t (j :: r) && okT ops f (L.setIfInBounds j true) u (i :: r)
  | _, _, _, _ => false
def okR (l : List Oper) (t : Tr) : Bool := l.all (fun o => okSl o.op && o.guard.isNone) && okT l.toArray l.length (Array.replicate l.length false) t (List.range l.length)
section
variable {P : Program} {w0 : W0}
theorem vwT_sound {ro : Option Nat} {ops : Array Oper} {g0 : Gh} {Q : Exit → List DV → St → Prop} (hs : ∀ (i : Nat) o, ops[i]? = some o → okSl o.op = true ∧ o.guard = none) : ∀ (fuel : Nat) (L : Array Bool) (t : Tr) (is : List Nat) (l : List Oper) (fr : List DV) (S : St) (g : Gh) (a : Act) (w : World),
    okT ops fuel L t is = true → is.map (ops[·]?) = l.map some → g0.le g → Rel w0 g S w → RepL g fr a.tmps.toList → Dk w0 g.obj a w → vwT P w0 (fun fr S => Q .normal fr S) t l fr S → wpAnyIn (fz ro) 0 P .any ops (Good w0 g0 Q) fuel L a w := by
  have one : ∀ {i : Nat} {o : Oper} {fr : List DV} {S : St} {g : Gh} {a : Act} {w : World} {K : List DV → St → Prop} {K' : Act → World → Prop}, ops[i]? = some o → g0.le g → Rel w0 g S w → RepL g fr a.tmps.toList → Dk w0 g.obj a w →
      (∀ fr S g a w, g0.le g → Rel w0 g S w → RepL g fr a.tmps.toList → Dk w0 g.obj a w → K fr S → K' a w) → (vcOp P w0 o.op fr S fun d S' => K (pt fr o.dst d) S') → wpOpIn (fz ro) 0 P ops (Good w0 g0 Q) i K' a w := by
    intro i o fr S g a w K K' hi k h1 h2 h3 hK h
    obtain ⟨q1, q2⟩ := hs i o hi
    refine step_op k h1 h2 h3 hK ?_ hi
    rw [q2]
    exact vcOp_sound q1 h
  intro fuel
  induction fuel with
  | zero =>
    intro L t is l fr S g a w hok hl k h1 h2 h3 h
    cases t <;> cases is <;> (try cases l) <;> simp_all [okT, vwT, wpAnyIn]
    exact ⟨k.kd h3, g, fr, S, k, h1, h2, h⟩
  | succ fuel ih =>
    intro L t is l fr S g a w hok hl k h1 h2 h3 h
    cases t with
    | leaf =>
      match is, l, hok, hl, h with
      | [], [], hok, _, h =>
        have he : Region.ready .any ops L = [] := by simpa [okT] using hok
        exact ⟨fun _ => ⟨k.kd h3, g, fr, S, k, h1, h2, h⟩, fun i hi => by rw [he] at hi; cases hi⟩
      | [], _ :: _, _, hl, _ => cases hl
      | _ :: _, _, hok, _, _ => simp [okT] at hok
    | head t =>
      match is, l, hok, hl, h with
      | i :: is, o :: l, hok, hl, h =>
        simp only [okT, Bool.and_eq_true, Bool.not_eq_true', List.isEmpty_eq_false_iff] at hok
        simp only [List.map_cons, List.cons.injEq] at hl
        refine ⟨fun e => absurd e hok.1.1, fun x hx => ?_⟩
        have hxi := List.all_eq_true.1 hok.1.2 x hx
        simp only [beq_iff_eq] at hxi
        subst hxi
        exact one hl.1 k h1 h2 h3 (fun fr' S' g' a' w' p1 p2 p3 p4 p5 => ih _ t is l fr' S' g' a' w' hok.2 hl.2 p1 p2 p3 p4 p5) h
      | [], _, hok, _, _ => simp [okT] at hok
      | _ :: _, [], _, hl, _ => cases hl
    | snd t =>
      match is, l, hok, hl, h with
      | i :: j :: is, p :: o :: l, hok, hl, h =>
        simp only [okT, Bool.and_eq_true, Bool.not_eq_true', List.isEmpty_eq_false_iff] at hok
        simp only [List.map_cons, List.cons.injEq] at hl
        refine ⟨fun e => absurd e hok.1.1, fun x hx => ?_⟩
        have hxi := List.all_eq_true.1 hok.1.2 x hx
        simp only [beq_iff_eq] at hxi
        subst hxi
        exact one hl.2.1 k h1 h2 h3 (fun fr' S' g' a' w' p1 p2 p3 p4 p5 => ih _ t (i :: is) (p :: l) fr' S' g' a' w' hok.2 (by simp [hl.1, hl.2.2]) p1 p2 p3 p4 p5) h
      | [], _, hok, _, _ => simp [okT] at hok
      | [_], _, hok, _, _ => simp [okT] at hok
      | _ :: _ :: _, [], _, hl, _ => cases hl
      | _ :: _ :: _, [_], _, hl, _ => simp at hl
    | both t u =>
      match is, l, hok, hl, h with
      | i :: j :: is, p :: o :: l, hok, hl, h =>
        simp only [okT, Bool.and_eq_true, Bool.not_eq_true', List.isEmpty_eq_false_iff] at hok
        simp only [List.map_cons, List.cons.injEq] at hl
        refine ⟨fun e => absurd e hok.1.1.1, fun x hx => ?_⟩
        have hxi := List.all_eq_true.1 hok.1.1.2 x hx
        simp only [Bool.or_eq_true, beq_iff_eq] at hxi
        rcases hxi with hxi | hxi
        · subst hxi
          exact one hl.1 k h1 h2 h3 (fun fr' S' g' a' w' p1 p2 p3 p4 p5 => ih _ t (j :: is) (o :: l) fr' S' g' a' w' hok.1.2 (by simp [hl.2.1, hl.2.2]) p1 p2 p3 p4 p5) h.1
        · subst hxi
          exact one hl.2.1 k h1 h2 h3 (fun fr' S' g' a' w' p1 p2 p3 p4 p5 => ih _ u (i :: is) (p :: l) fr' S' g' a' w' hok.2 (by simp [hl.1, hl.2.2]) p1 p2 p3 p4 p5) h.2
      | [], _, hok, _, _ => simp [okT] at hok
      | [_], _, hok, _, _ => simp [okT] at hok
      | _ :: _ :: _, [], _, hl, _ => cases hl
      | _ :: _ :: _, [_], _, hl, _ => simp at hl
/-- A region, all of its orders walked. -/
theorem allK (t : Tr) {id : Nat} {l : List Oper} {fr : List DV} {S : St} {Q : Exit → List DV → St → Prop} (hm : P.follows .mixedOrders = true) (hB : okR l t = true) (h : vwT P w0 (fun fr S => normF fr fun fr => Q .normal fr S) t l fr S) : AWp P w0 (.region id l.toArray true) fr S Q := by
  simp only [okR, Bool.and_eq_true] at hB
  intro g a w h1 h2 h3
  refine wpA_region_any hm fun ro => ?_
  have hR : Rel w0 g S { w with drawn := w.drawn + 1 } := h1.grow (below_drew w)
  have hs : ∀ (i : Nat) o, l.toArray[i]? = some o → okSl o.op = true ∧ o.guard = none := fun i o hi => by
    have := List.all_eq_true.1 hB.1 o (List.mem_of_getElem? (by simpa using hi))
    simpa using this
  have := vwT_sound (ro := ro) (g0 := g) (Q := Q) hs _ _ t (List.range l.length) l fr S g a _ hB.2 (by
    apply List.ext_getElem?
    intro i
    simp only [List.getElem?_map, List.getElem?_range', List.getElem?_toArray]
    rcases Nat.lt_or_ge i l.length with hi | hi
    · rw [List.getElem?_range hi]; simp [List.getElem?_eq_getElem hi]
    · rw [List.getElem?_eq_none (by simpa using hi), List.getElem?_eq_none hi]; rfl) (.refl g) hR h2 (h3.keep rfl fun _ _ h _ => h) h
  simpa using this
section
variable {K : List DV → St → Prop} {fr : List DV} {S : St} {t u : Tr} {o p : Oper} {r : List Oper} {dst dst2 : Option Tmp} {op op2 : Op} {ty ty2 : TypeId} {pos pos2 : String} {aft aft2 : Array Edge}
theorem t_leaf : vwT P w0 K .leaf [] fr S = K fr S := rfl
theorem t_head : vwT P w0 K (.head t) (⟨dst, op, ty, pos, aft, none⟩ :: r) fr S = vcOp P w0 op fr S fun d S' => vwT P w0 K t r (pt fr dst d) S' := rfl
theorem t_snd : vwT P w0 K (.snd t) (p :: ⟨dst, op, ty, pos, aft, none⟩ :: r) fr S = vcOp P w0 op fr S fun d S' => vwT P w0 K t (p :: r) (pt fr dst d) S' := rfl
theorem t_both : vwT P w0 K (.both t u) (⟨dst, op, ty, pos, aft, none⟩ :: ⟨dst2, op2, ty2, pos2, aft2, none⟩ :: r) fr S = ((vcOp P w0 op fr S fun d S' => vwT P w0 K t (⟨dst2, op2, ty2, pos2, aft2, none⟩ :: r) (pt fr dst d) S') ∧ vcOp P w0 op2 fr S fun d S' => vwT P w0 K u (⟨dst, op, ty, pos, aft, none⟩ :: r) (pt fr dst2 d) S') := rfl
@[congr] theorem c_vwT {fr' : List DV} {S' : St} (h1 : fr = fr') (h2 : S = S') : vwT P w0 K t r fr S = vwT P w0 K t r fr' S' := by cases h1; cases h2; rfl
end
end
attribute [go_sem ↓] t_leaf t_head t_snd t_both
end Aml

namespace Aml
open Go Go.RowKit
set_option linter.unusedVariables false
set_option linter.unusedSimpArgs false
section
variable {P : Program} {w0 : W0}
/-- What is made is frozen, its own objects forgotten. -/
theorem yields_q {o : Oper} {ρD : Operand → DV} {S : St} {r : DV} (h : YieldsE P w0 o ρD S fun d S' => shr S' d fun d' S'' => d' = r ∧ Sub S S'') : YieldsE P w0 o ρD S fun d S' => d = r ∧ S' = S := by
  intro g w ρ h1 h2 hcst
  have := h g w ρ h1 h2 hcst
  split at this
  · obtain ⟨g', d, S', a, b, c, e⟩ := this
    obtain ⟨g2, d2, S2, q1, q2, q3, q4, q5⟩ := shr_ok b c e
    exact ⟨g2, d2, S, a.trans q1, q2.forget q5.box q5.acc, q3, q4, rfl⟩
  · obtain ⟨g', S', a, b, e⟩ := this
    have e : ud = r ∧ Sub S S' := e
    exact ⟨g', S, a, b.forget e.2.box e.2.acc, e.1, rfl⟩
  · refine this.mono ?_
    rintro e w'' ⟨r', g', d, S', a, b, c, x, y⟩
    obtain ⟨g2, d2, S2, q1, q2, q3, q4, q5⟩ := shr_ok c x y
    exact ⟨r', g2, d2, S, a, b.trans q1, q2.forget q5.box q5.acc, q3, q4, rfl⟩
  · refine fun ro => (this ro).mono ?_
    rintro e w'' ⟨r', g', d, S', a, b, c, x, y⟩
    obtain ⟨g2, d2, S2, q1, q2, q3, q4, q5⟩ := shr_ok c x y
    exact ⟨r', g2, d2, S, a, b.trans q1, q2.forget q5.box q5.acc, q3, q4, rfl⟩
  · exact this
def vMakeQ (k : TK) (z x y : DV) (K : DV → Prop) : Prop := match k, x, y with
  | .sl _ s by' true, .v (.int _ n), .v (.int _ m) => okE z = true ∧ 0 ≤ n ∧ n ≤ m ∧ m * by' ≤ 140737488355328 ∧ m ≤ 9223372036854775807 ∧ K (.sl s false (List.replicate n.toNat z))
  | _, _, _ => False
def vConvZ (a b ke : TK) (x : DV) (K : DV → Prop) : Prop := match a, b, x with
  | .sl _ _ _ _, .str, .sl s _ xs => ke = .int .u8 ∧ s = 1 ∧ okBy xs = true ∧ K (.v (.string (strOfNums (byD xs))))
  | a, b, x => vConv a b x K
def opZ (P : Program) (w0 : W0) (op : Op) (fr : List DV) (S : St) (K : DV → Prop) : Prop := match op with
  | .makeSlice t x y => vMakeQ (tk P t) (zD P (elT P t)) (ev fr x) (ev fr y) K
  | .convert s d x => vConvZ (tk P s) (tk P d) (tk P (elT P s)) (ev fr x) K
  | op => vcOpQ P w0 op fr S K
def isQZ : Op → Bool
  | .makeSlice .. => true
  | op => isQ op
def LZ (P : Program) (w0 : W0) (S : St) (ops : Array Oper) (K : List DV → St → Prop) : List Oper → List DV → Prop
  | [], fr => K fr S
  | o :: rest, fr => selK (isQZ o.op) (guardK ops fr o.guard (fun fr => opZ P w0 o.op fr S fun d => LZ P w0 S ops K rest (pt fr o.dst d)) (fun fr => LZ P w0 S ops K rest (pt fr o.dst ud))) (vcL P w0 ops K (o :: rest) fr S)
theorem opZ_sound {o : Oper} {fr : List DV} {S : St} {K : DV → Prop} (hs : okSl o.op = true) (h : opZ P w0 o.op fr S K) : ∃ d, QY P w0 S o fr d ∧ K d := by
  cases hop : o.op with
  | makeSlice t x y =>
    rw [hop] at h
    simp only [opZ, vMakeQ] at h
    split at h
    · rename_i e s by' k1 n k2 m hk hx hy
      obtain ⟨q1, q2, q3, q4, q5, q6⟩ := h
      refine ⟨_, yields_q (y_makeSlice hop ?_), q6⟩
      rw [hk, hx, hy]
      refine ⟨q1, q2, q3, q4, q5, fun l hl => ?_⟩
      show shr _ _ _
      unfold shr shr1
      simp only [lk, if_true, List.length_replicate, true_and]
      exact ⟨List.Sublist.refl _, by show List.Sublist S.acc (up _ _ _); simp only [up, if_true]; exact List.sublist_cons_self _ _⟩
    · exact h.elim
  | convert s d x =>
    rw [hop] at h hs
    simp only [opZ, vConvZ] at h
    split at h
    · rename_i e c b i s0 f xs hk hd hx
      obtain ⟨q1, q2, q3, q4⟩ := h
      refine ⟨_, y_convS (K := fun d S' => d = _ ∧ S' = S) hop ?_, q4⟩
      rw [hk, hd, hx]
      exact ⟨q1, rfl, q2, q3, rfl, rfl⟩
    · exact vcOpQ_sound (by rw [hop]; exact hs) (by rw [hop]; exact h)
  | _ => rw [hop] at h hs; exact vcOpQ_sound (by rw [hop]; exact hs) (by rw [hop]; exact h)
def nprZ (l : List Oper) : Nat := (l.takeWhile fun o => isQZ o.op).length
theorem LZ_split {S : St} {ops : Array Oper} {K : List DV → St → Prop} : ∀ {l : List Oper} {fr : List DV}, l.all (fun o => okSl o.op) = true → LZ P w0 S ops K l fr → LQ P w0 S ops (fun fr => vcL P w0 ops K (l.drop (nprZ l)) fr S) (l.take (nprZ l)) fr
  | [], fr, _, h => h
  | o :: rest, fr, hs, h => by
    simp only [List.all_cons, Bool.and_eq_true] at hs
    unfold LZ selK at h
    cases hq : isQZ o.op with
    | true =>
      rw [hq] at h
      simp only at h
      have e : nprZ (o :: rest) = nprZ rest + 1 := by simp [nprZ, hq]
      rw [e, List.take_succ_cons, List.drop_succ_cons]
      exact guardK_mono (fun fr h => by obtain ⟨d, q1, q2⟩ := opZ_sound hs.1 h; exact ⟨d, q1, LZ_split hs.2 q2⟩) (fun fr h => LZ_split hs.2 h) h
    | false =>
      rw [hq] at h
      have e : nprZ (o :: rest) = 0 := by simp [nprZ, hq]
      rw [e]
      exact h
/-- What such a region asks. -/
def okZ (l : List Oper) : Bool := l.all (fun o => okSl o.op && o.guard.isNone) && Region.lexB .any (l.take (nprZ l)).toArray && tailB .any l.toArray (nprZ l)
theorem makeK {id : Nat} {l : List Oper} {fr : List DV} {S : St} {Q : Exit → List DV → St → Prop} (hm : P.follows .mixedOrders = true) (hB : okZ l = true) (h : LZ P w0 S l.toArray (fun fr S => normF fr fun fr => Q .normal fr S) l fr) : AWp P w0 (.region id l.toArray true) fr S Q := by
  simp only [okZ, Bool.and_eq_true] at hB
  obtain ⟨⟨b1, b2⟩, b3⟩ := hB
  have hs : l.all (fun o => okSl o.op) = true := List.all_eq_true.2 fun o ho => by
    have := List.all_eq_true.1 b1 o ho
    simp only [Bool.and_eq_true] at this
    exact this.1
  have hn : nprZ l ≤ l.length := List.Sublist.length_le (List.takeWhile_sublist _)
  refine awp_drawT (nprZ l) hn hm b2 b3 hs (LQ_arr ?_ (LZ_split hs h))
  intro o ho j want hg
  have := List.all_eq_true.1 b1 o (List.mem_of_mem_take ho)
  simp [hg] at this
section
variable {ops : Array Oper} {K : List DV → St → Prop} {K2 : DV → Prop} {fr : List DV} {S : St} {r : List Oper} {dst : Option Tmp} {op : Op} {ty : TypeId} {pos : String} {aft : Array Edge}
theorem z_nil : LZ P w0 S ops K [] fr = K fr S := rfl
theorem z_none : LZ P w0 S ops K (⟨dst, op, ty, pos, aft, none⟩ :: r) fr = selK (isQZ op) (opZ P w0 op fr S fun d => LZ P w0 S ops K r (pt fr dst d)) (vcL P w0 ops K (⟨dst, op, ty, pos, aft, none⟩ :: r) fr S) := rfl
theorem z_make (t : TypeId) (x y : Operand) : opZ P w0 (.makeSlice t x y) fr S K2 = vMakeQ (tk P t) (zD P (elT P t)) (ev fr x) (ev fr y) K2 := rfl
theorem z_conv (s d : TypeId) (x : Operand) : opZ P w0 (.convert s d x) fr S K2 = vConvZ (tk P s) (tk P d) (tk P (elT P s)) (ev fr x) K2 := rfl
theorem z_load (t : TypeId) (x : Operand) : opZ P w0 (.load t x) fr S K2 = vcOpQ P w0 (.load t x) fr S K2 := rfl
theorem z_move (x : Operand) : opZ P w0 (.move x) fr S K2 = vcOpQ P w0 (.move x) fr S K2 := rfl
theorem z_assign (x : Operand) : opZ P w0 (.assign x) fr S K2 = vcOpQ P w0 (.assign x) fr S K2 := rfl
theorem z_index (t : TypeId) (x i : Operand) : opZ P w0 (.indexAddr t x i) fr S K2 = vcOpQ P w0 (.indexAddr t x i) fr S K2 := rfl
theorem z_field (t : TypeId) (x : Operand) (f : Nat) : opZ P w0 (.fieldAddr t x f) fr S K2 = vcOpQ P w0 (.fieldAddr t x f) fr S K2 := rfl
theorem z_call (c : Call) : opZ P w0 (.call c) fr S K2 = vcOpQ P w0 (.call c) fr S K2 := rfl
theorem z_vmake (e s b : Nat) (z : DV) (k1 k2 : IntKind) (n m : Int) : vMakeQ (.sl e s b true) z (.v (.int k1 n)) (.v (.int k2 m)) K2 = (okE z = true ∧ 0 ≤ n ∧ n ≤ m ∧ m * b ≤ 140737488355328 ∧ m ≤ 9223372036854775807 ∧ K2 (.sl s false (List.replicate n.toNat z))) := rfl
theorem z_vconv (e c b : Nat) (i : Bool) (ke : TK) (s : Nat) (f : Bool) (xs : List DV) : vConvZ (.sl e c b i) .str ke (.sl s f xs) K2 = (ke = .int .u8 ∧ s = 1 ∧ okBy xs = true ∧ K2 (.v (.string (strOfNums (byD xs))))) := rfl
@[congr] theorem c_LZ {fr' : List DV} (h1 : fr = fr') : LZ P w0 S ops K r fr = LZ P w0 S ops K r fr' := by cases h1; rfl
@[congr] theorem c_opZ {fr' : List DV} (h1 : fr = fr') : opZ P w0 op fr S K2 = opZ P w0 op fr' S K2 := by cases h1; rfl
@[congr] theorem c_vMakeQ {k k' : TK} {z z' x x' y y' : DV} (h1 : k = k') (h2 : z = z') (h3 : x = x') (h4 : y = y') : vMakeQ k z x y K2 = vMakeQ k' z' x' y' K2 := by cases h1; cases h2; cases h3; cases h4; rfl
@[congr] theorem c_vConvZ {k k' q q' ke ke' : TK} {x x' : DV} (h1 : k = k') (h2 : q = q') (h3 : ke = ke') (h4 : x = x') : vConvZ k q ke x K2 = vConvZ k' q' ke' x' K2 := by cases h1; cases h2; cases h3; cases h4; rfl
end
end
attribute [go_sem ↓] z_nil z_none z_make z_conv z_load z_move z_assign z_index z_field z_call
attribute [go_sem] z_vmake z_vconv isQZ
end Aml

namespace Go.Proofs.Ytkibkahknibgfaa
open Aml Go
set_option linter.unusedVariables false
set_option linter.unusedSimpArgs false
set_option maxRecDepth 100000

/-- A step. -/
structure Stp where
  key : ByteArray
  size : Int
  laid : Bool
@[go_sem] def dSt (s : Stp) : DV := .agg [dS s.key, dI s.size, dB s.laid]
def badP (L : Nat) (s : Stp) : Bool := eqS s.key ByteArray.empty || decide (16 < s.key.size) || decide (400 < s.size) || decide (120 < L)
def zeroS (z : Nat) : ByteArray := strOfNums (List.replicate z 0)
def emptyN : N := .mk 0 true []
/-- What a step does. -/
def stepN (q : N × N) (s : Stp) : N × N :=
  let q := if s.laid then ((markN q.1 2).1, (markN q.1 2).1) else q
  (if s.size < 0 then Del s.key q.1 else Put s.key (zeroS s.size.toNat) q.1, q.2)
def runN (l : List Stp) : N × N := l.foldl stepN (emptyN, emptyN)
/-- How far steps may be done. -/
def stopN (l : List Stp) : Nat := l.findIdx (badP l.length)
def resN (l : List Stp) : DV := .tup [eN (runN (l.take (stopN l))).1, eN (runN (l.take (stopN l))).2, dB (l.all (fun s => !badP l.length s))]
theorem zeroS_size (z : Nat) : (zeroS z).size = z := by
  unfold zeroS
  rw [strOfNums_size, List.length_replicate]
set_option maxHeartbeats 4000000 in
theorem emptyR (w0 : W0) (S : St) : ACall Try.prog w0 59 [] S (fun e S' => e = eN emptyN ∧ S' = S) := by
  refine fnS [] mx Try.func59 rfl rfl (by kernel_rfl) ?_; simp (maxDischargeDepth := 12) (maxSteps := 1000000) -implicitDefEqProofs only [Try.ntmps59, go_sem, Nat.reduceAdd, Nat.reduceSub, Nat.reduceMul, Nat.reduceLeDiff, Nat.reduceEqDiff, Nat.reduceGT, Nat.reduceBEq, reduceCtorEq, ↓reduceIte, Int.reduceToNat, Int.reduceLE, Int.reduceLT, Int.reduceNe, Int.reduceEq]
  intro b
  exact .agg (.cons (.refl _) (.cons (.refl _) (.cons (.nil _ _ _) .nil)))
set_option maxHeartbeats 4000000 in
theorem emptyP (w0 : W0) (S : St) : ACall Try.prog w0 41 [] S (fun e S' => e = eT emptyN ∧ S' = S) := by
  refine fnS [] mx Try.func41 rfl rfl (by kernel_rfl) ?_; simp (maxDischargeDepth := 12) (maxSteps := 1000000) -implicitDefEqProofs only [Try.ntmps41, go_sem, Nat.reduceAdd, Nat.reduceSub, Nat.reduceMul, Nat.reduceLeDiff, Nat.reduceEqDiff, Nat.reduceGT, Nat.reduceBEq, reduceCtorEq, ↓reduceIte, Int.reduceToNat, Int.reduceLE, Int.reduceLT, Int.reduceNe, Int.reduceEq]
  intro b
  exact .agg (.cons (.refl _) (.cons (.refl _) (.cons (.nil _ _ _) (.cons (.nil _ _ _) (.cons (.nil _ _ _) .nil)))))
theorem runN_succ {l : List Stp} {k : Nat} {c : Stp} (h : l[k]? = some c) : runN (l.take (k + 1)) = stepN (runN (l.take k)) c := by
  unfold runN
  rw [List.take_add_one, h, Option.toList_some, List.foldl_append]; rfl
/-- A tree that steps may come to. -/
def StOk (k : Nat) (n : N) : Prop := ∃ d, d ≤ k ∧ Nd d n ∧ totN n ≤ 125 * k
theorem StOk.mono {k m : Nat} {n : N} (h : StOk k n) (hm : k ≤ m) : StOk m n := by
  obtain ⟨d, h1, h2, h3⟩ := h
  exact ⟨d, by omega, h2, by omega⟩
theorem StOk.mark {k : Nat} {n : N} (h : StOk k n) (f : Int) : StOk k (markN n f).1 := by
  obtain ⟨d, h1, h2, h3⟩ := h
  exact ⟨d, h1, nd_mark f h2, by rw [tot_mark f h2]; exact h3⟩
theorem ok_empty : StOk 0 emptyN := ⟨0, Nat.le_refl _, ⟨rfl, fun c hc => by cases hc⟩, Nat.le_refl _⟩
theorem bad_no {L : Nat} {s : Stp} (h : (!badP L s) = true) : eqS s.key ByteArray.empty = false ∧ s.key.size ≤ 16 ∧ s.size ≤ 400 ∧ L ≤ 120 := by
  unfold badP at h
  simp only [Bool.not_eq_true', Bool.or_eq_false_iff, decide_eq_false_iff_not] at h
  exact ⟨h.1.1.1, by omega, by omega, by omega⟩
theorem ok_step {k : Nat} {q : N × N} {s : Stp} (hk : k ≤ 120) (h1 : StOk k q.1) (h2 : StOk k q.2) (hs : s.key.size ≤ 16) (hz : s.size ≤ 400) : StOk (k + 1) (stepN q s).1 ∧ StOk (k + 1) (stepN q s).2 := by
  have hq : StOk k (if s.laid then ((markN q.1 2).1, (markN q.1 2).1) else q).1 ∧ StOk k (if s.laid then ((markN q.1 2).1, (markN q.1 2).1) else q).2 := by
    split
    · exact ⟨h1.mark 2, h1.mark 2⟩
    · exact ⟨h1, h2⟩
  unfold stepN
  generalize (if s.laid then ((markN q.1 2).1, (markN q.1 2).1) else q) = p at hq
  refine ⟨?_, hq.2.mono (by omega)⟩
  obtain ⟨d, a1, a2, a3⟩ := hq.1
  simp only
  split
  · obtain ⟨d', b1, b2, b3⟩ := nd_Del (key := s.key) a2
    exact ⟨d', by omega, b2, by omega⟩
  · obtain ⟨d', b1, b2, b3⟩ := nd_Put (key := s.key) (val := zeroS s.size.toNat) hs (by rw [zeroS_size]; omega) a2
    exact ⟨d', by omega, b2, by omega⟩
theorem run_ok {L : Nat} {l : List Stp} (hL : l.length ≤ 120) : ∀ k, k ≤ l.length → (l.take k).all (fun s => !badP L s) = true → StOk k (runN (l.take k)).1 ∧ StOk k (runN (l.take k)).2
  | 0, _, _ => by rw [List.take_zero]; exact ⟨ok_empty, ok_empty⟩
  | k + 1, hk, ha => by
    have hx : l[k]? = some l[k] := List.getElem?_eq_getElem (by omega)
    rw [List.take_add_one, hx, Option.toList_some, List.all_append, Bool.and_eq_true] at ha
    obtain ⟨h1, h2⟩ := run_ok hL k (by omega) ha.1
    have hb := bad_no (L := L) (s := l[k]) (by simpa using ha.2)
    rw [runN_succ hx]
    exact ok_step (by omega) h1 h2 hb.2.1 hb.2.2.1
theorem stop_bad {l : List Stp} {k : Nat} {c : Stp} (hc : l[k]? = some c) (hb : badP l.length c = true) (h : (l.take k).all (fun s => !badP l.length s) = true) : stopN l = k := by
  obtain ⟨hlt, rfl⟩ := List.getElem?_eq_some_iff.1 hc
  refine (List.findIdx_eq hlt).2 ⟨hb, fun j hj => ?_⟩
  have := List.all_eq_true.1 h l[j] (List.mem_iff_getElem?.2 ⟨j, by rw [List.getElem?_take, if_pos hj]; exact List.getElem?_eq_getElem _⟩)
  simpa using this
theorem stop_all {l : List Stp} (h : l.all (fun s => !badP l.length s) = true) : stopN l = l.length := List.findIdx_eq_length_of_false fun x hx => by
  have := List.all_eq_true.1 h x hx
  simpa using this
theorem res_bad {l : List Stp} {k : Nat} {c : Stp} (hc : l[k]? = some c) (h : (l.take k).all (fun s => !badP l.length s) = true) (hb : badP l.length c = true) : resN l = .tup [eN (runN (l.take k)).1, eN (runN (l.take k)).2, dB false] := by
  unfold resN
  rw [stop_bad hc hb h, show l.all (fun s => !badP l.length s) = false from ?_]
  rw [← Bool.not_eq_true]
  intro h
  have := List.all_eq_true.1 h c (List.mem_of_getElem? hc)
  rw [hb] at this; cases this
theorem res_all {l : List Stp} (h : l.all (fun s => !badP l.length s) = true) : resN l = .tup [eN (runN l).1, eN (runN l).2, dB true] := by
  unfold resN
  rw [stop_all h, List.take_length, h]
/-- Steps may all be done, or some. -/
theorem res_or (l : List Stp) : (l.all (fun s => !badP l.length s) = true ∧ resN l = .tup [eN (runN l).1, eN (runN l).2, dB true]) ∨ ∃ q : N × N, StOk 120 q.1 ∧ StOk 120 q.2 ∧ resN l = .tup [eN q.1, eN q.2, dB false] := by
  cases h : l.all (fun s => !badP l.length s) with
  | true => exact .inl ⟨rfl, res_all h⟩
  | false =>
    refine .inr ⟨runN (l.take (stopN l)), ?_⟩
    have hle : stopN l ≤ l.length := List.findIdx_le_length
    have htk : (l.take (stopN l)).all (fun s => !badP l.length s) = true := List.all_eq_true.2 fun x hx => by
      obtain ⟨j, hj⟩ := List.mem_iff_getElem?.1 hx
      rw [List.getElem?_take] at hj
      split at hj
      · rename_i hjs
        obtain ⟨hjl, rfl⟩ := List.getElem?_eq_some_iff.1 hj
        have := List.not_of_lt_findIdx (xs := l) (p := badP l.length) hjs
        simpa using this
      · cases hj
    have hL : stopN l = 0 ∨ l.length ≤ 120 := by
      cases l with
      | nil => exact .inr (by simp)
      | cons a l =>
        by_cases h0 : stopN (a :: l) = 0
        · exact .inl h0
        · obtain ⟨m, hm⟩ := Nat.exists_eq_succ_of_ne_zero h0
          rw [hm, Nat.succ_eq_add_one, List.take_succ_cons, List.all_cons, Bool.and_eq_true] at htk
          exact .inr (bad_no htk.1).2.2.2
    have hr : resN l = .tup [eN (runN (l.take (stopN l))).1, eN (runN (l.take (stopN l))).2, dB false] := by unfold resN; rw [h]
    rcases hL with h0 | hL
    · rw [h0] at hr ⊢
      exact ⟨ok_empty.mono (by omega), ok_empty.mono (by omega), hr⟩
    · obtain ⟨h1, h2⟩ := run_ok hL (stopN l) hle htk
      exact ⟨h1.mono (by omega), h2.mono (by omega), hr⟩
set_option maxHeartbeats 16000000 in
theorem builtW (w0 : W0) (l : List Stp) (S : St) (h0 : l.length ≤ 1048576) : ACall Try.prog w0 28 [.sl 3 false (l.map dSt)] S (fun e S' => e = resN l ∧ S' = S) := by
  refine fnS [7, 12, 14, 15] mx Try.func28 rfl rfl (by kernel_rfl) ?_; simp (maxDischargeDepth := 12) (maxSteps := 1000000) -implicitDefEqProofs only [Try.ntmps28, go_sem, Nat.reduceAdd, Nat.reduceSub, Nat.reduceMul, Nat.reduceLeDiff, Nat.reduceEqDiff, Nat.reduceGT, Nat.reduceBEq, reduceCtorEq, ↓reduceIte, Int.reduceToNat, Int.reduceLE, Int.reduceLT, Int.reduceNe, Int.reduceEq]
  intro b b1
  refine use1 (emptyR w0 _) ?_
  simp (maxDischargeDepth := 12) (maxSteps := 1000000) -implicitDefEqProofs only [go_sem, Nat.reduceAdd, Nat.reduceSub, Nat.reduceMul, Nat.reduceLeDiff, Nat.reduceEqDiff, Nat.reduceGT, Nat.reduceBEq, reduceCtorEq, ↓reduceIte, Int.reduceToNat, Int.reduceLE, Int.reduceLT, Int.reduceNe, Int.reduceEq]
  intro b2 b3
  refine loopK [7, 12, 14, 15] [0, 2, 3, 5, 6, 7] (fun s : Nat × N × N => [(7, dI s.1)]) (fun s => ⟨(b3.n, [dI s.2.2.page, dB s.2.2.leaf, .sl 4 false (s.2.2.l.map dC)]) :: (b2.n, [dI s.2.1.page, dB s.2.1.leaf, .sl 4 false (s.2.1.l.map dC)]) :: (b1.n, [dI 0, dB false, .sl 0 true []]) :: (b.n, [dI 0, dB false, .sl 0 true []]) :: S.box, S.acc⟩) (fun s => s.1 ≤ l.length ∧ (l.take s.1).all (fun s => !badP l.length s) = true ∧ s.2 = runN (l.take s.1)) (fun s => l.length - s.1) (0, emptyN, emptyN) mx (by kernel_rfl) ?_ ?_
  · simp (maxDischargeDepth := 12) (maxSteps := 1000000) -implicitDefEqProofs only [go_sem, Nat.reduceAdd, Nat.reduceSub, Nat.reduceMul, Nat.reduceLeDiff, Nat.reduceEqDiff, Nat.reduceGT, Nat.reduceBEq, reduceCtorEq, ↓reduceIte, Int.reduceToNat, Int.reduceLE, Int.reduceLT, Int.reduceNe, Int.reduceEq]
    exact ⟨Nat.zero_le _, rfl⟩
  · rintro ⟨k, n, old⟩ ⟨h1, h2, h3⟩
    simp only at h1 h2 h3
    have he0 : (⟨#[]⟩ : ByteArray) = ByteArray.empty := rfl
    rcases Nat.lt_or_ge k l.length with hlt | hge
    · obtain ⟨c, hc⟩ : ∃ c, l[k]? = some c := ⟨_, List.getElem?_eq_getElem hlt⟩
      have hk1 : IntKind.i64.wrap ((k : Int) + 1) = ((k + 1 : Nat) : Int) := by rw [w64 (by omega) (by omega)]; omega
      simp (maxDischargeDepth := 12) (maxSteps := 1000000) -implicitDefEqProofs only [go_sem, Nat.reduceAdd, Nat.reduceSub, Nat.reduceMul, Nat.reduceLeDiff, Nat.reduceEqDiff, Nat.reduceGT, Nat.reduceBEq, reduceCtorEq, ↓reduceIte, Int.reduceToNat, Int.reduceLE, Int.reduceLT, Int.reduceNe, Int.reduceEq, hc, hlt, he0]
      have hbad : badP l.length c = true → resN l = .tup [eN n, eN old, dB false] := fun hb => by
        have := res_bad hc h2 hb
        rwa [← h3] at this
      refine ⟨fun e1 => ?_, fun e1 => ⟨fun e2 => ?_, fun e2 => ⟨fun e3 => ?_, fun e3 => ⟨fun e4 => ?_, fun e4 => ?_⟩⟩⟩⟩
      iterate 4
        · rw [hbad (by unfold badP; first | (simp [e1]; done) | (simp only [Bool.or_eq_true, decide_eq_true_eq]; omega))]
          refine allK (.both (.both (.head (.head (.head .leaf))) (.head (.head (.head .leaf)))) (.head (.head (.head (.head .leaf))))) mx (by kernel_rfl) ?_
          simp (maxDischargeDepth := 12) (maxSteps := 1000000) -implicitDefEqProofs only [go_sem, Nat.reduceAdd, Nat.reduceSub, Nat.reduceMul, Nat.reduceLeDiff, Nat.reduceEqDiff, Nat.reduceGT, Nat.reduceBEq, reduceCtorEq, ↓reduceIte, Int.reduceToNat, Int.reduceLE, Int.reduceLT, Int.reduceNe, Int.reduceEq]
      have hst := run_ok (L := l.length) (by omega) k h1 h2
      rw [← h3] at hst
      obtain ⟨⟨d, d1, d2, d3⟩, hold⟩ := hst
      simp only at d2 d3
      have hall : (l.take (k + 1)).all (fun s => !badP l.length s) = true := by
        rw [List.take_add_one, hc, Option.toList_some, List.all_append, h2]
        simp only [List.all_cons, List.all_nil, Bool.and_true, Bool.true_and]
        unfold badP
        simp only [e1, Bool.false_or, Bool.not_eq_true', Bool.or_eq_false_iff, decide_eq_false_iff_not]
        omega
      have hrun := runN_succ hc
      rw [← h3] at hrun
      refine ⟨fun e5 => ?_, fun e5 => ?_⟩
      · refine use1 (markedW w0 d n 2 _ d2 (by omega) (by omega) (by omega)) ?_
        simp (maxDischargeDepth := 12) (maxSteps := 1000000) -implicitDefEqProofs only [go_sem, Nat.reduceAdd, Nat.reduceSub, Nat.reduceMul, Nat.reduceLeDiff, Nat.reduceEqDiff, Nat.reduceGT, Nat.reduceBEq, reduceCtorEq, ↓reduceIte, Int.reduceToNat, Int.reduceLE, Int.reduceLT, Int.reduceNe, Int.reduceEq, hc, hlt]
        have hstep : stepN (n, old) c = (if c.size < 0 then Del c.key (markN n 2).1 else Put c.key (zeroS c.size.toNat) (markN n 2).1, (markN n 2).1) := by unfold stepN; rw [e5]; rfl
        have d2 := nd_mark 2 d2
        have d3 : totN (markN n 2).1 ≤ 125 * k := by rw [tot_mark 2 (by assumption)]; exact d3
        generalize (markN n 2).1 = n1 at *
        refine ⟨fun e6 => ?_, fun e6 => ?_⟩
        · refine lexK mx (by kernel_rfl) ?_
          simp (maxDischargeDepth := 12) (maxSteps := 1000000) -implicitDefEqProofs only [go_sem, Nat.reduceAdd, Nat.reduceSub, Nat.reduceMul, Nat.reduceLeDiff, Nat.reduceEqDiff, Nat.reduceGT, Nat.reduceBEq, reduceCtorEq, ↓reduceIte, Int.reduceToNat, Int.reduceLE, Int.reduceLT, Int.reduceNe, Int.reduceEq, hc, hlt]
          refine useX (fun B hB => DelW w0 c.key d n1 _ d2 (by omega)) ?_
          simp (maxDischargeDepth := 12) (maxSteps := 1000000) -implicitDefEqProofs only [go_sem, Nat.reduceAdd, Nat.reduceSub, Nat.reduceMul, Nat.reduceLeDiff, Nat.reduceEqDiff, Nat.reduceGT, Nat.reduceBEq, reduceCtorEq, ↓reduceIte, Int.reduceToNat, Int.reduceLE, Int.reduceLT, Int.reduceNe, Int.reduceEq]
          intro b4
          refine ⟨(k + 1, Del c.key n1, n1), ⟨hlt, hall, ?_⟩, by simp only; omega, hk1, .consB (.refl _)⟩
          simp only
          rw [hrun, hstep, if_pos e6]
        · refine makeK mx (by kernel_rfl) ?_
          simp (maxDischargeDepth := 12) (maxSteps := 1000000) -implicitDefEqProofs only [go_sem, Nat.reduceAdd, Nat.reduceSub, Nat.reduceMul, Nat.reduceLeDiff, Nat.reduceEqDiff, Nat.reduceGT, Nat.reduceBEq, reduceCtorEq, ↓reduceIte, Int.reduceToNat, Int.reduceLE, Int.reduceLT, Int.reduceNe, Int.reduceEq, hc, hlt]
          refine ⟨by omega, by omega, by omega, useQ (PutW w0 c.key (zeroS c.size.toNat) (bad_no (L := l.length) (List.all_eq_true.1 hall c (by rw [List.take_add_one, hc]; simp))).2.1 (by rw [zeroS_size]; omega) d n1 _ d2 (by omega)) ?_⟩
          simp (maxDischargeDepth := 12) (maxSteps := 1000000) -implicitDefEqProofs only [go_sem, Nat.reduceAdd, Nat.reduceSub, Nat.reduceMul, Nat.reduceLeDiff, Nat.reduceEqDiff, Nat.reduceGT, Nat.reduceBEq, reduceCtorEq, ↓reduceIte, Int.reduceToNat, Int.reduceLE, Int.reduceLT, Int.reduceNe, Int.reduceEq]
          refine ⟨(k + 1, Put c.key (zeroS c.size.toNat) n1, n1), ⟨hlt, hall, ?_⟩, by simp only; omega, hk1, .refl _⟩
          simp only
          rw [hrun, hstep, if_neg e6]
      · have hstep : stepN (n, old) c = (if c.size < 0 then Del c.key n else Put c.key (zeroS c.size.toNat) n, old) := by unfold stepN; rw [e5]; rfl
        generalize n = n1 at *
        refine ⟨fun e6 => ?_, fun e6 => ?_⟩
        · refine lexK mx (by kernel_rfl) ?_
          simp (maxDischargeDepth := 12) (maxSteps := 1000000) -implicitDefEqProofs only [go_sem, Nat.reduceAdd, Nat.reduceSub, Nat.reduceMul, Nat.reduceLeDiff, Nat.reduceEqDiff, Nat.reduceGT, Nat.reduceBEq, reduceCtorEq, ↓reduceIte, Int.reduceToNat, Int.reduceLE, Int.reduceLT, Int.reduceNe, Int.reduceEq, hc, hlt]
          refine useX (fun B hB => DelW w0 c.key d n1 _ d2 (by omega)) ?_
          simp (maxDischargeDepth := 12) (maxSteps := 1000000) -implicitDefEqProofs only [go_sem, Nat.reduceAdd, Nat.reduceSub, Nat.reduceMul, Nat.reduceLeDiff, Nat.reduceEqDiff, Nat.reduceGT, Nat.reduceBEq, reduceCtorEq, ↓reduceIte, Int.reduceToNat, Int.reduceLE, Int.reduceLT, Int.reduceNe, Int.reduceEq]
          intro b4
          refine ⟨(k + 1, Del c.key n1, old), ⟨hlt, hall, ?_⟩, by simp only; omega, hk1, .consB (.refl _)⟩
          simp only
          rw [hrun, hstep, if_pos e6]
        · refine makeK mx (by kernel_rfl) ?_
          simp (maxDischargeDepth := 12) (maxSteps := 1000000) -implicitDefEqProofs only [go_sem, Nat.reduceAdd, Nat.reduceSub, Nat.reduceMul, Nat.reduceLeDiff, Nat.reduceEqDiff, Nat.reduceGT, Nat.reduceBEq, reduceCtorEq, ↓reduceIte, Int.reduceToNat, Int.reduceLE, Int.reduceLT, Int.reduceNe, Int.reduceEq, hc, hlt]
          refine ⟨by omega, by omega, by omega, useQ (PutW w0 c.key (zeroS c.size.toNat) (bad_no (L := l.length) (List.all_eq_true.1 hall c (by rw [List.take_add_one, hc]; simp))).2.1 (by rw [zeroS_size]; omega) d n1 _ d2 (by omega)) ?_⟩
          simp (maxDischargeDepth := 12) (maxSteps := 1000000) -implicitDefEqProofs only [go_sem, Nat.reduceAdd, Nat.reduceSub, Nat.reduceMul, Nat.reduceLeDiff, Nat.reduceEqDiff, Nat.reduceGT, Nat.reduceBEq, reduceCtorEq, ↓reduceIte, Int.reduceToNat, Int.reduceLE, Int.reduceLT, Int.reduceNe, Int.reduceEq]
          refine ⟨(k + 1, Put c.key (zeroS c.size.toNat) n1, old), ⟨hlt, hall, ?_⟩, by simp only; omega, hk1, .refl _⟩
          simp only
          rw [hrun, hstep, if_neg e6]
    · have hnl : ¬ k < l.length := by omega
      have hkl : k = l.length := by omega
      simp (maxDischargeDepth := 12) (maxSteps := 1000000) -implicitDefEqProofs only [go_sem, Nat.reduceAdd, Nat.reduceSub, Nat.reduceMul, Nat.reduceLeDiff, Nat.reduceEqDiff, Nat.reduceGT, Nat.reduceBEq, reduceCtorEq, ↓reduceIte, Int.reduceToNat, Int.reduceLE, Int.reduceLT, Int.reduceNe, Int.reduceEq, hnl]
      refine allK (.both (.both (.head (.head (.head .leaf))) (.head (.head (.head .leaf)))) (.head (.head (.head (.head .leaf))))) mx (by kernel_rfl) ?_
      simp (maxDischargeDepth := 12) (maxSteps := 1000000) -implicitDefEqProofs only [go_sem, Nat.reduceAdd, Nat.reduceSub, Nat.reduceMul, Nat.reduceLeDiff, Nat.reduceEqDiff, Nat.reduceGT, Nat.reduceBEq, reduceCtorEq, ↓reduceIte, Int.reduceToNat, Int.reduceLE, Int.reduceLT, Int.reduceNe, Int.reduceEq]
      rw [hkl, List.take_length] at h2 h3
      have hres : resN l = .tup [eN n, eN old, dB true] := by
        have := res_all h2
        rwa [← h3] at this
      rw [hres]
      exact .refl _
end Go.Proofs.Ytkibkahknibgfaa

namespace Aml.Z
open Go Go.RowKit
set_option linter.unusedVariables false
set_option linter.unusedSimpArgs false

/-- 0: looks at no store; 1: reads; 2: makes a box; 3: else. -/
def kX : Op → Nat
  | .load .. => 1
  | .alloc _ => 2
  | .call c => match c.callee with
    | .value _ => 1
    | .builtin .len => 0
    | .builtin .cap => 0
    | .builtin .min => 0
    | .builtin .max => 0
    | _ => 3
  | .move _ => 0
  | .assign _ => 0
  | .pick .. => 0
  | .fieldAddr .. => 0
  | .indexAddr .. => 0
  | .index .. => 0
  | .field .. => 0
  | .extract .. => 0
  | .nilCheck _ => 0
  | .binOp .. => 0
  | .unOp .. => 0
  | .convert .. => 0
  | .makeInterface .. => 0
  | .makeFunc .. => 0
  | .slice .. => 0
  | .build .. => 0
  | .buildSlice .. => 0
  | .makeSlice .. => 0
  | _ => 3
def Fr (S : St) (B : List (Nat × List DV)) : Prop := ∀ x, x ∈ B → nin S.box x.1
def bodyX (P : Program) (w0 : W0) (o : Oper) (fr : List DV) (S : St) (K : List DV → St → Prop) : Prop :=
  (kX o.op = 0 ∧ ∃ d, (∀ S', QY P w0 S' o fr d) ∧ K (pt fr o.dst d) S) ∨
  (kX o.op = 1 ∧ ∃ d, (∀ B, Fr S B → QY P w0 ⟨B ++ S.box, S.acc⟩ o fr d) ∧ K (pt fr o.dst d) S) ∨
  (kX o.op = 2 ∧ ∃ t, o.op = .alloc t ∧ okE (zD P t) = true ∧ ∀ b, nin S.box b → K (pt fr o.dst (.v (.pointer (some ⟨b, 0, none⟩)))) ⟨(b, cd (zD P t)) :: S.box, S.acc⟩) ∨
  (kX o.op = 3 ∧ YieldsE P w0 o (ev fr) S fun d S' => K (pt fr o.dst d) S')
def tauX (P : Program) (w0 : W0) (ops : Array Oper) (o : Oper) (fr : List DV) (S : St) (K : List DV → St → Prop) : Prop :=
  (wantB ops fr o.guard = some true ∧ bodyX P w0 o fr S K) ∨ (wantB ops fr o.guard = some false ∧ K (pt fr o.dst ud) S)
/-- May two that have no order change places? -/
def okP (a b : Nat) : Bool := a == 0 || (a == 1 && decide (b < 3))

section
variable {P : Program} {w0 : W0} {ops : Array Oper} {md : Region.Mode}
theorem bodyX_mono {o : Oper} {fr : List DV} {S : St} {K K' : List DV → St → Prop} (h : ∀ fr S, K fr S → K' fr S) (b : bodyX P w0 o fr S K) : bodyX P w0 o fr S K' := by
  rcases b with ⟨c, d, q, k⟩ | ⟨c, d, q, k⟩ | ⟨c, t, ht, hz, k⟩ | ⟨c, q⟩
  · exact .inl ⟨c, d, q, h _ _ k⟩
  · exact .inr (.inl ⟨c, d, q, h _ _ k⟩)
  · exact .inr (.inr (.inl ⟨c, t, ht, hz, fun b hb => h _ _ (k b hb)⟩))
  · exact .inr (.inr (.inr ⟨c, yields_mono (fun d S hk => h _ _ hk) q⟩))
theorem tauX_mono {o : Oper} {fr : List DV} {S : St} {K K' : List DV → St → Prop} (h : ∀ fr S, K fr S → K' fr S) (b : tauX P w0 ops o fr S K) : tauX P w0 ops o fr S K' :=
  b.imp (fun ⟨a, b⟩ => ⟨a, bodyX_mono h b⟩) fun ⟨a, b⟩ => ⟨a, h _ _ b⟩
/-- What another one puts elsewhere is not seen. -/
theorem bodyX_put {o : Oper} {fr : List DV} {S : St} {K : List DV → St → Prop} {dst : Option Tmp} {e : DV} (h1 : ∀ t, dst = some t → t ∉ o.looksAt ops) (h2 : ∀ t, dst = some t → o.dst ≠ some t) :
    bodyX P w0 o (pt fr dst e) S K ↔ bodyX P w0 o fr S fun fr' S' => K (pt fr' dst e) S' := by
  have hq : ∀ S d, QY P w0 S o (pt fr dst e) d ↔ QY P w0 S o fr d := fun S d =>
    ⟨yields_congr (fun x hx => ev_put (ops := ops) h1 x hx), yields_congr (fun x hx => (ev_put (ops := ops) h1 x hx).symm)⟩
  have hc : ∀ d, pt (pt fr dst e) o.dst d = pt (pt fr o.dst d) dst e := fun d => pt_comm fr e d h2
  have hy : ∀ K, YieldsE P w0 o (ev (pt fr dst e)) S K ↔ YieldsE P w0 o (ev fr) S K := fun K =>
    ⟨yields_congr (fun x hx => ev_put (ops := ops) h1 x hx), yields_congr (fun x hx => (ev_put (ops := ops) h1 x hx).symm)⟩
  unfold bodyX
  simp only [hq, hc, hy]
theorem tauX_put {o : Oper} {fr : List DV} {S : St} {K : List DV → St → Prop} {dst : Option Tmp} {e : DV} (h1 : ∀ t, dst = some t → t ∉ o.looksAt ops) (h2 : ∀ t, dst = some t → o.dst ≠ some t) :
    tauX P w0 ops o (pt fr dst e) S K ↔ tauX P w0 ops o fr S fun fr' S' => K (pt fr' dst e) S' := by
  unfold tauX
  rw [want_put h1, bodyX_put h1 h2, pt_comm fr e ud h2]
theorem bodyX_monoP {o : Oper} {fr : List DV} {S : St} {K K' : List DV → St → Prop} (h : ∀ e S, K (pt fr o.dst e) S → K' (pt fr o.dst e) S) (b : bodyX P w0 o fr S K) : bodyX P w0 o fr S K' := by
  rcases b with ⟨c, d, q, k⟩ | ⟨c, d, q, k⟩ | ⟨c, t, ht, hz, k⟩ | ⟨c, q⟩
  · exact .inl ⟨c, d, q, h _ _ k⟩
  · exact .inr (.inl ⟨c, d, q, h _ _ k⟩)
  · exact .inr (.inr (.inl ⟨c, t, ht, hz, fun b hb => h _ _ (k b hb)⟩))
  · exact .inr (.inr (.inr ⟨c, yields_mono (fun d S hk => h _ _ hk) q⟩))
theorem tauX_monoP {o : Oper} {fr : List DV} {S : St} {K K' : List DV → St → Prop} (h : ∀ e S, K (pt fr o.dst e) S → K' (pt fr o.dst e) S) (b : tauX P w0 ops o fr S K) : tauX P w0 ops o fr S K' :=
  b.imp (fun ⟨a, b⟩ => ⟨a, bodyX_monoP h b⟩) fun ⟨a, b⟩ => ⟨a, h _ _ b⟩
/-- Two that are apart change places. -/
theorem tauX_comm {x y : Oper} (hap : x.apart ops y = true) (hk : okP (kX x.op) (kX y.op) = true) {fr : List DV} {S : St} {K : List DV → St → Prop} (h : tauX P w0 ops x fr S fun fr S => tauX P w0 ops y fr S K) :
    tauX P w0 ops y fr S fun fr S => tauX P w0 ops x fr S K := by
  obtain ⟨b1, b2, b3⟩ := Oper.apart_spec hap
  have hw : ∀ e, wantB ops (pt fr y.dst e) x.guard = wantB ops fr x.guard := fun e => want_put b3
  have hq : ∀ {S d e}, QY P w0 S x fr d → QY P w0 S x (pt fr y.dst e) d := fun {S d e} q => yields_congr (fun z hz => (ev_put (ops := ops) b3 z hz).symm) q
  rcases h with ⟨hg, hb⟩ | ⟨hg, hb⟩
  · rcases hb with ⟨c, d, q, k⟩ | ⟨c, d, q, k⟩ | ⟨c, -⟩ | ⟨c, -⟩
    · rw [tauX_put b1 b2] at k
      exact tauX_monoP (fun e S' hk => .inl ⟨by rw [hw]; exact hg, .inl ⟨c, d, fun S'' => hq (q S''), hk⟩⟩) k
    · rw [tauX_put b1 b2] at k
      rcases k with ⟨g2, k⟩ | ⟨g2, k⟩
      · rcases k with ⟨c2, d2, q2, k⟩ | ⟨c2, d2, q2, k⟩ | ⟨c2, t, ht, hz, k⟩ | ⟨c2, -⟩
        · exact .inl ⟨g2, .inl ⟨c2, d2, q2, .inl ⟨by rw [hw]; exact hg, .inr (.inl ⟨c, d, fun B hB => hq (q B hB), k⟩)⟩⟩⟩
        · exact .inl ⟨g2, .inr (.inl ⟨c2, d2, q2, .inl ⟨by rw [hw]; exact hg, .inr (.inl ⟨c, d, fun B hB => hq (q B hB), k⟩)⟩⟩)⟩
        · refine .inl ⟨g2, .inr (.inr (.inl ⟨c2, t, ht, hz, fun b hb => .inl ⟨by rw [hw]; exact hg, .inr (.inl ⟨c, d, fun B hB => hq ?_, k b hb⟩)⟩⟩))⟩
          have := q (B ++ [(b, cd (zD P t))]) fun z hz' => by
            rcases List.mem_append.1 hz' with h | h
            · exact (hB z h).2.2
            · simp only [List.mem_singleton] at h; subst h; exact hb
          rw [List.append_assoc] at this
          exact this
        · rw [c, c2] at hk; exact absurd hk (by decide)
      · exact .inr ⟨g2, .inl ⟨by rw [hw]; exact hg, .inr (.inl ⟨c, d, fun B hB => hq (q B hB), k⟩)⟩⟩
    · rw [c] at hk; simp [okP] at hk
    · rw [c] at hk; simp [okP] at hk
  · rw [tauX_put b1 b2] at hb
    exact tauX_monoP (fun e S' hk => .inr ⟨by rw [hw]; exact hg, hk⟩) hb

def tauI (P : Program) (w0 : W0) (ops : Array Oper) (i : Nat) (fr : List DV) (S : St) (K : List DV → St → Prop) : Prop := match ops[i]? with
  | none => K fr S
  | some o => tauX P w0 ops o fr S K
def wpX (P : Program) (w0 : W0) (md : Region.Mode) (ops : Array Oper) (K : List DV → St → Prop) : Nat → Array Bool → List DV → St → Prop
  | 0, listed, fr, S => Region.ready md ops listed = [] ∧ K fr S
  | fuel + 1, listed, fr, S => (Region.ready md ops listed = [] → K fr S) ∧ ∀ i ∈ Region.ready md ops listed, tauI P w0 ops i fr S (wpX P w0 md ops K fuel (listed.setIfInBounds i true))
theorem tauI_mono {i : Nat} {fr : List DV} {S : St} {K K' : List DV → St → Prop} (h : ∀ fr S, K fr S → K' fr S) (b : tauI P w0 ops i fr S K) : tauI P w0 ops i fr S K' := by
  unfold tauI at *
  split
  · rename_i ho; simp only [ho] at b; exact h _ _ b
  · rename_i o ho; simp only [ho] at b; exact tauX_mono h b
theorem wpX_first {K : List DV → St → Prop} {i : Nat} {oi : Oper} (hi : ops[i]? = some oi) :
    ∀ (fuel : Nat) (listed : Array Bool) (fr : List DV) (S : St),
      (∀ j oj, ops[j]? = some oj → j ≠ i → listed.getD j true = false → (∀ e ∈ oj.after, Region.binds md e = true → e.on ≠ i) → oi.apart ops oj = true ∧ okP (kX oi.op) (kX oj.op) = true) →
      (∀ l : List Nat, l.Nodup → (∀ k, k ∈ l → listed.getD k true = false) → l.length ≤ fuel + 1) →
      i ∈ Region.ready md ops listed → tauX P w0 ops oi fr S (wpX P w0 md ops K fuel (listed.setIfInBounds i true)) → wpX P w0 md ops K (fuel + 1) listed fr S := by
  intro fuel
  induction fuel with
  | zero =>
    intro listed fr S _ hcnt hr H
    refine ⟨fun h => (by rw [h] at hr; cases hr), fun j hj => ?_⟩
    by_cases hji : j = i
    · subst hji; unfold tauI; simp only [hi]; exact H
    · exfalso
      have := hcnt [i, j] (by simp [Ne.symm hji]) fun k hk => by
        simp only [List.mem_cons, List.not_mem_nil, or_false] at hk
        rcases hk with rfl | rfl
        · exact (mem_ready.1 hr).1
        · exact (mem_ready.1 hj).1
      simp at this
  | succ fuel ih =>
    intro listed fr S hfree hcnt hr H
    refine ⟨fun h => (by rw [h] at hr; cases hr), fun j hj => ?_⟩
    by_cases hji : j = i
    · subst hji; unfold tauI; simp only [hi]; exact H
    · obtain ⟨hjun, oj, hoj, hall⟩ := mem_ready.1 hj
      have hnot : ∀ e ∈ oj.after, Region.binds md e = true → e.on ≠ i := fun e he hb heq => by
        have h1 := hall e he hb
        have h0 := (mem_ready.1 hr).1
        rw [heq] at h1
        rcases Nat.lt_or_ge i listed.size with h' | h'
        · simp [h'] at h0 h1; rw [h0] at h1; cases h1
        · simp [Array.getElem?_eq_none h'] at h1
      have h1 : tauX P w0 ops oi fr S fun fr S => tauX P w0 ops oj fr S (wpX P w0 md ops K fuel ((listed.setIfInBounds i true).setIfInBounds j true)) :=
        tauX_mono (fun fr S h => by
          have := h.2 j (ready_mono hj hji)
          unfold tauI at this; simp only [hoj] at this; exact this) H
      have hc := hfree j oj hoj hji hjun hnot
      have h2 := tauX_comm hc.1 hc.2 h1
      have hfree' : ∀ k ok, ops[k]? = some ok → k ≠ i → (listed.setIfInBounds j true).getD k true = false →
          (∀ e ∈ ok.after, Region.binds md e = true → e.on ≠ i) → oi.apart ops ok = true ∧ okP (kX oi.op) (kX ok.op) = true := fun k ok hk hki hun hno => by
        refine hfree k ok hk hki ?_ hno
        by_cases hjk : j = k
        · subst hjk; exact hjun
        · rw [getD_set_ne true hjk] at hun; exact hun
      unfold tauI
      simp only [hoj]
      have hcnt' : ∀ l : List Nat, l.Nodup → (∀ k, k ∈ l → (listed.setIfInBounds j true).getD k true = false) → l.length ≤ fuel + 1 := by
        intro l hn hl
        have hjs : j < listed.size := by
          rcases Nat.lt_or_ge j listed.size with h | h
          · exact h
          · rw [Array.getD_eq_getD_getElem?, Array.getElem?_eq_none h] at hjun; cases hjun
        have hjl : j ∉ l := fun hj => by
          have := hl j hj
          rw [Array.getD_eq_getD_getElem?, Array.getElem?_setIfInBounds] at this
          simp [hjs] at this
        have := hcnt (j :: l) (List.nodup_cons.2 ⟨hjl, hn⟩) fun k hk => by
          rcases List.mem_cons.1 hk with rfl | hk
          · exact hjun
          · have := hl k hk
            rw [getD_set_ne true (show j ≠ k from fun e => hjl (e ▸ hk))] at this
            exact this
        simp at this; omega
      refine tauX_mono (fun fr S h => ih (listed.setIfInBounds j true) fr S hfree' hcnt' (ready_mono hr (Ne.symm hji)) ?_) h2
      rw [Array.setIfInBounds_comm _ _ hji]
      exact h
/-- Is an operation free to come first? -/
def freeX (md : Region.Mode) (ops : Array Oper) (listed : Array Bool) (i : Nat) : Bool := (List.range ops.size).all fun j => match ops[i]?, ops[j]? with
  | some oi, some oj => j == i || listed.getD j true || oj.after.any (fun e => Region.binds md e && e.on == i) || (oi.apart ops oj && okP (kX oi.op) (kX oj.op))
  | _, _ => false
def lexX (md : Region.Mode) (ops : Array Oper) : Nat → Nat → Array Bool → Bool
  | 0, _, listed => (Region.ready md ops listed).isEmpty
  | n + 1, k, listed => (Region.ready md ops listed).contains k && freeX md ops listed k && lexX md ops n (k + 1) (listed.setIfInBounds k true)
theorem freeX_spec {listed : Array Bool} {i : Nat} {oi : Oper} (hi : ops[i]? = some oi) (h : freeX md ops listed i = true) : ∀ j oj, ops[j]? = some oj → j ≠ i → listed.getD j true = false → (∀ e ∈ oj.after, Region.binds md e = true → e.on ≠ i) → oi.apart ops oj = true ∧ okP (kX oi.op) (kX oj.op) = true := by
  intro j oj hj hji hun hno
  have hlt : j < ops.size := (Array.getElem?_eq_some_iff.1 hj).1
  have := List.all_eq_true.1 h j (List.mem_range.2 hlt)
  simp only [hi, hj, hun, Bool.or_false, Bool.or_eq_true, beq_iff_eq, Bool.and_eq_true] at this
  rcases this with (h | h) | h
  · exact absurd h hji
  · exfalso
    obtain ⟨e, he, h⟩ := Array.any_eq_true'.1 h
    simp only [Bool.and_eq_true, beq_iff_eq] at h
    exact hno e he h.1 h.2
  · exact h
/-- In the text's order. -/
def LX (P : Program) (w0 : W0) (ops : Array Oper) (K : List DV → St → Prop) : List Oper → List DV → St → Prop
  | [], fr, S => K fr S
  | o :: rest, fr, S => tauX P w0 ops o fr S (LX P w0 ops K rest)
theorem wpX_lex {K : List DV → St → Prop} : ∀ (l : List Oper) (k : Nat) (listed : Array Bool) (fr : List DV) (S : St), (∀ j, l[j]? = ops[k + j]?) →
    (∀ l' : List Nat, l'.Nodup → (∀ k, k ∈ l' → listed.getD k true = false) → l'.length ≤ l.length) →
    lexX md ops l.length k listed = true → LX P w0 ops K l fr S → wpX P w0 md ops K l.length listed fr S
  | [], _, _, _, _, _, _, hB, h => ⟨by simpa [lexX] using hB, h⟩
  | o :: l, k, listed, fr, S, hl, hcnt, hB, h => by
    have h0 : ops[k]? = some o := by simpa using (hl 0).symm
    simp only [List.length_cons, lexX, Bool.and_eq_true] at hB
    obtain ⟨⟨hr, hf⟩, hB'⟩ := hB
    have hr' : k ∈ Region.ready md ops listed := by simpa using hr
    have hun := (mem_ready.1 hr').1
    refine wpX_first h0 l.length listed fr S (freeX_spec h0 hf) (by simpa using hcnt) hr' ?_
    refine tauX_mono (fun fr S h => wpX_lex l (k + 1) _ fr S (fun j => by have := hl (j + 1); simpa [Nat.add_assoc, Nat.add_comm 1 j] using this) ?_ hB' h) h
    intro l' hn hl'
    have hks : k < listed.size := by
      rcases Nat.lt_or_ge k listed.size with h | h
      · exact h
      · rw [Array.getD_eq_getD_getElem?, Array.getElem?_eq_none h] at hun; cases hun
    have hkl : k ∉ l' := fun hk => by
      have := hl' k hk
      rw [Array.getD_eq_getD_getElem?, Array.getElem?_setIfInBounds] at this
      simp [hks] at this
    have := hcnt (k :: l') (List.nodup_cons.2 ⟨hkl, hn⟩) fun m hm => by
      rcases List.mem_cons.1 hm with rfl | hm
      · exact hun
      · have := hl' m hm
        rw [getD_set_ne true (show k ≠ m from fun e => hkl (e ▸ hm))] at this
        exact this
    simp at this; omega
theorem bodyX_yields {o : Oper} {fr : List DV} {S : St} {K : List DV → St → Prop} (h : bodyX P w0 o fr S K) : YieldsE P w0 o (ev fr) S fun d S' => K (pt fr o.dst d) S' := by
  rcases h with ⟨c, d, q, k⟩ | ⟨c, d, q, k⟩ | ⟨c, t, ht, hz, k⟩ | ⟨c, q⟩
  · exact yields_mono (fun d' S' h => by rw [h.1, h.2]; exact k) (q S)
  · have := q [] (fun x hx => by cases hx)
    exact yields_mono (fun d' S' h => by rw [h.1, h.2]; exact k) this
  · exact y_alloc ht ⟨hz, k⟩
  · exact q
theorem wpAny_of_X {ro : Option Nat} {g0 : Gh} {Q : Exit → List DV → St → Prop} : ∀ (fuel : Nat) (listed : Array Bool) (fr : List DV) (S : St) (g : Gh) (a : Act) (w : World), g0.le g → Rel w0 g S w → RepL g fr a.tmps.toList → Dk w0 g.obj a w →
    wpX P w0 md ops (fun fr S => Q .normal fr S) fuel listed fr S → wpAnyIn (fz ro) 0 P md ops (Good w0 g0 Q) fuel listed a w
  | 0, listed, fr, S, g, a, w, k, h1, h2, h3, h => ⟨h.1, k.kd h3, g, fr, S, k, h1, h2, h.2⟩
  | fuel + 1, listed, fr, S, g, a, w, k, h1, h2, h3, h => by
    refine ⟨fun h0 => ⟨k.kd h3, g, fr, S, k, h1, h2, h.1 h0⟩, fun i hi => ?_⟩
    have hq := h.2 i hi
    unfold tauI at hq
    unfold wpOpIn
    split
    · rename_i ho; simp only [ho] at hq; exact wpAny_of_X fuel _ fr S g a w k h1 h2 h3 hq
    · rename_i o ho
      simp only [ho] at hq
      rcases hq with ⟨hw, hb⟩ | ⟨hw, hk⟩
      · have hw' := wantB_sound (o := o) h2 hw
        rw [if_pos hw']
        refine wpIn_of_yields (bodyX_yields hb) h1 (fun x _ => rep_ev h2 x) h3 fun g' d' u S' w' k1 k2 k3 k4 k5 => ?_
        exact wpAny_of_X fuel _ _ _ g' _ _ (k.trans k1) k2 (repL_put (h2.mono k1) _ k3) (k1.dk k5) k4
      · have hw' := wantB_sound (o := o) h2 hw
        rw [if_neg (by simp [hw'])]
        exact ⟨fun _ _ => trivial, wpAny_of_X fuel _ _ _ g _ _ k h1 (repL_put h2 _ (rep_ud g)) (h3.keep (put_defers _ _ _) fun _ _ h _ => h) hk⟩
/-- A region that draws its order, where the text's order serves. -/
theorem awp_drawL {id : Nat} {l : List Oper} {fr : List DV} {S : St} {Q : Exit → List DV → St → Prop} (hm : P.follows .mixedOrders = true) (hB : lexX .any l.toArray l.length 0 (Array.replicate l.length false) = true) (h : LX P w0 l.toArray (fun fr S => Q .normal fr S) l fr S) : AWp P w0 (.region id l.toArray true) fr S Q := by
  intro g a w h1 h2 h3
  refine wpA_region_any hm fun ro => ?_
  have hR : Rel w0 g S { w with drawn := w.drawn + 1 } := h1.grow (below_drew w)
  have hcnt : ∀ l' : List Nat, l'.Nodup → (∀ k, k ∈ l' → (Array.replicate l.length false).getD k true = false) → l'.length ≤ l.length := by
    intro l' hn hl
    have hsub : ∀ k, k ∈ l' → k ∈ List.range l.length := fun k hk => by
      have := hl k hk
      rw [List.mem_range]
      rcases Nat.lt_or_ge k l.length with h | h
      · exact h
      · rw [Array.getD_eq_getD_getElem?, Array.getElem?_eq_none (by simpa using h)] at this; cases this
    have := hn.length_le_of_subset (l₂ := List.range l.length) hsub
    simpa using this
  have := wpX_lex (P := P) (w0 := w0) (md := .any) (ops := l.toArray) l 0 (Array.replicate l.length false) fr S (by simp) hcnt hB h
  have := wpAny_of_X (ro := ro) (g0 := g) (Q := Q) _ _ fr S g a _ (.refl g) hR h2 (h3.keep rfl fun _ _ h _ => h) this
  simpa using this

/-- What looks at no store: one value, at every store. -/
theorem pure_det {op : Op} (hk : kX op = 0) {fr : List DV} {S : St} {K : DV → Prop} (h : vcOpQ P w0 op fr S K) : ∃ d, (∀ S', vcOpQ P w0 op fr S' (· = d)) ∧ K d := by
  cases op with
  | move x => exact ⟨_, fun _ => rfl, h⟩
  | assign x => exact ⟨_, fun _ => rfl, h⟩
  | pick c a b => obtain ⟨d, q1, q2⟩ := det_pick h; exact ⟨d, fun _ => q1, q2⟩
  | fieldAddr t x f => obtain ⟨d, q1, q2⟩ := det_field h; exact ⟨d, fun _ => q1, q2⟩
  | indexAddr t x i => obtain ⟨d, q1, q2⟩ := det_indexAddr h; exact ⟨d, fun _ => q1, q2⟩
  | index t x i => obtain ⟨d, q1, q2⟩ := det_index h; exact ⟨d, fun _ => q1, q2⟩
  | field t x f => obtain ⟨d, q1, q2⟩ := det_fieldV h; exact ⟨d, fun _ => q1, q2⟩
  | extract x i => obtain ⟨d, q1, q2⟩ := det_extract h; exact ⟨d, fun _ => q1, q2⟩
  | nilCheck x => exact ⟨_, fun _ => ⟨h.1, rfl⟩, h.2⟩
  | binOp b t x y t' => obtain ⟨d, q1, q2⟩ := det_bin h.2; exact ⟨d, fun _ => ⟨h.1, q1⟩, q2⟩
  | unOp b t x => obtain ⟨d, q1, q2⟩ := det_un h; exact ⟨d, fun _ => q1, q2⟩
  | convert s d x => obtain ⟨d, q1, q2⟩ := det_conv h; exact ⟨d, fun _ => q1, q2⟩
  | makeInterface t x => exact ⟨_, fun _ => ⟨h.1, h.2.1, rfl⟩, h.2.2⟩
  | makeFunc fn a b => obtain ⟨d, q1, q2⟩ := det_func h; exact ⟨d, fun _ => q1, q2⟩
  | slice t x lo hi mx => obtain ⟨d, q1, q2⟩ := det_slice h.2.2; exact ⟨d, fun _ => ⟨h.1, h.2.1, q1⟩, q2⟩
  | build t parts => obtain ⟨d, q1, q2⟩ := det_build h.2; exact ⟨d, fun _ => ⟨h.1, q1⟩, q2⟩
  | buildSlice t len parts => obtain ⟨d, q1, q2⟩ := det_buildSlice h.2; exact ⟨d, fun _ => ⟨h.1, q1⟩, q2⟩
  | call c =>
    obtain ⟨callee, args, ts⟩ := c
    simp only [vcOpQ] at h ⊢
    split at h
    · split at h
      · obtain ⟨d, q1, q2⟩ := det_len h
        exact ⟨d, fun _ => by simpa using q1, q2⟩
      · exact h.elim
    · split at h
      · obtain ⟨d, q1, q2⟩ := det_cap h
        exact ⟨d, fun _ => by simpa using q1, q2⟩
      · exact h.elim
    · split at h
      · obtain ⟨d, q1, q2⟩ := det_min h
        exact ⟨d, fun _ => by simpa using q1, q2⟩
      · exact h.elim
    · split at h
      · obtain ⟨d, q1, q2⟩ := det_max h
        exact ⟨d, fun _ => by simpa using q1, q2⟩
      · exact h.elim
    · cases hk
    · exact h.elim
  | _ => first | exact h.elim | cases hk
theorem pure_detZ {op : Op} (hk : kX op = 0) {fr : List DV} {S : St} {K : DV → Prop} (h : opZ P w0 op fr S K) : ∃ d, (∀ S', opZ P w0 op fr S' (· = d)) ∧ K d := by
  cases op with
  | makeSlice t x y =>
    simp only [opZ, vMakeQ] at h ⊢
    split at h
    · obtain ⟨q1, q2, q3, q4, q5, q6⟩ := h
      exact ⟨_, fun _ => ⟨q1, q2, q3, q4, q5, rfl⟩, q6⟩
    · exact h.elim
  | convert s d x =>
    simp only [opZ] at h ⊢
    unfold vConvZ at h ⊢
    split at h
    · obtain ⟨q1, q2, q3, q4⟩ := h
      exact ⟨_, fun _ => ⟨q1, q2, q3, rfl⟩, q4⟩
    · obtain ⟨dd, p1, p2⟩ := pure_det (P := P) (w0 := w0) (op := .convert s d x) (fr := fr) (S := S) (K := K) rfl h
      exact ⟨dd, p1, p2⟩
  | _ => exact pure_det (P := P) (w0 := w0) (S := S) (fr := fr) hk h
theorem lk_ext {S : St} {B : List (Nat × List DV)} (hB : Fr S B) {b : Nat} {ds : List DV} (h : lk S.box b = some ds) : lk (B ++ S.box) b = some ds := by
  induction B with
  | nil => exact h
  | cons x B ih =>
    have h1 := hB x List.mem_cons_self
    have hne : ¬ x.1 = b := fun e => by rw [e] at h1; rw [nin_lk h1] at h; cases h
    obtain ⟨k, y⟩ := x
    show lk ((k, y) :: (B ++ S.box)) b = _
    rw [q_lk_ne hne]
    exact ih fun z hz => hB z (List.mem_cons_of_mem _ hz)
theorem load_ext {k : TK} {S : St} {x : DV} {K : DV → Prop} {B : List (Nat × List DV)} (hB : Fr S B) (h : vLoad k S x K) : vLoad k ⟨B ++ S.box, S.acc⟩ x K := by
  unfold vLoad at *
  split at h
  · split at h
    · rename_i ds hb
      simp only [lk_ext hB hb]
      exact h
    · exact h.elim
  · exact h
  · exact h
  · exact h.elim
end
/-- A call that hands back one value, whatever boxes were made beside it. -/
def QX (P : Program) (w0 : W0) (f : FuncId) (ds : List DV) (S : St) [K : Cn (DV → Prop)] : Prop := ∃ d, (∀ B, Fr S B → ACall P w0 f ds ⟨B ++ S.box, S.acc⟩ fun d' S' => d' = d ∧ S' = ⟨B ++ S.box, S.acc⟩) ∧ K.k d
def vCallX (P : Program) (w0 : W0) (cal : DV) (ds : List DV) (S : St) (K : DV → Prop) : Prop := match cal with
  | .v (.func (.func f) a cap) => a.size = 0 ∧ okF P f = true ∧ cap.toList.all (fun u => u.oneCell') = true ∧ ds.all naccA = true ∧ @QX P w0 f (ds ++ cap.toList.map .v) S ⟨K⟩
  | _ => False
def opX (P : Program) (w0 : W0) (op : Op) (fr : List DV) (S : St) (K : DV → St → Prop) : Prop := match op with
  | .load t x => vLoad (tk P t) S (ev fr x) (K · S)
  | .alloc t => okE (zD P t) = true ∧ bxK S (zD P t) K
  | .call ⟨.value cal, args, _⟩ => vCallX P w0 (ev fr cal) (args.toList.map (ev fr)) S (K · S)
  | op => selK (kX op == 0) (opZ P w0 op fr S (K · S)) (vcOp P w0 op fr S K)
def vcLX (P : Program) (w0 : W0) (ops : Array Oper) (K : List DV → St → Prop) : List Oper → List DV → St → Prop
  | [], fr, S => K fr S
  | o :: rest, fr, S => guardK ops fr o.guard (fun fr => opX P w0 o.op fr S fun d S' => vcLX P w0 ops K rest (pt fr o.dst d) S') (fun fr => vcLX P w0 ops K rest (pt fr o.dst ud) S)
section
variable {P : Program} {w0 : W0} {ops : Array Oper} {md : Region.Mode}
theorem opX_sound {o : Oper} {fr : List DV} {S : St} {K : List DV → St → Prop} (hs : okSl o.op = true) (h : opX P w0 o.op fr S fun d S' => K (pt fr o.dst d) S') : bodyX P w0 o fr S K := by
  have gen : ∀ (h : selK (kX o.op == 0) (opZ P w0 o.op fr S fun d => K (pt fr o.dst d) S) (vcOp P w0 o.op fr S fun d S' => K (pt fr o.dst d) S')), kX o.op = 0 ∨ kX o.op = 3 → bodyX P w0 o fr S K := by
    intro h hk
    rcases hk with hk | hk
    · rw [hk] at h
      obtain ⟨d, q1, q2⟩ := pure_detZ hk (show opZ P w0 o.op fr S fun d => K (pt fr o.dst d) S from h)
      exact .inl ⟨hk, d, fun S' => by
        obtain ⟨d', k1, k2⟩ := opZ_sound hs (q1 S')
        subst k2; exact k1, q2⟩
    · rw [hk] at h
      exact .inr (.inr (.inr ⟨hk, vcOp_sound hs h⟩))
  cases hop : o.op with
  | load t x =>
    rw [hop] at h hs
    obtain ⟨d, q1, q2⟩ := det_load (show vLoad (tk P t) S (ev fr x) (fun d => K (pt fr o.dst d) S) from h)
    refine .inr (.inl ⟨by rw [hop]; rfl, d, fun B hB => ?_, q2⟩)
    exact vcOp_sound (by rw [hop]; exact hs) (by rw [hop]; simpa [vcOp] using load_ext hB q1)
  | alloc t =>
    rw [hop] at h
    exact .inr (.inr (.inl ⟨by rw [hop]; rfl, t, hop, h.1, h.2⟩))
  | call c =>
    obtain ⟨callee, args, ts⟩ := c
    cases callee with
    | value cal =>
      rw [hop] at h hs
      simp only [opX, vCallX] at h
      split at h
      · rename_i f a cap hcal
        obtain ⟨h1, h2, h3, h4, d, h5, h6⟩ := h
        refine .inr (.inl ⟨by rw [hop]; rfl, d, fun B hB => ?_, h6⟩)
        exact vcOp_sound (by rw [hop]; exact hs) (by rw [hop]; simp only [vcOp, vCall, hcal]; exact ⟨h1, h2, h3, callK_id h4 (h5 B hB)⟩)
      · exact h.elim
    | builtin b =>
      refine gen (by rw [hop] at h ⊢; exact h) ?_
      rw [hop]
      cases b <;> first | exact .inl rfl | exact .inr rfl
    | invoke r m =>
      refine gen (by rw [hop] at h ⊢; exact h) ?_
      rw [hop]; exact .inr rfl
  | _ => refine gen (by rw [hop] at h ⊢; exact h) ?_; rw [hop]; first | exact .inl rfl | exact .inr rfl
theorem vcLX_sound {K : List DV → St → Prop} : ∀ (l : List Oper) {fr : List DV} {S : St}, l.all (fun o => okSl o.op) = true → vcLX P w0 ops K l fr S → LX P w0 ops K l fr S
  | [], fr, S, _, h => h
  | o :: rest, fr, S, hs, h => by
    simp only [List.all_cons, Bool.and_eq_true] at hs
    rcases guardK_want h with ⟨hw, ha⟩ | ⟨hw, hb⟩
    · exact .inl ⟨hw, bodyX_mono (fun fr S h => vcLX_sound rest hs.2 h) (opX_sound hs.1 ha)⟩
    · exact .inr ⟨hw, vcLX_sound rest hs.2 hb⟩
/-- What such a region asks. -/
def okL (l : List Oper) : Bool := l.all (fun o => okSl o.op) && lexX .any l.toArray l.length 0 (Array.replicate l.length false)
theorem lexK {id : Nat} {l : List Oper} {fr : List DV} {S : St} {Q : Exit → List DV → St → Prop} (hm : P.follows .mixedOrders = true) (hB : okL l = true) (h : vcLX P w0 l.toArray (fun fr S => normF fr fun fr => Q .normal fr S) l fr S) : AWp P w0 (.region id l.toArray true) fr S Q := by
  simp only [okL, Bool.and_eq_true] at hB
  exact awp_drawL hm hB.2 (vcLX_sound l hB.1 h)
theorem useX {f : FuncId} {args args' : List DV} {S : St} {K : DV → Prop} {r : DV} (h : ∀ B, Fr S B → ACall P w0 f args' ⟨B ++ S.box, S.acc⟩ (fun d S' => d = r ∧ S' = ⟨B ++ S.box, S.acc⟩)) (hk : K r) (ha : WkL args args' := by exact WkL.refl _) : @QX P w0 f args S ⟨K⟩ :=
  ⟨r, fun B hB => acall_one (h B hB) ha ⟨rfl, rfl⟩, hk⟩
end
end Aml.Z

namespace Aml.Z
open Go Go.RowKit
set_option linter.unusedVariables false
set_option linter.unusedSimpArgs false
section
variable {P : Program} {w0 : W0} {ops : Array Oper} {fr : List DV} {S : St} {rest : List Oper} {dst : Option Tmp} {op : Op} {ty : TypeId} {pos : String} {aft : Array Edge}
section
variable {K : List DV → St → Prop}
theorem x_nil : vcLX P w0 ops K [] fr S = K fr S := rfl
theorem x_none : vcLX P w0 ops K (⟨dst, op, ty, pos, aft, none⟩ :: rest) fr S = opX P w0 op fr S fun d S' => vcLX P w0 ops K rest (pt fr dst d) S' := rfl
theorem x_some (j : Nat) (want : Bool) : vcLX P w0 ops K (⟨dst, op, ty, pos, aft, some (j, want)⟩ :: rest) fr S = gK ((ops[j]?).bind (·.dst)) fr want (fun fr => opX P w0 op fr S fun d S' => vcLX P w0 ops K rest (pt fr dst d) S') (fun fr => vcLX P w0 ops K rest (pt fr dst ud) S) := q_guard _ _ _ _ _ _
end
variable {K : DV → St → Prop}
theorem x_load (t : TypeId) (x : Operand) : opX P w0 (.load t x) fr S K = vLoad (tk P t) S (ev fr x) (K · S) := rfl
theorem x_alloc (t : TypeId) : opX P w0 (.alloc t) fr S K = (okE (zD P t) = true ∧ bxK S (zD P t) K) := rfl
theorem x_call (cal : Operand) (a : List Operand) (ts : Array TypeId) : opX P w0 (.call ⟨.value cal, a.toArray, ts⟩) fr S K = vCallX P w0 (ev fr cal) (a.map (ev fr)) S (K · S) := rfl
theorem x_callF (f : FuncId) (a cap : Array Value) (ds : List DV) (K : DV → Prop) : vCallX P w0 (.v (.func (.func f) a cap)) ds S K = (a.size = 0 ∧ okF P f = true ∧ cap.toList.all (fun u => u.oneCell') = true ∧ ds.all naccA = true ∧ @QX P w0 f (ds ++ cap.toList.map .v) S ⟨K⟩) := rfl
@[congr] theorem c_vCallX {cal cal' : DV} {ds ds' : List DV} {S' : St} {K : DV → Prop} (h1 : cal = cal') (h2 : ds = ds') (h3 : S = S') : vCallX P w0 cal ds S K = vCallX P w0 cal' ds' S' K := by cases h1; cases h2; cases h3; rfl
theorem x_move (x : Operand) : opX P w0 (.move x) fr S K = vcOpQ P w0 (.move x) fr S (K · S) := rfl
theorem x_assign (x : Operand) : opX P w0 (.assign x) fr S K = vcOpQ P w0 (.assign x) fr S (K · S) := rfl
theorem x_pick (c a b : Operand) : opX P w0 (.pick c a b) fr S K = vcOpQ P w0 (.pick c a b) fr S (K · S) := rfl
theorem x_fieldAddr (t : TypeId) (x : Operand) (f : Nat) : opX P w0 (.fieldAddr t x f) fr S K = vcOpQ P w0 (.fieldAddr t x f) fr S (K · S) := rfl
theorem x_indexAddr (t : TypeId) (x i : Operand) : opX P w0 (.indexAddr t x i) fr S K = vcOpQ P w0 (.indexAddr t x i) fr S (K · S) := rfl
theorem x_index (t : TypeId) (x i : Operand) : opX P w0 (.index t x i) fr S K = vcOpQ P w0 (.index t x i) fr S (K · S) := rfl
theorem x_field (t : TypeId) (x : Operand) (f : Nat) : opX P w0 (.field t x f) fr S K = vcOpQ P w0 (.field t x f) fr S (K · S) := rfl
theorem x_extract (x : Operand) (i : Nat) : opX P w0 (.extract x i) fr S K = vcOpQ P w0 (.extract x i) fr S (K · S) := rfl
theorem x_nilCheck (x : Operand) : opX P w0 (.nilCheck x) fr S K = vcOpQ P w0 (.nilCheck x) fr S (K · S) := rfl
theorem x_binOp (b : BinOp) (t : TypeId) (x y : Operand) (t' : TypeId) : opX P w0 (.binOp b t x y t') fr S K = vcOpQ P w0 (.binOp b t x y t') fr S (K · S) := rfl
theorem x_unOp (b : UnOp) (t : TypeId) (x : Operand) : opX P w0 (.unOp b t x) fr S K = vcOpQ P w0 (.unOp b t x) fr S (K · S) := rfl
theorem x_convert (s d : TypeId) (x : Operand) : opX P w0 (.convert s d x) fr S K = opZ P w0 (.convert s d x) fr S (K · S) := rfl
theorem x_makeInterface (t : TypeId) (x : Operand) : opX P w0 (.makeInterface t x) fr S K = vcOpQ P w0 (.makeInterface t x) fr S (K · S) := rfl
theorem x_makeFunc (fn : Fn) (a b : Array Operand) : opX P w0 (.makeFunc fn a b) fr S K = vcOpQ P w0 (.makeFunc fn a b) fr S (K · S) := rfl
theorem x_slice (t : TypeId) (x : Operand) (lo hi mx : Option Operand) : opX P w0 (.slice t x lo hi mx) fr S K = vcOpQ P w0 (.slice t x lo hi mx) fr S (K · S) := rfl
theorem x_build (t : TypeId) (parts : Array (Nat × Operand)) : opX P w0 (.build t parts) fr S K = vcOpQ P w0 (.build t parts) fr S (K · S) := rfl
theorem x_buildSlice (t : TypeId) (len : Nat) (parts : Array (Nat × Operand)) : opX P w0 (.buildSlice t len parts) fr S K = vcOpQ P w0 (.buildSlice t len parts) fr S (K · S) := rfl
theorem x_typeAssert (x : Operand) (xt t : TypeId) (ok : Bool) : opX P w0 (.typeAssert x xt t ok) fr S K = vcOp P w0 (.typeAssert x xt t ok) fr S K := rfl
theorem x_box (t : TypeId) (x : Operand) : opX P w0 (.box t x) fr S K = vcOp P w0 (.box t x) fr S K := rfl
theorem x_store (t : TypeId) (x y : Operand) : opX P w0 (.store t x y) fr S K = vcOp P w0 (.store t x y) fr S K := rfl
theorem x_makeSlice (t : TypeId) (x y : Operand) : opX P w0 (.makeSlice t x y) fr S K = opZ P w0 (.makeSlice t x y) fr S (K · S) := rfl
theorem x_b_len (a : Array Operand) (ts : Array TypeId) : opX P w0 (.call ⟨.builtin .len, a, ts⟩) fr S K = vcOpQ P w0 (.call ⟨.builtin .len, a, ts⟩) fr S (K · S) := rfl
theorem x_b_cap (a : Array Operand) (ts : Array TypeId) : opX P w0 (.call ⟨.builtin .cap, a, ts⟩) fr S K = vcOpQ P w0 (.call ⟨.builtin .cap, a, ts⟩) fr S (K · S) := rfl
theorem x_b_min (a : Array Operand) (ts : Array TypeId) : opX P w0 (.call ⟨.builtin .min, a, ts⟩) fr S K = vcOpQ P w0 (.call ⟨.builtin .min, a, ts⟩) fr S (K · S) := rfl
theorem x_b_max (a : Array Operand) (ts : Array TypeId) : opX P w0 (.call ⟨.builtin .max, a, ts⟩) fr S K = vcOpQ P w0 (.call ⟨.builtin .max, a, ts⟩) fr S (K · S) := rfl
theorem x_b_append (a : Array Operand) (ts : Array TypeId) : opX P w0 (.call ⟨.builtin .append, a, ts⟩) fr S K = vcOp P w0 (.call ⟨.builtin .append, a, ts⟩) fr S K := rfl
end
attribute [go_sem ↓] x_nil x_none x_some x_load x_alloc x_call x_callF x_move x_assign x_pick x_fieldAddr x_indexAddr x_index x_field x_extract x_nilCheck x_binOp x_unOp x_convert x_makeInterface x_makeFunc x_slice x_build x_buildSlice x_typeAssert x_box x_store x_makeSlice x_b_len x_b_cap x_b_min x_b_max x_b_append
theorem n_beq_t (b : Bool) : (true == b) = b := by cases b <;> rfl
theorem n_beq_f (b : Bool) : (false == b) = !b := by cases b <;> rfl
theorem n_t_beq (b : Bool) : (b == true) = b := by cases b <;> rfl
theorem n_f_beq (b : Bool) : (b == false) = !b := by cases b <;> rfl
attribute [go_sem] n_beq_t n_beq_f n_t_beq n_f_beq
end Aml.Z

namespace Aml
open Go Go.RowKit
theorem acall_q {P : Program} {w0 : W0} {f : FuncId} {args : List DV} {S : St} {r : DV} (h1 : ACall P w0 f args S (fun d S' => shrT S' d fun d S'' => Wk d r ∧ Sub S S'')) : ACall P w0 f args S (fun d S' => d = r ∧ S' = S) := by
  intro g vs w k1 k2
  refine (h1 g vs w k1 k2).mono ?_
  rintro e w' ⟨v, g', d, S', q1, q2, q3, q4, q5⟩
  obtain ⟨g2, d', S2, p1, p2, p3, p4, p5⟩ := shrT_ok q3 q4 q5
  exact ⟨v, g2, r, S, q1, q2.trans p1, p2.forget p5.box p5.acc, p4 _ _ p3, rfl, rfl⟩
end Aml
namespace Go.Proofs.Ytkibkahknibgfaa
open Aml Go
set_option linter.unusedVariables false
set_option linter.unusedSimpArgs false
set_option maxRecDepth 100000

/-- Whatever is asked of a tree that steps come to. -/
def Fine (n : N) : Prop := ∃ d, Nd d n ∧ totN n ≤ 131072
theorem pagesQ (w0 : W0) (n : N) (S : St) (h : Fine n) : ACall Try.prog w0 33 [eT n] S (fun d S' => d = dL (pgsT n) ∧ S' = S) := by
  obtain ⟨d, hn, ht⟩ := h
  have h1 := vis_len noB hn
  have h2 := pgS_le noB hn
  refine acall_q ((pagesP w0 n S (by omega) (by omega) (fun x hx => Nat.le_trans (vis_l noB hn x hx) (by omega))).mono ?_)
  rintro d S' ⟨m, rfl, rfl⟩
  simp (maxDischargeDepth := 12) (maxSteps := 1000000) -implicitDefEqProofs only [go_sem, Nat.reduceAdd, Nat.reduceSub, Nat.reduceMul, Nat.reduceLeDiff, Nat.reduceEqDiff, Nat.reduceGT, Nat.reduceBEq, reduceCtorEq, ↓reduceIte, Int.reduceToNat, Int.reduceLE, Int.reduceLT, Int.reduceNe, Int.reduceEq, pgsT, srt_length]
theorem freshQ (w0 : W0) (n : N) (S : St) (h : Fine n) : ACall Try.prog w0 30 [eT n] S (fun d S' => d = dI (frT n) ∧ S' = S) := by
  obtain ⟨d, hn, ht⟩ := h
  have h1 := vis_len laidB hn
  have h2 := frT_le hn
  exact freshP w0 n S (by omega) (by unfold frT at h2; omega) (fun x hx => Nat.le_trans (vis_l laidB hn x hx) (by omega))
theorem lostQ (w0 : W0) (a b : N) (S : St) (ha : Fine a) (hb : Fine b) : ACall Try.prog w0 35 [eT a, eT b] S (fun d S' => d = dL (fltI (pgsT b) (pgsT a)) ∧ S' = S) := by
  obtain ⟨d, hn, ht⟩ := ha
  obtain ⟨e, hm, hu⟩ := hb
  have h1 := vis_len noB hn
  have h2 := pgS_le noB hn
  have h3 := vis_len noB hm
  have h4 := pgS_le noB hm
  exact lostP w0 a b S (by omega) (by omega) (fun x hx => Nat.le_trans (vis_l noB hn x hx) (by omega)) (by omega) (by omega) (fun x hx => Nat.le_trans (vis_l noB hm x hx) (by omega))
theorem nodeQ (w0 : W0) (n : N) (S : St) (h : Fine n) : ACall Try.prog w0 29 [eN n] S (fun e S' => e = eT n ∧ S' = S) := by
  obtain ⟨d, hn, ht⟩ := h
  exact nodeW w0 d n S hn ht
theorem markedQ (w0 : W0) (n : N) (f : Int) (S : St) (h : Fine n) (h0 : 0 ≤ f) (h1 : f ≤ 1000000) : ACall Try.prog w0 37 [eN n, dI f] S (fun e S' => e = .tup [eN (markN n f).1, dI (markN n f).2] ∧ S' = S) := by
  obtain ⟨d, hn, ht⟩ := h
  exact markedW w0 d n f S hn ht h0 (by omega)
theorem Fine.mark {n : N} (h : Fine n) (f : Int) : Fine (markN n f).1 := by
  obtain ⟨d, hn, ht⟩ := h
  exact ⟨d, nd_mark f hn, by rw [tot_mark f hn]; exact ht⟩
theorem fine_empty : Fine emptyN := ⟨0, ⟨rfl, fun c hc => by cases hc⟩, by decide⟩
/-- The example's tree. -/
def keyK : ByteArray := ⟨#[107]⟩
def exN : N := Put keyK (zeroS 200) emptyN
theorem fine_ex : Fine exN := by
  obtain ⟨d, h1, h2, h3⟩ := nd_Put (key := keyK) (val := zeroS 200) (by decide) (by rw [zeroS_size]; omega) (d := 0) (n := emptyN) ⟨rfl, fun c hc => by cases hc⟩
  have : totN emptyN = 0 := by decide
  exact ⟨d, h2, by unfold exN; omega⟩
theorem ex_eq : exN = .mk 0 true [.mk keyK (zeroS 200) [] []] := by
  unfold exN Put
  rw [putN_leaf _ _ emptyN rfl]
  have h1 : leafPut emptyN.l keyK (zeroS 200) = [.mk keyK (zeroS 200) [] []] := by simp [leafPut, emptyN, N.l, idxN]
  rw [h1, topN_else _ (.inl rfl)]
  have hz : sizesN (.mk 0 true [.mk keyK (zeroS 200) [] []]) = [8] := by
    simp only [sizesN, N.l, N.leaf, List.map_cons, List.map_nil, sizeC, C.data, C.key, zeroS_size, if_true]
    decide
  rw [hz, if_pos (by decide)]
def exM : N := .mk 4 true [.mk keyK (zeroS 200) [2, 3] []]
theorem mark_ex : markN exN 2 = (exM, 5) := by
  rw [ex_eq, markN_eq]
  simp only [N.l, N.leaf, markCs, markC_leaf, C.data, C.key, C.kid, zeroS_size]
  rw [if_neg (by simp)]
  rfl
theorem ex_nd : Nd 0 exN := by rw [ex_eq]; exact ⟨rfl, fun c hc => by simp only [N.l, List.mem_singleton] at hc; subst hc; exact ⟨⟨by decide, by show (zeroS 200).size ≤ 400; rw [zeroS_size]; omega, by decide⟩, rfl⟩⟩
theorem exM_nd : Nd 0 exM := by have := nd_mark 2 ex_nd; rw [mark_ex] at this; exact this
theorem empty_nd : Nd 0 emptyN := ⟨rfl, fun c hc => by cases hc⟩
theorem fr_ex : frT exN = 3 := by
  rw [frT_eq ex_nd, ex_eq]
  simp only [N.page, N.leaf, N.l, rfS, rfC, fc1, C.pages, C.data, zeroS_size, List.map_cons, List.map_nil]
  decide
theorem fr_exM : frT exM = 0 := by rw [frT_eq exM_nd]; decide
theorem fr_empty : frT emptyN = 0 := by rw [frT_eq empty_nd]; decide
theorem pgs_al {d : Nat} {n : N} (h : Nd d n) : pgsT n = srt (alN n) := (srt_congr (al_perm d n h)).symm
theorem pgs_exM : pgsT exM = [2, 3, 4] := by
  rw [pgs_al exM_nd]
  exact (srt_eq (by decide) (by decide)).symm
theorem pgs_ex : pgsT exN = [] := by rw [pgs_al ex_nd, ex_eq]; exact (srt_eq (by decide) (by decide)).symm
theorem pgs_empty : pgsT emptyN = [] := by rw [pgs_al empty_nd]; exact (srt_eq (by decide) (by decide)).symm
set_option maxHeartbeats 8000000 in
theorem awakeW (w0 : W0) (S : St) : ACall Try.prog w0 27 [] S (fun e S' => e = dB true ∧ S' = S) := by
  refine fnS [1] mx Try.func27 rfl rfl (by kernel_rfl) ?_; simp (maxDischargeDepth := 12) (maxSteps := 1000000) -implicitDefEqProofs only [Try.ntmps27, go_sem, Nat.reduceAdd, Nat.reduceSub, Nat.reduceMul, Nat.reduceLeDiff, Nat.reduceEqDiff, Nat.reduceGT, Nat.reduceBEq, reduceCtorEq, ↓reduceIte, Int.reduceToNat, Int.reduceLE, Int.reduceLT, Int.reduceNe, Int.reduceEq]
  refine Z.lexK mx (by kernel_rfl) ?_
  simp (maxDischargeDepth := 12) (maxSteps := 1000000) -implicitDefEqProofs only [go_sem, Nat.reduceAdd, Nat.reduceSub, Nat.reduceMul, Nat.reduceLeDiff, Nat.reduceEqDiff, Nat.reduceGT, Nat.reduceBEq, reduceCtorEq, ↓reduceIte, Int.reduceToNat, Int.reduceLE, Int.reduceLT, Int.reduceNe, Int.reduceEq]
  refine Z.useX (fun B hB => emptyR w0 _) ?_
  simp (maxDischargeDepth := 12) (maxSteps := 1000000) -implicitDefEqProofs only [go_sem, Nat.reduceAdd, Nat.reduceSub, Nat.reduceMul, Nat.reduceLeDiff, Nat.reduceEqDiff, Nat.reduceGT, Nat.reduceBEq, reduceCtorEq, ↓reduceIte, Int.reduceToNat, Int.reduceLE, Int.reduceLT, Int.reduceNe, Int.reduceEq]
  refine ⟨by omega, rfl, Z.useX (fun B hB => PutW w0 keyK (zeroS 200) (by decide) (by rw [zeroS_size]; omega) 0 emptyN _ empty_nd (by decide)) ?_ (.cons (.refl _) (.cons (.refl _) (.cons (.eq rfl) .nil)))⟩
  rw [show Put keyK (zeroS 200) emptyN = exN from rfl]
  simp (maxDischargeDepth := 12) (maxSteps := 1000000) -implicitDefEqProofs only [go_sem, Nat.reduceAdd, Nat.reduceSub, Nat.reduceMul, Nat.reduceLeDiff, Nat.reduceEqDiff, Nat.reduceGT, Nat.reduceBEq, reduceCtorEq, ↓reduceIte, Int.reduceToNat, Int.reduceLE, Int.reduceLT, Int.reduceNe, Int.reduceEq]
  intro b
  refine use1 (markedQ w0 exN 2 _ fine_ex (by omega) (by omega)) ?_
  rw [mark_ex]
  simp (maxDischargeDepth := 12) (maxSteps := 1000000) -implicitDefEqProofs only [go_sem, Nat.reduceAdd, Nat.reduceSub, Nat.reduceMul, Nat.reduceLeDiff, Nat.reduceEqDiff, Nat.reduceGT, Nat.reduceBEq, reduceCtorEq, ↓reduceIte, Int.reduceToNat, Int.reduceLE, Int.reduceLT, Int.reduceNe, Int.reduceEq]
  intro b2
  have fM : Fine exM := by have := fine_ex.mark 2; rwa [mark_ex] at this
  refine use1 (nodeQ w0 exN _ fine_ex) ?_
  simp (maxDischargeDepth := 12) (maxSteps := 1000000) -implicitDefEqProofs only [go_sem, Nat.reduceAdd, Nat.reduceSub, Nat.reduceMul, Nat.reduceLeDiff, Nat.reduceEqDiff, Nat.reduceGT, Nat.reduceBEq, reduceCtorEq, ↓reduceIte, Int.reduceToNat, Int.reduceLE, Int.reduceLT, Int.reduceNe, Int.reduceEq]
  refine use1 (freshQ w0 exN _ fine_ex) ?_
  simp (maxDischargeDepth := 12) (maxSteps := 1000000) -implicitDefEqProofs only [go_sem, Nat.reduceAdd, Nat.reduceSub, Nat.reduceMul, Nat.reduceLeDiff, Nat.reduceEqDiff, Nat.reduceGT, Nat.reduceBEq, reduceCtorEq, ↓reduceIte, Int.reduceToNat, Int.reduceLE, Int.reduceLT, Int.reduceNe, Int.reduceEq, fr_ex]
  refine use1 (nodeQ w0 exM _ fM) ?_
  simp (maxDischargeDepth := 12) (maxSteps := 1000000) -implicitDefEqProofs only [go_sem, Nat.reduceAdd, Nat.reduceSub, Nat.reduceMul, Nat.reduceLeDiff, Nat.reduceEqDiff, Nat.reduceGT, Nat.reduceBEq, reduceCtorEq, ↓reduceIte, Int.reduceToNat, Int.reduceLE, Int.reduceLT, Int.reduceNe, Int.reduceEq]
  refine use1 (freshQ w0 exM _ fM) ?_
  simp (maxDischargeDepth := 12) (maxSteps := 1000000) -implicitDefEqProofs only [go_sem, Nat.reduceAdd, Nat.reduceSub, Nat.reduceMul, Nat.reduceLeDiff, Nat.reduceEqDiff, Nat.reduceGT, Nat.reduceBEq, reduceCtorEq, ↓reduceIte, Int.reduceToNat, Int.reduceLE, Int.reduceLT, Int.reduceNe, Int.reduceEq, fr_exM]
  refine use1 (emptyP w0 _) ?_
  simp (maxDischargeDepth := 12) (maxSteps := 1000000) -implicitDefEqProofs only [go_sem, Nat.reduceAdd, Nat.reduceSub, Nat.reduceMul, Nat.reduceLeDiff, Nat.reduceEqDiff, Nat.reduceGT, Nat.reduceBEq, reduceCtorEq, ↓reduceIte, Int.reduceToNat, Int.reduceLE, Int.reduceLT, Int.reduceNe, Int.reduceEq]
  refine use1 (freshQ w0 emptyN _ fine_empty) ?_
  simp (maxDischargeDepth := 12) (maxSteps := 1000000) -implicitDefEqProofs only [go_sem, Nat.reduceAdd, Nat.reduceSub, Nat.reduceMul, Nat.reduceLeDiff, Nat.reduceEqDiff, Nat.reduceGT, Nat.reduceBEq, reduceCtorEq, ↓reduceIte, Int.reduceToNat, Int.reduceLE, Int.reduceLT, Int.reduceNe, Int.reduceEq, fr_empty]
  refine use1 (nodeQ w0 exM _ fM) ?_
  simp (maxDischargeDepth := 12) (maxSteps := 1000000) -implicitDefEqProofs only [go_sem, Nat.reduceAdd, Nat.reduceSub, Nat.reduceMul, Nat.reduceLeDiff, Nat.reduceEqDiff, Nat.reduceGT, Nat.reduceBEq, reduceCtorEq, ↓reduceIte, Int.reduceToNat, Int.reduceLE, Int.reduceLT, Int.reduceNe, Int.reduceEq]
  refine use1 (pagesQ w0 exM _ fM) ?_
  simp (maxDischargeDepth := 12) (maxSteps := 1000000) -implicitDefEqProofs only [go_sem, Nat.reduceAdd, Nat.reduceSub, Nat.reduceMul, Nat.reduceLeDiff, Nat.reduceEqDiff, Nat.reduceGT, Nat.reduceBEq, reduceCtorEq, ↓reduceIte, Int.reduceToNat, Int.reduceLE, Int.reduceLT, Int.reduceNe, Int.reduceEq, pgs_exM]
  refine use1 (ints3 w0 [2, 3, 4] [2, 3, 4] _ (by decide)) ?_ (.cons (.full _ _ _) (.cons (.full _ _ _) .nil))
  simp (maxDischargeDepth := 12) (maxSteps := 1000000) -implicitDefEqProofs only [go_sem, Nat.reduceAdd, Nat.reduceSub, Nat.reduceMul, Nat.reduceLeDiff, Nat.reduceEqDiff, Nat.reduceGT, Nat.reduceBEq, reduceCtorEq, ↓reduceIte, Int.reduceToNat, Int.reduceLE, Int.reduceLT, Int.reduceNe, Int.reduceEq]
  refine use1 (nodeQ w0 exM _ fM) ?_
  simp (maxDischargeDepth := 12) (maxSteps := 1000000) -implicitDefEqProofs only [go_sem, Nat.reduceAdd, Nat.reduceSub, Nat.reduceMul, Nat.reduceLeDiff, Nat.reduceEqDiff, Nat.reduceGT, Nat.reduceBEq, reduceCtorEq, ↓reduceIte, Int.reduceToNat, Int.reduceLE, Int.reduceLT, Int.reduceNe, Int.reduceEq]
  refine use1 (emptyP w0 _) ?_
  simp (maxDischargeDepth := 12) (maxSteps := 1000000) -implicitDefEqProofs only [go_sem, Nat.reduceAdd, Nat.reduceSub, Nat.reduceMul, Nat.reduceLeDiff, Nat.reduceEqDiff, Nat.reduceGT, Nat.reduceBEq, reduceCtorEq, ↓reduceIte, Int.reduceToNat, Int.reduceLE, Int.reduceLT, Int.reduceNe, Int.reduceEq]
  refine use1 (lostQ w0 exM emptyN _ fM fine_empty) ?_
  simp (maxDischargeDepth := 12) (maxSteps := 1000000) -implicitDefEqProofs only [go_sem, Nat.reduceAdd, Nat.reduceSub, Nat.reduceMul, Nat.reduceLeDiff, Nat.reduceEqDiff, Nat.reduceGT, Nat.reduceBEq, reduceCtorEq, ↓reduceIte, Int.reduceToNat, Int.reduceLE, Int.reduceLT, Int.reduceNe, Int.reduceEq, pgs_exM, pgs_empty]
  refine use1 (ints3 w0 [2, 3, 4] [2, 3, 4] _ (by decide)) ?_ (.cons (.eq rfl) (.cons (.full _ _ _) .nil))
  simp (maxDischargeDepth := 12) (maxSteps := 1000000) -implicitDefEqProofs only [go_sem, Nat.reduceAdd, Nat.reduceSub, Nat.reduceMul, Nat.reduceLeDiff, Nat.reduceEqDiff, Nat.reduceGT, Nat.reduceBEq, reduceCtorEq, ↓reduceIte, Int.reduceToNat, Int.reduceLE, Int.reduceLT, Int.reduceNe, Int.reduceEq]
  refine use1 (nodeQ w0 exN _ fine_ex) ?_
  simp (maxDischargeDepth := 12) (maxSteps := 1000000) -implicitDefEqProofs only [go_sem, Nat.reduceAdd, Nat.reduceSub, Nat.reduceMul, Nat.reduceLeDiff, Nat.reduceEqDiff, Nat.reduceGT, Nat.reduceBEq, reduceCtorEq, ↓reduceIte, Int.reduceToNat, Int.reduceLE, Int.reduceLT, Int.reduceNe, Int.reduceEq]
  refine use1 (pagesQ w0 exN _ fine_ex) ?_
  simp (maxDischargeDepth := 12) (maxSteps := 1000000) -implicitDefEqProofs only [go_sem, Nat.reduceAdd, Nat.reduceSub, Nat.reduceMul, Nat.reduceLeDiff, Nat.reduceEqDiff, Nat.reduceGT, Nat.reduceBEq, reduceCtorEq, ↓reduceIte, Int.reduceToNat, Int.reduceLE, Int.reduceLT, Int.reduceNe, Int.reduceEq, pgs_ex]
end Go.Proofs.Ytkibkahknibgfaa

namespace Go.Proofs.Ytkibkahknibgfaa
open Aml Go Go.RowKit Go.ChangeShapes Go.WideShapes Go.ChangeAt
set_option linter.unusedVariables false
set_option linter.unusedSimpArgs false
set_option maxRecDepth 100000

theorem run_st {l : List Stp} (h : (l.all fun s => !badP l.length s) = true) : l.length ≤ 120 ∧ StOk l.length (runN l).1 ∧ StOk l.length (runN l).2 := by
  have hL : l.length ≤ 120 := by
    cases l with
    | nil => simp
    | cons a l => exact (bad_no (List.all_eq_true.1 h a List.mem_cons_self)).2.2.2
  have := run_ok (L := l.length) hL l.length (Nat.le_refl _) (by rw [List.take_length]; exact h)
  rw [List.take_length] at this
  exact ⟨hL, this⟩
theorem StOk.fine {k : Nat} {n : N} (h : StOk k n) (hk : k ≤ 120) : Fine n := by
  obtain ⟨d, h1, h2, h3⟩ := h
  exact ⟨d, h2, by omega⟩
theorem run_fine {l : List Stp} (h : (l.all fun s => !badP l.length s) = true) : Fine (runN l).1 ∧ Fine (runN l).2 := by
  obtain ⟨h1, h2, h3⟩ := run_st h
  exact ⟨h2.fine h1, h3.fine h1⟩
theorem Fine.pgs {n : N} (h : Fine n) : (pgsT n).length ≤ 1048576 := by
  obtain ⟨d, hn, ht⟩ := h
  have := pgS_le noB hn
  unfold pgsT; rw [srt_length]; omega
theorem flt_len (a b : List Int) : (fltI a b).length ≤ b.length := List.length_filter_le _ _
theorem freshRQ (w0 : W0) (n : N) (S : St) (h : Fine n) : ACall Try.prog w0 31 [eN n] S (fun e S' => e = dI (frT n) ∧ S' = S) := by
  obtain ⟨d, hn, ht⟩ := h; exact freshR w0 d n S hn ht
theorem pagesRQ (w0 : W0) (n : N) (S : St) (h : Fine n) : ACall Try.prog w0 34 [eN n] S (fun e S' => e = dL (pgsT n) ∧ S' = S) := by
  obtain ⟨d, hn, ht⟩ := h; exact refPagesW w0 d n S hn ht
theorem lostRQ (w0 : W0) (a b : N) (S : St) (h : Fine a) (k : Fine b) : ACall Try.prog w0 36 [eN a, eN b] S (fun e S' => e = dL (fltI (pgsT b) (pgsT a)) ∧ S' = S) := by
  obtain ⟨d, hn, ht⟩ := h; obtain ⟨e, hm, hu⟩ := k; exact refLostW w0 d e a b S hn ht hm hu
theorem sum_one1 {α : Type} (l : List α) : (l.map fun _ => 1).sum = l.length := by
  induction l with
  | nil => rfl
  | cons a l ih => simp only [List.map_cons, List.sum_cons, List.length_cons, ih]; omega
theorem rdStp {W : World} : Rd Try.prog W 115 (fun s : Stp => [dS s.key, dI s.size, dB s.laid]) (fun s => 1) (fun s => True) := by
  have h := rd_struct (W := W) Try.underlying115 (total := 3) (by kernel_rfl) rfl (rdF_cons (k := 1) (rd_str Try.underlying9) rfl (by kernel_rfl) (rdF_cons (k := 1) (rd_i64 Try.underlying3) rfl (by kernel_rfl) (rdF_cons (k := 1) (rd_bool Try.underlying4) rfl (by kernel_rfl) rdF_nil)))
  exact h.conv (fun a => ⟨a.1, a.2.1, a.2.2.1⟩) (fun _ => rfl) (fun a => by omega) fun _ _ => trivial
theorem rdSteps {W : World} : Rd Try.prog W 44 (fun l : List Stp => [.sl 3 false (l.map dSt)]) (fun l => l.length) (fun l => True) :=
  (rd_sliceA rdStp Try.underlying44 (k := 3) (by kernel_rfl) (by omega)).conv id (fun _ => rfl) (fun l => by simp only [id, sum_one1]; omega) fun _ _ => trivial
end Go.Proofs.Ytkibkahknibgfaa

namespace Go.Proofs.Ytkibkahknibgfaa
open Aml Go
set_option linter.unusedVariables false
set_option linter.unusedSimpArgs false
set_option maxRecDepth 100000

/-- All is laid. -/
inductive FullP : N → Prop
  | leaf (p : Int) (l : List C) (h : p ≠ 0 ↔ l ≠ []) (hc : ∀ c, c ∈ l → c.pages.length = longN c.data.size) : FullP (.mk p true l)
  | br (p : Int) (l : List C) (h : p ≠ 0) (hk : ∀ c, c ∈ l → ∀ k, c.kid = [k] → FullP k) : FullP (.mk p false l)
/-- What is laid is laid whole. -/
inductive LaidP : N → Prop
  | mk (n : N) (h1 : n.page ≠ 0 → FullP n) (h2 : n.leaf = true → ∀ c, c ∈ n.l → c.pages = [] ∨ c.pages.length = longN c.data.size) (h3 : n.leaf = false → ∀ c, c ∈ n.l → ∀ k, c.kid = [k] → LaidP k) : LaidP n
def laidC (b : Bool) (c : C) : Prop := if b then c.pages = [] ∨ c.pages.length = longN c.data.size else ∀ k, c.kid = [k] → LaidP k
theorem laid_hered : Hered LaidP laidC where
  of := fun b l h => .mk _ (fun e => absurd rfl e) (fun hb c hc => by have := h c hc; simp only [N.leaf_mk] at hb; subst hb; exact this) (fun hb c hc => by have := h c hc; simp only [N.leaf_mk] at hb; subst hb; exact this)
  to := fun n h c hc => by
    cases h with | mk _ h1 h2 h3 =>
    unfold laidC
    cases hb : n.leaf with
    | true => rw [if_pos rfl]; exact h2 hb c hc
    | false => rw [if_neg (by simp)]; exact h3 hb c hc
  kid := fun c k hk h => by unfold laidC at h; rw [if_neg (by simp)] at h; exact h k hk
  cell := fun c k hk _ h => by unfold laidC; rw [if_neg (by simp)]; intro k' hk'; rw [hk] at hk'; cases hk'; exact h
theorem full_laid : ∀ {d : Nat} {n : N}, Nd d n → FullP n → LaidP n
  | 0, n, hn, h => .mk n (fun _ => h) (fun hb c hc => by
      cases h with
      | leaf p l h hl => exact .inr (hl c hc)
      | br p l h hk => cases hb) (fun hb => by rw [hn.1] at hb; cases hb)
  | d + 1, n, hn, h => .mk n (fun _ => h) (fun hb => by rw [hn.1] at hb; cases hb) (fun hb c hc k hk => by
      cases h with
      | leaf p l h hl => cases hb
      | br p l h hkk =>
        obtain ⟨_, k', hk', hnd⟩ := hn.2.2 c hc
        rw [hk] at hk'; cases hk'
        exact full_laid hnd (hkk c hc k hk))
mutual
/-- How many pages all of a tree takes. -/
def tN : N → Nat
  | .mk _ b l => if l = [] then 0 else 1 + tCs b l
def tC (b : Bool) : C → Nat
  | .mk _ d _ kid => if b then longN d.size else tNs kid
def tCs (b : Bool) : List C → Nat
  | [] => 0
  | c :: l => tC b c + tCs b l
def tNs : List N → Nat
  | [] => 0
  | n :: _ => tN n
end
theorem tCs_sum (b : Bool) (l : List C) : tCs b l = (l.map (tC b)).sum := by
  induction l with
  | nil => rfl
  | cons c l ih => rw [tCs, ih, List.map_cons, List.sum_cons]
theorem tN_eq (n : N) : tN n = if n.l = [] then 0 else 1 + (n.l.map (tC n.leaf)).sum := by cases n; rw [tN, tCs_sum]; rfl
theorem tC_leaf (c : C) : tC true c = longN c.data.size := by cases c; rfl
theorem tC_br {c : C} {k : N} (h : c.kid = [k]) : tC false c = tN k := by
  cases c with | mk a b d e =>
  simp only [C.kid_mk] at h
  subst h; rfl
theorem need_long {z : Nat} (h : z ≤ 400) : need (z : Int) = longN z := by
  unfold need longN
  by_cases h16 : 16 < z
  · rw [if_pos (by omega), if_pos h16]; omega
  · rw [if_neg (by omega), if_neg h16]
theorem flat_len {f : C → List Int} {g : C → Nat} {l : List C} (h : ∀ c, c ∈ l → (f c).length = g c) : (l.flatMap f).length = (l.map g).sum := by
  induction l with
  | nil => rfl
  | cons c l ih => rw [List.flatMap_cons, List.length_append, List.map_cons, List.sum_cons, h c List.mem_cons_self, ih fun x hx => h x (List.mem_cons_of_mem _ hx)]
theorem sum_add {f g k : C → Nat} {l : List C} (h : ∀ c, c ∈ l → f c + g c = k c) : (l.map f).sum + (l.map g).sum = (l.map k).sum := by
  induction l with
  | nil => rfl
  | cons c l ih =>
    have h1 := h c List.mem_cons_self
    have h2 := ih fun x hx => h x (List.mem_cons_of_mem _ hx)
    rw [List.map_cons, List.map_cons, List.map_cons, List.sum_cons, List.sum_cons, List.sum_cons]; omega
theorem alN_len (n : N) : (alN n).length = (if n.page ≠ 0 then 1 else 0) + (n.l.flatMap (alC n.leaf)).length := by
  rw [alN_eq, List.length_append]
  congr 1
  split <;> rfl
theorem alN_mkl (p : Int) (b : Bool) (l : List C) : (alN (.mk p b l)).length = (if p ≠ 0 then 1 else 0) + (l.flatMap (alC b)).length := alN_len _
theorem tN_mk (p : Int) (b : Bool) (l : List C) : tN (.mk p b l) = if l = [] then 0 else 1 + (l.map (tC b)).sum := tN_eq _
/-- Of a laid tree all is there. -/
theorem full_len : ∀ {d : Nat} {n : N}, Nd d n → FullP n → (alN n).length = tN n
  | 0, n, hn, h => by
    cases h with
    | br p l h hk => cases hn.1
    | leaf p l h hl =>
      rw [alN_mkl, tN_mk]
      rw [flat_len (g := tC true) fun c hc => by rw [alC_leaf, tC_leaf]; exact hl c hc]
      by_cases hl0 : l = []
      · subst hl0
        rw [if_neg (fun e => (h.1 e) rfl), if_pos rfl]; rfl
      · rw [if_pos (h.2 hl0), if_neg hl0]
  | d + 1, n, hn, h => by
    cases h with
    | leaf p l h hk => cases hn.1
    | br p l h hk =>
      rw [alN_mkl, tN_mk]
      rw [flat_len (g := tC false) fun c hc => by
        obtain ⟨hs, k, hkid, hnd⟩ := hn.2.2 c hc
        rw [alC_br hkid, tC_br hkid, List.eq_nil_of_length_eq_zero (Nat.le_zero.1 hs.2.2), List.nil_append]
        exact full_len hnd (hk c hc k hkid)]
      rw [if_pos h, if_neg (show ¬ l = [] from hn.2.1)]
theorem full_page {d : Nat} {n : N} (hn : Nd d n) (h : FullP n) : n.page ≠ 0 ↔ n.l ≠ [] := by
  cases h with
  | leaf p l h hk => exact h
  | br p l h hk =>
    cases d with
    | zero => cases hn.1
    | succ d => exact ⟨fun _ => hn.2.1, fun _ => h⟩
theorem full_fr {d : Nat} {n : N} (hn : Nd d n) (h : FullP n) : frT n = 0 := by
  rw [frT_eq hn]
  by_cases hp : n.page ≠ 0
  · rw [if_pos hp]
  · have hl : n.l = [] := Decidable.byContradiction fun e => hp ((full_page hn h).2 e)
    have hlf : n.leaf = true := by
      cases d with
      | zero => exact hn.1
      | succ d => exact absurd hl hn.2.1
    rw [if_neg hp, if_pos ⟨hlf, hl⟩]
/-- What isn't there is taken. -/
theorem laid_fr : ∀ {d : Nat} {n : N}, Nd d n → LaidP n → frT n + (alN n).length = tN n := by
  have gen : ∀ {d : Nat} {n : N}, Nd d n → LaidP n → (∀ c, c ∈ n.l → rfC n.leaf c + (alC n.leaf c).length = tC n.leaf c) → frT n + (alN n).length = tN n := by
    intro d n hn h hc
    by_cases hp : n.page ≠ 0
    · cases h with | mk _ h1 h2 h3 =>
      rw [full_fr hn (h1 hp), full_len hn (h1 hp), Nat.zero_add]
    · rw [frT_eq hn, alN_len, tN_eq, if_neg hp, if_neg hp, flat_len (g := fun c => (alC n.leaf c).length) fun _ _ => rfl]
      by_cases hl : n.l = []
      · have hlf : n.leaf = true := by
          cases d with
          | zero => exact hn.1
          | succ d => exact absurd hl hn.2.1
        rw [if_pos ⟨hlf, hl⟩, if_pos hl, hl]; rfl
      · rw [if_neg (fun e => hl e.2), if_neg hl]
        have := sum_add hc
        unfold rfS
        omega
  intro d
  induction d with
  | zero =>
    intro n hn h
    refine gen hn h fun c hc => ?_
    cases h with | mk _ h1 h2 h3 =>
    have hz := (hn.2 c hc).1.2.1
    rw [hn.1, alC_leaf, tC_leaf]
    show fc1 c + _ = _
    unfold fc1
    rcases h2 hn.1 c hc with e | e
    · rw [e, if_pos rfl, need_long hz]; rfl
    · by_cases hp : c.pages = []
      · rw [if_pos hp, need_long hz, hp]; rfl
      · rw [if_neg hp, e, Nat.zero_add]
  | succ d ih =>
    intro n hn h
    refine gen hn h fun c hc => ?_
    cases h with | mk _ h1 h2 h3 =>
    obtain ⟨hs, k, hkid, hnd⟩ := hn.2.2 c hc
    rw [hn.1, alC_br hkid, tC_br hkid, List.eq_nil_of_length_eq_zero (Nat.le_zero.1 hs.2.2), List.nil_append]
    show frT (kid0 c) + _ = _
    rw [kid0_eq hkid]
    exact ih hnd (h3 hn.1 c hc k hkid)
theorem pagesR_app (f : Int) (a b : Nat) : pagesR f (a + b) = pagesR f a ++ pagesR (f + a) b := by
  unfold pagesR
  rw [List.range_add, List.map_append, List.map_map]
  congr 1
  refine List.map_congr_left fun i _ => ?_
  simp only [Function.comp]
  omega
theorem markCs_al (b : Bool) : ∀ (l : List C) (f : Int), 0 < f → (∀ c, c ∈ l → ∀ f, 0 < f → (markC b c f).2 = f + tC b c ∧ (alC b (markC b c f).1).Perm (pagesR f (tC b c))) →
    (markCs b l f).2 = f + (l.map (tC b)).sum ∧ ((markCs b l f).1.flatMap (alC b)).Perm (pagesR f (l.map (tC b)).sum)
  | [], f, _, _ => by simp [markCs, pagesR]
  | c :: l, f, hf, h => by
    obtain ⟨h1, h2⟩ := h c List.mem_cons_self f hf
    obtain ⟨h3, h4⟩ := markCs_al b l (markC b c f).2 (by omega) fun c hc => h c (List.mem_cons_of_mem _ hc)
    simp only [markCs, List.flatMap_cons, List.map_cons, List.sum_cons]
    rw [h1] at h3 h4
    refine ⟨by rw [h1, h3]; omega, ?_⟩
    rw [h1, pagesR_app]
    exact h2.append h4
/-- A marked tree's pages. -/
theorem mark_al : ∀ {d : Nat} {n : N} (f : Int), Nd d n → (∀ x, x ∈ enN n → x.pages ≠ [] → 16 < x.data.size) → 0 < f → (markN n f).2 = f + tN n ∧ (alN (markN n f).1).Perm (pagesR f (tN n)) := by
  have gen : ∀ {d : Nat} {n : N} (f : Int), Nd d n → 0 < f → (∀ c, c ∈ n.l → ∀ f, 0 < f → (markC n.leaf c f).2 = f + tC n.leaf c ∧ (alC n.leaf (markC n.leaf c f).1).Perm (pagesR f (tC n.leaf c))) → (markN n f).2 = f + tN n ∧ (alN (markN n f).1).Perm (pagesR f (tN n)) := by
    intro d n f hn hf h
    obtain ⟨h1, h2⟩ := markCs_al n.leaf n.l f hf h
    rw [markN_eq, tN_eq]
    split
    · rename_i hl
      rw [hl] at h1 h2
      simp only [hl]
      refine ⟨by simpa using h1, ?_⟩
      rw [alN_eq]
      exact h2
    · rename_i hl
      simp only
      refine ⟨by rw [h1]; omega, ?_⟩
      rw [alN_eq]
      simp only [N.page_mk, N.l_mk, N.leaf_mk]
      have hp : (markCs n.leaf n.l f).2 ≠ 0 := by omega
      have e : (if (markCs n.leaf n.l f).2 ≠ 0 then [(markCs n.leaf n.l f).2] else []) = [f + (n.l.map (tC n.leaf)).sum] := by rw [if_pos hp, h1]
      refine (List.Perm.append (.of_eq e) h2).trans ?_
      rw [Nat.add_comm 1, pagesR_succ]
      exact List.perm_append_comm
  intro d
  induction d with
  | zero =>
    intro n f hn hz hf
    refine gen f hn hf fun c hc f hf => ?_
    rw [hn.1, markC_leaf, tC_leaf, alC_leaf]
    refine ⟨rfl, ?_⟩
    simp only [C.pages_mk]
    split
    · exact .refl _
    · rename_i h16
      have hp : c.pages = [] := Decidable.byContradiction fun e => h16 (hz c (by rw [en_leaf hn.1]; exact hc) e)
      rw [hp, show longN c.data.size = 0 from if_neg h16]
      exact .refl _
  | succ d ih =>
    intro n f hn hz hf
    refine gen f hn hf fun c hc f hf => ?_
    obtain ⟨hs, k, hkid, hnd⟩ := hn.2.2 c hc
    have hq := ih f hnd (fun x hx => hz x (by rw [enN_eq, hn.1]; exact List.mem_flatMap.2 ⟨c, hc, by rw [enC_br hkid]; exact hx⟩)) hf
    rw [hn.1, markC_br hkid, tC_br hkid, alC_br (k := (markN k f).1) rfl]
    refine ⟨hq.1, ?_⟩
    simp only [C.pages_mk]
    rw [List.eq_nil_of_length_eq_zero (Nat.le_zero.1 hs.2.2), List.nil_append]
    exact hq.2
theorem pagesR_rise (f : Int) (k : Nat) : (pagesR f k).Pairwise (· < ·) := by
  unfold pagesR
  rw [List.pairwise_map]
  exact List.Pairwise.imp (fun h => by omega) (List.pairwise_lt_range (n := k))
/-- .. rising. -/
theorem mark_pgs {d : Nat} {n : N} {f : Int} (hn : Nd d n) (hz : ∀ x, x ∈ enN n → x.pages ≠ [] → 16 < x.data.size) (hf : 0 < f) : pgsT (markN n f).1 = pagesR f (tN n) := by
  rw [pgs_al (nd_mark f hn)]
  exact (srt_eq ((pagesR_rise f _).imp fun h => by omega) (mark_al f hn hz hf).2.symm).symm
theorem mark_full : ∀ {d : Nat} {n : N} (f : Int), Nd d n → (∀ x, x ∈ enN n → x.pages ≠ [] → 16 < x.data.size) → 0 < f → FullP (markN n f).1
  | 0, n, f, hn, hz, hf => by
    have hl0 := markCs_len n.leaf n.l f
    have hto := (markCs_al n.leaf n.l f hf fun c hc f hf => by
      rw [hn.1, markC_leaf, tC_leaf, alC_leaf]
      refine ⟨rfl, ?_⟩
      simp only [C.pages_mk]
      split
      · exact .refl _
      · rename_i h16
        have hp : c.pages = [] := Decidable.byContradiction fun e => h16 (hz c (by rw [en_leaf hn.1]; exact hc) e)
        rw [hp, show longN c.data.size = 0 from if_neg h16]
        exact .refl _).1
    have hcs : ∀ c, c ∈ (markCs true n.l f).1 → c.pages.length = longN c.data.size := fun x hx => by
      obtain ⟨c, f', hc, rfl⟩ := markCs_mem true hx
      rw [markC_leaf]
      simp only [C.pages_mk, C.data_mk]
      split
      · exact pagesR_len _ _
      · rename_i h16
        have hp : c.pages = [] := Decidable.byContradiction fun e => h16 (hz c (by rw [en_leaf hn.1]; exact hc) e)
        rw [hp, show longN c.data.size = 0 from if_neg h16]; rfl
    rw [markN_eq]
    rw [hn.1] at hl0 hto ⊢
    split
    · rename_i hl
      rw [hl] at hl0
      exact .leaf _ _ ⟨fun e => absurd rfl e, fun e => absurd (by rw [hl]; rfl) e⟩ hcs
    · rename_i hl
      refine .leaf _ _ ⟨fun _ e => ?_, fun _ => by omega⟩ hcs
      rw [e] at hl0
      exact hl (List.eq_nil_of_length_eq_zero hl0.symm)
  | d + 1, n, f, hn, hz, hf => by
    have hzk : ∀ c, c ∈ n.l → ∀ k, c.kid = [k] → ∀ x, x ∈ enN k → x.pages ≠ [] → 16 < x.data.size := fun c hc k hk x hx => hz x (by rw [enN_eq, hn.1]; exact List.mem_flatMap.2 ⟨c, hc, by rw [enC_br hk]; exact hx⟩)
    have hto := (markCs_al n.leaf n.l f hf fun c hc f hf => by
      obtain ⟨hs, k, hkid, hnd⟩ := hn.2.2 c hc
      have hq := mark_al f hnd (hzk c hc k hkid) hf
      rw [hn.1, markC_br hkid, tC_br hkid, alC_br (k := (markN k f).1) rfl]
      refine ⟨hq.1, ?_⟩
      simp only [C.pages_mk]
      rw [List.eq_nil_of_length_eq_zero (Nat.le_zero.1 hs.2.2), List.nil_append]
      exact hq.2).1
    have hpos : ∀ c f', c ∈ n.l → (markC false c f').1 ∈ (markCs n.leaf n.l f).1 → True := fun _ _ _ _ => trivial
    -- each kid is marked from a place that is above 0
    have hcs : ∀ (l : List C) (f : Int), 0 < f → (∀ c, c ∈ l → c ∈ n.l) → ∀ x, x ∈ (markCs false l f).1 → ∀ k, x.kid = [k] → FullP k := by
      intro l
      induction l with
      | nil => intro f _ _ x hx; cases hx
      | cons c l ih =>
        intro f hf hl x hx k hk
        obtain ⟨hs, kid, hkid, hnd⟩ := hn.2.2 c (hl c List.mem_cons_self)
        have hq := mark_al f hnd (hzk c (hl c List.mem_cons_self) kid hkid) hf
        simp only [markCs] at hx
        rw [markC_br hkid] at hx
        rcases List.mem_cons.1 hx with rfl | hx
        · simp only [C.kid_mk] at hk
          cases hk
          exact mark_full f hnd (hzk c (hl c List.mem_cons_self) kid hkid) hf
        · exact ih _ (by simp only; rw [hq.1]; omega) (fun c hc => hl c (List.mem_cons_of_mem _ hc)) x hx k hk
    rw [markN_eq]
    rw [hn.1] at hto ⊢
    rw [if_neg hn.2.1]
    exact .br _ _ (by omega) (hcs n.l f hf fun _ h => h)
end Go.Proofs.Ytkibkahknibgfaa

namespace Go.Proofs.Ytkibkahknibgfaa
open Aml Go
set_option linter.unusedVariables false
set_option linter.unusedSimpArgs false
set_option maxRecDepth 100000

theorem mark_keyC (b : Bool) (c : C) (f : Int) : (markC b c f).1.key = c.key ∧ (markC b c f).1.data = c.data := by
  cases c; simp only [markC]; split <;> exact ⟨rfl, rfl⟩
theorem mark_sizes (n : N) (f : Int) : sizesN (markN n f).1 = sizesN n := by
  unfold sizesN
  rw [markN_leaf, markN_l]
  generalize n.leaf = b
  generalize n.l = l
  induction l generalizing f with
  | nil => rfl
  | cons c l ih =>
    obtain ⟨h1, h2⟩ := mark_keyC b c f
    simp only [markCs, List.map_cons, ih]
    congr 1
    unfold sizeC
    rw [h1, h2]
theorem mark_keyOf (b : Bool) (l : List C) (f : Int) : keyOf (markCs b l f).1 = keyOf l := by
  cases l with
  | nil => rfl
  | cons c l => simp only [markCs, keyOf]; exact (mark_keyC b c f).1
/-- A marked tree's entries have the same keys and values. -/
theorem mark_en : ∀ {d : Nat} {n : N} (f : Int), Nd d n → (enN (markN n f).1).map (fun c => (c.key, c.data)) = (enN n).map fun c => (c.key, c.data)
  | 0, n, f, hn => by
    rw [en_leaf hn.1, en_leaf (by rw [markN_leaf]; exact hn.1), markN_l]
    generalize n.leaf = b
    generalize n.l = l
    induction l generalizing f with
    | nil => rfl
    | cons c l ih =>
      obtain ⟨h1, h2⟩ := mark_keyC b c f
      simp only [markCs, List.map_cons, ih, h1, h2]
  | d + 1, n, f, hn => by
    rw [enN_eq, enN_eq n, markN_leaf, markN_l, hn.1]
    have : ∀ (l : List C) (f : Int), (∀ c, c ∈ l → c ∈ n.l) → ((markCs false l f).1.flatMap (enC false)).map (fun c => (c.key, c.data)) = (l.flatMap (enC false)).map fun c => (c.key, c.data) := by
      intro l
      induction l with
      | nil => intro f _; rfl
      | cons c l ih =>
        intro f hl
        obtain ⟨hs, k, hk, hnd⟩ := hn.2.2 c (hl c List.mem_cons_self)
        simp only [markCs, List.flatMap_cons, List.map_append]
        rw [ih _ fun c hc => hl c (List.mem_cons_of_mem _ hc), markC_br hk, enC_br (k := (markN k f).1) rfl, enC_br hk, mark_en f hnd]
    exact this n.l f fun _ h => h
theorem mark_in {d : Nat} {n : N} (f : Int) (hn : Nd d n) {x : C} (h : x ∈ enN (markN n f).1) : ∃ y, y ∈ enN n ∧ y.key = x.key ∧ y.data = x.data := by
  have : (x.key, x.data) ∈ (enN (markN n f).1).map fun c => (c.key, c.data) := List.mem_map_of_mem (f := fun c : C => (c.key, c.data)) h
  rw [mark_en f hn] at this
  obtain ⟨y, hy, e⟩ := List.mem_map.1 this
  simp only [Prod.mk.injEq] at e
  exact ⟨y, hy, e.1, e.2⟩
theorem markCs_pw {b : Bool} {R : C → C → Prop} : ∀ {l : List C} {f : Int}, (∀ c, c ∈ l → ∀ c', c' ∈ l → ∀ f f', R c c' → R (markC b c f).1 (markC b c' f').1) → l.Pairwise R → (markCs b l f).1.Pairwise R
  | [], _, _, _ => List.Pairwise.nil
  | c :: l, f, h, hp => by
    rw [List.pairwise_cons] at hp
    simp only [markCs]
    rw [List.pairwise_cons]
    refine ⟨fun x hx => ?_, markCs_pw (fun a ha a' ha' => h a (List.mem_cons_of_mem _ ha) a' (List.mem_cons_of_mem _ ha')) hp.2⟩
    obtain ⟨c', f', hc', rfl⟩ := markCs_mem b hx
    exact h c List.mem_cons_self c' (List.mem_cons_of_mem _ hc') f f' (hp.1 c' hc')
theorem good_mark : ∀ {d : Nat} {n : N} (f : Int), Good d n → Good d (markN n f).1
  | 0, n, f, h => by
    refine ⟨by rw [markN_leaf]; exact h.1, ?_, fun x hx => ?_⟩
    · rw [markN_l]
      exact markCs_pw (fun c _ c' _ f f' hr => by rw [(mark_keyC _ c f).1, (mark_keyC _ c' f').1]; exact hr) h.2.1
    · rw [markN_l, h.1] at hx
      obtain ⟨c, f', hc, rfl⟩ := markCs_mem true hx
      obtain ⟨w1, w2, w3, w4, w5, w6⟩ := h.2.2 c hc
      rw [markC_leaf]
      refine ⟨w1, w2, w3, fun e => ?_, ?_, w6⟩
      · show 16 < c.data.size
        simp only [C.pages_mk] at e
        split at e
        · assumption
        · exact w4 e
      · show (if 16 < c.data.size then pagesR f' (longN c.data.size) else c.pages).length ≤ 4
        split
        · exact mk_short w3 _
        · exact w5
  | d + 1, n, f, h => by
    have hB := h.2.2
    have hl := markCs_len n.leaf n.l f
    have hen : ∀ c, c ∈ n.l → ∀ f' x, x ∈ enC false (markC false c f').1 → ∃ y, y ∈ enC false c ∧ y.key = x.key := fun c hc f' x hx => by
      obtain ⟨_, _, k, hk, hg, _⟩ := hB.cell c hc
      rw [markC_br hk, enC_br (k := (markN k f').1) rfl] at hx
      obtain ⟨y, hy, e, _⟩ := mark_in f' (good_nd hg) hx
      exact ⟨y, by rw [enC_br hk]; exact hy, e⟩
    refine ⟨by rw [markN_leaf]; exact h.1, ?_, ⟨?_, ?_, fun x hx => ?_⟩⟩
    · rw [markN_l]
      intro e
      rw [e] at hl
      exact h.2.1 (List.eq_nil_of_length_eq_zero hl.symm)
    · rw [markN_l, mark_keyOf]; exact hB.k0
    · rw [markN_l, h.1]
      refine markCs_pw (fun c hc c' hc' f f' hr => ⟨by rw [(mark_keyC _ c f).1, (mark_keyC _ c' f').1]; exact hr.1, fun x hx => ?_⟩) hB.pw
      obtain ⟨y, hy, e⟩ := hen c hc f x hx
      rw [(mark_keyC _ c' f').1, ← e]
      exact hr.2 y hy
    · rw [markN_l, h.1] at hx
      obtain ⟨c, f', hc, rfl⟩ := markCs_mem false hx
      obtain ⟨w1, w2, k, hk, hg, hf⟩ := hB.cell c hc
      have hen' := hen c hc f'
      rw [markC_br hk] at hen' ⊢
      refine ⟨w1, fun x hx => ?_, _, rfl, good_mark f' hg, ?_, ?_⟩
      · obtain ⟨y, hy, e⟩ := hen' x hx
        rw [← e]; exact w2 y hy
      · rw [mark_sizes]; exact hf.1
      · rw [mark_sizes]; exact hf.2
theorem root_mark {n : N} (f : Int) (h : RootG n) : RootG (markN n f).1 := by
  obtain ⟨d, h1, h2, h3⟩ := h
  refine ⟨d, good_mark f h1, by rw [mark_sizes]; exact h2, ?_⟩
  rw [markN_leaf, markN_l, markCs_len]
  exact h3
theorem good_zp {d : Nat} {n : N} (h : Good d n) : ∀ x, x ∈ enN n → x.pages ≠ [] → 16 < x.data.size := fun x hx => (good_sh h x hx).2.2.2.1
theorem root_empty : RootG emptyN := ⟨0, ⟨rfl, List.Pairwise.nil, fun c hc => by cases hc⟩, by decide, .inl rfl⟩
/-- What is so of the trees of steps. -/
structure RI (q : N × N) : Prop where
  r1 : RootG q.1
  r2 : RootG q.2
  laid : LaidP q.1
  sub : ∀ p, (alN q.1).count p ≤ (alN q.2).count p
  one : ∀ p, (alN q.2).count p ≤ 1
theorem count_pages (f : Int) (k : Nat) (p : Int) : (pagesR f k).count p ≤ 1 := by
  have h : (pagesR f k).Nodup := (pagesR_rise f k).imp fun h => by omega
  exact List.nodup_iff_count.1 h p
theorem root_nd {n : N} (h : RootG n) : ∃ d, Nd d n ∧ ∀ x, x ∈ enN n → x.pages ≠ [] → 16 < x.data.size := by
  obtain ⟨d, h1, _⟩ := h
  exact ⟨d, good_nd h1, good_zp h1⟩
theorem ri_mark {q : N × N} (h : RI q) : RI ((markN q.1 2).1, (markN q.1 2).1) := by
  obtain ⟨d, h1, h2⟩ := root_nd h.r1
  have hf := mark_full 2 h1 h2 (by omega)
  exact ⟨root_mark 2 h.r1, root_mark 2 h.r1, full_laid (nd_mark 2 h1) hf, fun p => Nat.le_refl _, fun p => by
    rw [(mark_al 2 h1 h2 (by omega)).2.count_eq]; exact count_pages _ _ _⟩
theorem laid_empty : LaidP emptyN := .mk _ (fun e => absurd rfl e) (fun _ c hc => by cases hc) (fun _ c hc => by cases hc)
theorem ri_empty : RI (emptyN, emptyN) := ⟨root_empty, root_empty, laid_empty, fun p => Nat.le_refl _, fun p => by show List.count p [] ≤ 1; simp⟩
theorem ri_step {q : N × N} {s : Stp} (h : RI q) (hk0 : eqS s.key ByteArray.empty = false) (hk : s.key.size ≤ 16) (hz : s.size ≤ 400) : RI (stepN q s) := by
  have hq : RI (if s.laid then ((markN q.1 2).1, (markN q.1 2).1) else q) := by
    split
    · exact ri_mark h
    · exact h
  unfold stepN
  generalize (if s.laid then ((markN q.1 2).1, (markN q.1 2).1) else q) = p at hq
  simp only
  obtain ⟨d, h1, _⟩ := root_nd hq.r1
  have hk0 : s.key ≠ noS := eqS_no.1 hk0
  have hv : (zeroS s.size.toNat).size ≤ 400 := by rw [zeroS_size]; omega
  split
  · exact ⟨(root_del _ hq.r1).1, hq.r2, hered_Del laid_hered h1 hq.laid, fun x => Nat.le_trans (cn_Del x h1) (hq.sub x), hq.one⟩
  · exact ⟨(root_put hk0 hk hv hq.r1).1, hq.r2, hered_Put laid_hered hk hv (.inl rfl) h1 hq.laid, fun x => Nat.le_trans (cn_Put hk hv x h1) (hq.sub x), hq.one⟩
theorem ri_run {L : Nat} : ∀ (l : List Stp) (q : N × N), RI q → (l.all fun s => !badP L s) = true → RI (l.foldl stepN q)
  | [], q, h, _ => h
  | s :: l, q, h, ha => by
    rw [List.all_cons, Bool.and_eq_true] at ha
    have hb := bad_no ha.1
    exact ri_run l _ (ri_step h hb.1 hb.2.1 hb.2.2.1) ha.2
theorem run_inv {l : List Stp} (h : (l.all fun s => !badP l.length s) = true) : RI (runN l) := ri_run l _ ri_empty h
/-- Pages that rise, and are another tree's. -/
theorem pgs_sub {a b : N} (h : ∀ p, (alN a).count p ≤ (alN b).count p) {d e : Nat} (ha : Nd d a) (hb : Nd e b) : ∀ p, p ∈ pgsT a → p ∈ pgsT b := fun p hp => by
  rw [pgs_al ha] at hp
  rw [pgs_al hb]
  have h1 := (srt_perm _).mem_iff.1 hp
  refine (srt_perm _).mem_iff.2 ?_
  have := h p
  have := List.count_pos_iff.2 h1
  exact List.count_pos_iff.1 (by omega)
theorem pgs_rise {a : N} (h : ∀ p, (alN a).count p ≤ 1) {d : Nat} (ha : Nd d a) : (pgsT a).Pairwise (· < ·) := by
  rw [pgs_al ha]
  have h1 := srt_up (alN a)
  have h2 : (srt (alN a)).Nodup := (srt_perm _).nodup_iff.2 (List.nodup_iff_count.2 h)
  refine List.Pairwise.imp (R := fun x y => x ≤ y ∧ x ≠ y) (fun h => by omega) (h1.and h2)
end Go.Proofs.Ytkibkahknibgfaa

namespace Go.Proofs.Ytkibkahknibgfaa
open Aml Go
set_option linter.unusedVariables false
set_option linter.unusedSimpArgs false
set_option maxRecDepth 100000

theorem leafPut_mid {A B : List C} {b : C} {key val : ByteArray} (h : Rise (A ++ b :: B)) (hb : b.key = key) : leafPut (A ++ b :: B) key val = A ++ .mk key val [] [] :: B := by
  unfold Rise at h
  rw [pw_app, List.pairwise_cons] at h
  have h1 : ∀ a, a ∈ A → ltS a.key key = true := fun a ha => hb ▸ h.2.2 a ha b List.mem_cons_self
  have h2 : ∀ x, x ∈ b :: B → ltS x.key key = false := fun x hx => by
    rcases List.mem_cons.1 hx with rfl | hx
    · rw [hb]; exact ltS_irrefl _
    · exact ltS_asymm (hb ▸ h.2.1.1 x hx)
  have hi := idx_app h1 h2
  unfold leafPut
  simp only [hi]
  rw [List.getElem?_append_right (Nat.le_refl _), Nat.sub_self, List.getElem?_cons_zero]
  simp only
  rw [if_pos (eqS_iff.2 hb), withC_app]
  simp
theorem mend_same {A B : List C} {key : ByteArray} {k : N} (h : Fits k) : mendN (.mk 0 false (A ++ cellN key k :: B)) A.length = .mk 0 false (A ++ cellN key k :: B) := by
  have e1 : partedN (.mk 0 false (A ++ cellN key k :: B)) k A.length key = (.mk 0 false (A ++ cellN key k :: B), false) := by
    unfold partedN
    simp only [atR_zero h.2, if_true]
  have e2 : kid0 (cellN key k) = k := rfl
  have e3 : (cellN key k).key = key := rfl
  unfold mendN
  simp only [N.l_mk, cellAt_app, e2, e3, e1]
  rw [if_neg (by simp), if_pos]
  unfold lowR
  have := h.1
  simp; omega
theorem rfS_app (b : Bool) (l m : List C) : rfS b (l ++ m) = rfS b l + rfS b m := by unfold rfS; rw [List.map_append, List.sum_append]
theorem rfS_cons (b : Bool) (c : C) (l : List C) : rfS b (c :: l) = rfC b c + rfS b l := by unfold rfS; rw [List.map_cons, List.sum_cons]
theorem rfS_zero {b : Bool} {l : List C} (h : ∀ c, c ∈ l → rfC b c = 0) : rfS b l = 0 := by
  induction l with
  | nil => rfl
  | cons c l ih => rw [rfS_cons, h c List.mem_cons_self, ih fun x hx => h x (List.mem_cons_of_mem _ hx)]
theorem same_sizes (b : Bool) {A B : List C} {c c' : C} (h : sizeC b c' = sizeC b c) : (A ++ c' :: B).map (sizeC b) = (A ++ c :: B).map (sizeC b) := by rw [List.map_append, List.map_cons, List.map_append, List.map_cons, h]
theorem same_tC (b : Bool) {A B : List C} {c c' : C} (h : tC b c' = tC b c) : ((A ++ c' :: B).map (tC b)).sum = ((A ++ c :: B).map (tC b)).sum := by rw [List.map_append, List.map_cons, List.map_append, List.map_cons, h]
theorem frT_mk {d : Nat} {b : Bool} {l : List C} (h : Nd d (.mk 0 b l)) (hl : l ≠ []) : frT (.mk 0 b l) = 1 + rfS b l := by
  have h1 : ¬ ((N.mk 0 b l).leaf = true ∧ (N.mk 0 b l).l = []) := fun e => hl e.2
  have h2 : ¬ (N.mk 0 b l).page ≠ 0 := fun e => e rfl
  rw [frT_eq h, if_neg h2, if_neg h1]; rfl
/-- What a value of the same size takes. -/
theorem put_same {key val : ByteArray} (hk : key.size ≤ 16) (hv : val.size ≤ 400) : ∀ {d : Nat} {n : N} {x : C}, Good d n → FullP n → x ∈ enN n → x.key = key → x.data.size = val.size → sizesN (putN key val n) = sizesN n ∧ (putN key val n).leaf = n.leaf ∧ (putN key val n).l.length = n.l.length ∧ frT (putN key val n) = d + 1 + longN val.size ∧ tN (putN key val n) = tN n
  | 0, n, x, h, hf, hx, hxk, hxs => by
    rw [en_leaf h.1] at hx
    obtain ⟨A, B, hl⟩ := List.append_of_mem hx
    have hnd := nd_put hk hv (good_nd h)
    have hr : Rise (A ++ x :: B) := hl ▸ h.2.1
    have ep : putN key val n = .mk 0 true (A ++ .mk key val [] [] :: B) := by rw [putN_leaf _ _ _ h.1, hl, leafPut_mid hr hxk]
    rw [ep] at hnd ⊢
    have hcs : ∀ c, c ∈ n.l → c.pages.length = longN c.data.size := by
      cases hf with
      | leaf p l h hc => exact hc
      | br p l hp hkk => cases h.1
    have hz : ∀ c, c ∈ n.l → rfC true c = 0 := fun c hc => by
      have h1 := hcs c hc
      have h2 := (h.2.2 c hc).2.2.1
      show fc1 c = 0
      unfold fc1
      split
      · rename_i e
        rw [e] at h1
        rw [need_long h2]; exact h1.symm
      · rfl
    refine ⟨?_, h.1.symm, by rw [hl, N.l_mk]; simp, ?_, ?_⟩
    · rw [sizes_mk, sizes_leaf h.1, hl]
      refine same_sizes true ?_
      unfold sizeC
      rw [C.key_mk, C.data_mk, hxs, hxk]
    · rw [frT_mk hnd (by simp), rfS_app, rfS_cons, rfS_zero fun c hc => hz c (by rw [hl]; simp [hc]), rfS_zero (l := B) fun c hc => hz c (by rw [hl]; simp [hc])]
      have : rfC true (.mk key val [] []) = longN val.size := by
        show fc1 (.mk key val [] []) = longN val.size
        unfold fc1
        exact (if_pos (show (C.mk key val [] []).pages = [] from rfl)).trans (need_long hv)
      omega
    · rw [tN_mk, tN_eq, h.1, hl, if_neg (by simp), if_neg (by simp)]
      rw [same_tC true]
      rw [tC_leaf, tC_leaf, hxs]; rfl
  | d + 1, n, x, h, hf, hx, hxk, hxs => by
    have hB := h.2.2
    have hnd := nd_put hk hv (good_nd h)
    obtain ⟨A, c, B, hl, hw, hA, hc, hBk⟩ := way_split hB h.2.1 key
    have hcl : n.l[way n.l key]? = some c := by rw [← hw]; conv => lhs; rw [hl]
                                                simp
    obtain ⟨o1, o2, kid, hkid, o4, o5⟩ := hB.cell c (List.mem_of_getElem? hcl)
    have hen : enN n = A.flatMap (enC false) ++ (enN kid ++ B.flatMap (enC false)) := by rw [enN_eq, h.1, hl, List.flatMap_append, List.flatMap_cons, enC_br hkid]
    rw [hl] at hB
    have hxk' : x ∈ enN kid := by
      rw [hen] at hx
      rcases List.mem_append.1 hx with hx | hx
      · obtain ⟨a, ha, hx⟩ := List.mem_flatMap.1 hx
        exact absurd hxk (ltS_ne (hA a ha x hx))
      · rcases List.mem_append.1 hx with hx | hx
        · exact hx
        · exact absurd hxk.symm (ltS_ne (brG_lt hB hBk x hx))
    have hks : ∀ c, c ∈ n.l → ∀ k, c.kid = [k] → FullP k := by
      cases hf with
      | leaf p l h hc => cases h.1
      | br p l hp hkk => exact hkk
    obtain ⟨i1, i2, i3, i4, i5⟩ := put_same hk hv o4 (hks c (List.mem_of_getElem? hcl) kid hkid) hxk' hxk hxs
    have hfit : Fits (putN key val kid) := by unfold Fits; rw [i1]; exact o5
    have ep : putN key val n = .mk 0 false (A ++ cellN c.key (putN key val kid) :: B) := by rw [putN_br _ _ _ h.1 hcl hkid, ← hw, hl, withC_app, List.append_assoc, List.singleton_append, mend_same hfit]
    rw [ep] at hnd ⊢
    have hz : ∀ c, c ∈ n.l → rfC false c = 0 := fun c hc => by
      obtain ⟨_, _, k, hk, hg, _⟩ := h.2.2.cell c hc
      show frT (kid0 c) = 0
      rw [kid0_eq hk]
      exact full_fr (good_nd hg) (hks c hc k hk)
    refine ⟨?_, h.1.symm, by rw [hl, N.l_mk]; simp, ?_, ?_⟩
    · rw [sizes_mk, sizes_branch h.1, hl]
      exact same_sizes false rfl
    · rw [frT_mk hnd (by simp), rfS_app, rfS_cons, rfS_zero fun c hc => hz c (by rw [hl]; simp [hc]), rfS_zero (l := B) fun c hc => hz c (by rw [hl]; simp [hc])]
      have : rfC false (cellN c.key (putN key val kid)) = d + 1 + longN val.size := i4
      omega
    · rw [tN_mk, tN_eq, h.1, hl, if_neg (by simp), if_neg (by simp)]
      rw [same_tC false]
      rw [tC_br (k := putN key val kid) rfl, tC_br hkid, i5]
theorem root_same {key val : ByteArray} (hk : key.size ≤ 16) (hv : val.size ≤ 400) {d : Nat} {n : N} {x : C} (h : Good d n) (hs : (sizesN n).sum ≤ 122) (h2 : n.leaf = true ∨ 2 ≤ n.l.length) (hf : FullP n) (hx : x ∈ enN n) (hxk : x.key = key) (hxs : x.data.size = val.size) :
    frT (Put key val n) = d + 1 + longN val.size ∧ tN (Put key val n) = tN n := by
  obtain ⟨i1, i2, i3, i4, i5⟩ := put_same hk hv h hf hx hxk hxs
  unfold Put
  rw [topN_else _ (by rw [i2, i3]; exact h2.imp id fun h => by omega), i1, if_pos (atR_zero hs)]
  exact ⟨i4, i5⟩
end Go.Proofs.Ytkibkahknibgfaa

namespace Go.Proofs.Ytkibkahknibgfaa
open Aml Go Go.RowKit Go.ChangeShapes Go.WideShapes Go.ChangeAt
set_option linter.unusedVariables false
set_option linter.unusedSimpArgs false
set_option maxRecDepth 100000

/-- An entry, without its pages. -/
def bareC (c : C) : C := .mk c.key c.data [] []
def entsN (n : N) : List C := (enN n).map bareC
def entC (b : Bool) (c : C) : List C := (enC b c).map bareC
theorem entsN_eq (n : N) : entsN n = n.l.flatMap (entC n.leaf) := by unfold entsN; rw [enN_eq, List.map_flatMap]; rfl
theorem entC_leaf (c : C) : entC true c = [bareC c] := by unfold entC; rw [enC_leaf]; rfl
theorem entC_br {c : C} {k : N} (h : c.kid = [k]) : entC false c = entsN k := by unfold entC; rw [enC_br h]; rfl
theorem en_le : ∀ {d : Nat} {n : N}, Nd d n → (enN n).length ≤ totN n
  | 0, n, h => by rw [en_leaf h.1]; exact tot_len n
  | d + 1, n, h => by
    rw [enN_eq, h.1, totN_tot]
    have : ∀ l : List C, (∀ c, c ∈ l → c ∈ n.l) → (l.flatMap (enC false)).length ≤ tot l := by
      intro l
      induction l with
      | nil => intro _; exact Nat.zero_le _
      | cons c l ih =>
        intro hl
        obtain ⟨_, k, hk, hnd⟩ := h.2.2 c (hl c List.mem_cons_self)
        have h1 := ih fun c hc => hl c (List.mem_cons_of_mem _ hc)
        have h2 := en_le hnd
        rw [List.flatMap_cons, List.length_append, tot_cons, totC_kid hk, enC_br hk]; omega
    exact this n.l fun _ h => h
theorem entT_le (b : Bool) (l : List C) (k : Nat) : ((l.take k).flatMap (entC b)).length ≤ (l.flatMap (entC b)).length := by
  have := congrArg (List.flatMap (entC b)) (List.take_append_drop k l)
  have := congrArg List.length this
  simp only [List.flatMap_append, List.length_append] at this
  omega
theorem entT_succ {b : Bool} {l : List C} {k : Nat} {c : C} (h : l[k]? = some c) : (l.take (k + 1)).flatMap (entC b) = (l.take k).flatMap (entC b) ++ entC b c := by
  rw [List.take_add_one, h]; simp
/-- An entry as it is made. -/
@[go_sem] def nilC (c : C) : DV := .agg [dS c.key, dS c.data, .sl 0 true [], .sl 0 true []]
theorem wk_nilC (c : C) : Wk (nilC c) (dC (bareC c)) := by
  rw [dC_eq]
  exact .agg (.cons (.refl _) (.cons (.refl _) (.cons (.nil _ _ _) (.cons (.nil _ _ _) .nil))))
set_option maxHeartbeats 4000000 in
theorem entriesW (w0 : W0) : ∀ (d : Nat) (n : N) (S : St), Nd d n → totN n ≤ 131072 → ACall Try.prog w0 38 [eN n] S (fun e S' => e = .sl 4 false ((entsN n).map dC) ∧ S' = S) := by
  intro d
  induction d with
  | zero =>
    intro n S hn ht
    have hlf := hn.1
    have hl := tot_len n
    have hm8 : maxLen = 9223372036854775807 := rfl
    refine fnS [2] mx Try.func38 rfl rfl (by kernel_rfl) ?_; simp (maxDischargeDepth := 12) (maxSteps := 1000000) -implicitDefEqProofs only [Try.ntmps38, go_sem, Nat.reduceAdd, Nat.reduceSub, Nat.reduceMul, Nat.reduceLeDiff, Nat.reduceEqDiff, Nat.reduceGT, Nat.reduceBEq, reduceCtorEq, ↓reduceIte, Int.reduceToNat, Int.reduceLE, Int.reduceLT, Int.reduceNe, Int.reduceEq,  hlf]
    intro b
    refine growK 3 4 rfl (by omega) fun lp => ?_
    refine shrK [] [] mx (by kernel_rfl) ?_
    simp (maxDischargeDepth := 12) (maxSteps := 1000000) -implicitDefEqProofs only [go_sem, Nat.reduceAdd, Nat.reduceSub, Nat.reduceMul, Nat.reduceLeDiff, Nat.reduceEqDiff, Nat.reduceGT, Nat.reduceBEq, reduceCtorEq, ↓reduceIte, Int.reduceToNat, Int.reduceLE, Int.reduceLT, Int.reduceNe, Int.reduceEq]
    refine loopN [] n.l.length [1, 3, 4] (fun k => [(3, .acc lp.n k), (4, dI k)]) (fun k => ⟨(b.n, [dI n.page, dB true, .sl 4 false (n.l.map dC)]) :: S.box, (lp.n, .arr 4 ((n.l.take k).map nilC)) :: S.acc⟩) (fun _ => True) mx (by kernel_rfl) ?_ ?_
    · simp (maxDischargeDepth := 12) (maxSteps := 1000000) -implicitDefEqProofs only [go_sem, Nat.reduceAdd, Nat.reduceSub, Nat.reduceMul, Nat.reduceLeDiff, Nat.reduceEqDiff, Nat.reduceGT, Nat.reduceBEq, reduceCtorEq, ↓reduceIte, Int.reduceToNat, Int.reduceLE, Int.reduceLT, Int.reduceNe, Int.reduceEq]
    · intro k hk _
      have hml : (n.l.take k).length = k := by rw [List.length_take]; omega
      simp (maxDischargeDepth := 12) (maxSteps := 1000000) -implicitDefEqProofs only [go_sem, Nat.reduceAdd, Nat.reduceSub, Nat.reduceMul, Nat.reduceLeDiff, Nat.reduceEqDiff, Nat.reduceGT, Nat.reduceBEq, reduceCtorEq, ↓reduceIte, Int.reduceToNat, Int.reduceLE, Int.reduceLT, Int.reduceNe, Int.reduceEq, hml]
      refine ⟨fun hlt => ⟨hlt, fun c hc => ⟨hlt, fun c2 hc2 => ?_⟩⟩, fun hge => ?_⟩
      · rw [hc] at hc2
        cases hc2
        have ht1 : n.l.take (k + 1) = n.l.take k ++ [c] := by rw [List.take_add_one, hc]; rfl
        refine ⟨by omega, by omega, hlt, by rw [w64 (by omega) (by omega)]; omega, ?_⟩
        rw [ht1, List.map_append]; exact .refl _
      · rw [List.take_of_length_le (by omega)]
        have he : (entsN n).map dC = n.l.map fun c => dC (bareC c) := by unfold entsN; rw [en_leaf hlf, List.map_map]; rfl
        rw [he]
        exact (Wk.sl (WkL.map wk_nilC n.l))
  | succ d ih =>
    intro n S hn ht
    have hlf := hn.1
    have hl := tot_len n
    have hq := entsN_eq n
    have hle := en_le hn
    have hel : (entsN n).length = (enN n).length := by unfold entsN; rw [List.length_map]
    rw [hlf] at hq
    have hm8 : maxLen = 9223372036854775807 := rfl
    refine fnS [2] mx Try.func38 rfl rfl (by kernel_rfl) ?_; simp (maxDischargeDepth := 12) (maxSteps := 1000000) -implicitDefEqProofs only [Try.ntmps38, go_sem, Nat.reduceAdd, Nat.reduceSub, Nat.reduceMul, Nat.reduceLeDiff, Nat.reduceEqDiff, Nat.reduceGT, Nat.reduceBEq, reduceCtorEq, ↓reduceIte, Int.reduceToNat, Int.reduceLE, Int.reduceLT, Int.reduceNe, Int.reduceEq,  hlf]
    intro b
    refine growK 3 4 rfl (by omega) fun lp => ?_
    refine shrK [] [] mx (by kernel_rfl) ?_
    simp (maxDischargeDepth := 12) (maxSteps := 1000000) -implicitDefEqProofs only [go_sem, Nat.reduceAdd, Nat.reduceSub, Nat.reduceMul, Nat.reduceLeDiff, Nat.reduceEqDiff, Nat.reduceGT, Nat.reduceBEq, reduceCtorEq, ↓reduceIte, Int.reduceToNat, Int.reduceLE, Int.reduceLT, Int.reduceNe, Int.reduceEq]
    refine loopN [] n.l.length [1, 3, 4] (fun k => [(3, .acc lp.n ((n.l.take k).flatMap (entC false)).length), (4, dI k)]) (fun k => ⟨(b.n, [dI n.page, dB false, .sl 4 false (n.l.map dC)]) :: S.box, (lp.n, .arr 4 (((n.l.take k).flatMap (entC false)).map dC)) :: S.acc⟩) (fun _ => True) mx (by kernel_rfl) ?_ ?_
    · simp (maxDischargeDepth := 12) (maxSteps := 1000000) -implicitDefEqProofs only [go_sem, Nat.reduceAdd, Nat.reduceSub, Nat.reduceMul, Nat.reduceLeDiff, Nat.reduceEqDiff, Nat.reduceGT, Nat.reduceBEq, reduceCtorEq, ↓reduceIte, Int.reduceToNat, Int.reduceLE, Int.reduceLT, Int.reduceNe, Int.reduceEq]
      exact ⟨.refl _, .refl _⟩
    · intro k hk _
      have h1 := entT_le false n.l k
      have h2 := entT_le false n.l (k + 1)
      rw [← hq] at h1 h2
      simp (maxDischargeDepth := 12) (maxSteps := 1000000) -implicitDefEqProofs only [go_sem, Nat.reduceAdd, Nat.reduceSub, Nat.reduceMul, Nat.reduceLeDiff, Nat.reduceEqDiff, Nat.reduceGT, Nat.reduceBEq, reduceCtorEq, ↓reduceIte, Int.reduceToNat, Int.reduceLE, Int.reduceLT, Int.reduceNe, Int.reduceEq]
      refine ⟨fun hlt => ⟨hlt, fun c hc => ?_⟩, fun hge => ?_⟩
      · obtain ⟨hs, kid, hkid, hnd⟩ := hn.2.2 c (List.mem_of_getElem? hc)
        have htk := tot_kid (List.mem_of_getElem? hc) hkid
        have hkl : ((n.l.take (k + 1)).flatMap (entC false)) = (n.l.take k).flatMap (entC false) ++ entsN kid := by rw [entT_succ hc, entC_br hkid]
        have hkn := congrArg List.length hkl
        rw [List.length_append] at hkn
        rw [hkid]
        refine ⟨by simp, fun kid2 hkid2 => ?_⟩
        cases hkid2
        refine use1 (ih kid _ hnd (by omega)) ?_
        simp (maxDischargeDepth := 12) (maxSteps := 1000000) -implicitDefEqProofs only [go_sem, Nat.reduceAdd, Nat.reduceSub, Nat.reduceMul, Nat.reduceLeDiff, Nat.reduceEqDiff, Nat.reduceGT, Nat.reduceBEq, reduceCtorEq, ↓reduceIte, Int.reduceToNat, Int.reduceLE, Int.reduceLT, Int.reduceNe, Int.reduceEq]
        refine ⟨by omega, by omega, hlt, ⟨.eq (by rw [hkn]), by rw [w64 (by omega) (by omega)]; omega⟩, ?_⟩
        rw [hkl, List.map_append]
        exact .refl _
      · rw [List.take_of_length_le (by omega), hq]
        exact .refl _
set_option maxHeartbeats 4000000 in
theorem farW (w0 : W0) (d : Nat) (n : N) (S : St) (hn : Nd d n) (hd : d ≤ 1048576) : ACall Try.prog w0 40 [eN n] S (fun e S' => e = dI ((d + 1 : Nat) : Int) ∧ S' = S) := by
  refine fnS [] mx Try.func40 rfl rfl (by kernel_rfl) ?_; simp (maxDischargeDepth := 12) (maxSteps := 1000000) -implicitDefEqProofs only [Try.ntmps40, go_sem, Nat.reduceAdd, Nat.reduceSub, Nat.reduceMul, Nat.reduceLeDiff, Nat.reduceEqDiff, Nat.reduceGT, Nat.reduceBEq, reduceCtorEq, ↓reduceIte, Int.reduceToNat, Int.reduceLE, Int.reduceLT, Int.reduceNe, Int.reduceEq]
  intro b
  refine loopK [] [1, 3] (fun s : N × Nat => [(3, dI ((d + 1 - s.2 : Nat) : Int))]) (fun s => ⟨(b.n, [dI s.1.page, dB s.1.leaf, .sl 4 false (s.1.l.map dC)]) :: S.box, S.acc⟩) (fun s => Nd s.2 s.1 ∧ s.2 ≤ d) (fun s => s.2) (n, d) mx (by kernel_rfl) ?_ ?_
  · simp (maxDischargeDepth := 12) (maxSteps := 1000000) -implicitDefEqProofs only [go_sem, Nat.reduceAdd, Nat.reduceSub, Nat.reduceMul, Nat.reduceLeDiff, Nat.reduceEqDiff, Nat.reduceGT, Nat.reduceBEq, reduceCtorEq, ↓reduceIte, Int.reduceToNat, Int.reduceLE, Int.reduceLT, Int.reduceNe, Int.reduceEq]
    exact ⟨hn, by omega⟩
  · rintro ⟨x, k⟩ ⟨h1, h2⟩
    simp only at h1 h2
    simp (maxDischargeDepth := 12) (maxSteps := 1000000) -implicitDefEqProofs only [go_sem, Nat.reduceAdd, Nat.reduceSub, Nat.reduceMul, Nat.reduceLeDiff, Nat.reduceEqDiff, Nat.reduceGT, Nat.reduceBEq, reduceCtorEq, ↓reduceIte, Int.reduceToNat, Int.reduceLE, Int.reduceLT, Int.reduceNe, Int.reduceEq]
    refine ⟨fun hlf => ?_, fun hlf => ?_⟩
    · cases k with
      | zero => rfl
      | succ k => have := h1.1; rw [hlf] at this; cases this
    · cases k with
      | zero => have := h1.1; rw [hlf] at this; cases this
      | succ k =>
        have hpos := List.length_pos_iff.2 h1.2.1
        refine ⟨by omega, fun a ha => ?_⟩
        obtain ⟨_, kid, hkid, hnd⟩ := h1.2.2 a (List.mem_of_getElem? ha)
        rw [hkid]
        refine ⟨by simp, fun kid2 hkid2 => ?_⟩
        cases hkid2
        exact ⟨(kid, k), ⟨hnd, by simp only; omega⟩, by simp only; omega, by rw [w64 (by omega) (by omega)]; omega, .refl _⟩
end Go.Proofs.Ytkibkahknibgfaa

namespace Go.Proofs.Ytkibkahknibgfaa
open Aml Go Go.RowKit Go.ChangeShapes Go.WideShapes Go.ChangeAt
set_option linter.unusedVariables false
set_option linter.unusedSimpArgs false
set_option maxRecDepth 100000

/-- Where one that is filtered out stands. -/
theorem flt_at {P : Int → Bool} {o : List Int} {i : Nat} {x : Int} (h : o[i]? = some x) : (P x = true → (o.filter P)[((o.take i).filter P).length]? = some x ∧ ((o.take (i + 1)).filter P).length = ((o.take i).filter P).length + 1) ∧ (P x = false → ((o.take (i + 1)).filter P).length = ((o.take i).filter P).length) := by
  obtain ⟨hlt, rfl⟩ := List.getElem?_eq_some_iff.1 h
  have e1 : o.filter P = (o.take i).filter P ++ (o[i] :: o.drop (i + 1)).filter P := by rw [← List.filter_append, ← List.drop_eq_getElem_cons hlt, List.take_append_drop]
  have e2 : (o.take (i + 1)).filter P = (o.take i).filter P ++ [o[i]].filter P := by rw [List.take_add_one, h, Option.toList_some, List.filter_append]
  refine ⟨fun hp => ?_, fun hp => ?_⟩
  · rw [e1, e2]
    rw [List.filter_cons, if_pos hp, List.filter_cons, if_pos hp]
    simp
  · rw [e2]; simp [hp]
theorem flt_in {p o : List Int} (hp : p.Pairwise (· < ·)) (ho : o.Pairwise (· < ·)) (h : ∀ x, x ∈ p → x ∈ o) : o.filter (hitI p) = p := by
  refine List.Perm.eq_of_pairwise (le := (· < ·)) (fun a b _ _ h1 h2 => by omega) (ho.filter _) hp ?_
  refine (List.perm_ext_iff_of_nodup ((ho.filter _).imp fun h => by omega) (hp.imp fun h => by omega)).2 fun x => ?_
  rw [List.mem_filter]
  unfold hitI
  rw [decide_eq_true_eq]
  exact ⟨fun h => h.2, fun hx => ⟨h x hx, hx⟩⟩
end Go.Proofs.Ytkibkahknibgfaa

namespace Go.Proofs.Ytkibkahknibgfaa
open Aml Go Go.RowKit Go.ChangeShapes Go.WideShapes Go.ChangeAt
set_option linter.unusedVariables false
set_option linter.unusedSimpArgs false
set_option maxRecDepth 100000

theorem entriesQ (w0 : W0) (n : N) (S : St) (h : Fine n) : ACall Try.prog w0 38 [eN n] S (fun e S' => e = .sl 4 false ((entsN n).map dC) ∧ S' = S) := by
  obtain ⟨d, hn, ht⟩ := h; exact entriesW w0 d n S hn ht
theorem nd_deep : ∀ {d : Nat} {n : N}, Nd d n → d ≤ totN n
  | 0, _, _ => Nat.zero_le _
  | d + 1, n, h => by
    obtain ⟨c, l, hl⟩ : ∃ c l, n.l = c :: l := by cases hx : n.l with | nil => exact absurd hx h.2.1 | cons c l => exact ⟨c, l, rfl⟩
    have hc : c ∈ n.l := by rw [hl]; exact List.mem_cons_self
    obtain ⟨_, k, hk, hnd⟩ := h.2.2 c hc
    have h1 := nd_deep hnd
    have h2 := tot_kid hc hk
    rw [hl, List.length_cons] at h2
    omega
/-- The row that is filled. -/
def rowZ (z k : Nat) : List Int := List.replicate k 122 ++ List.replicate (z - k) 0
theorem rowZ_len {z k : Nat} (h : k ≤ z) : (rowZ z k).length = z := by unfold rowZ; rw [List.length_append, List.length_replicate, List.length_replicate]; omega
theorem rowZ_set {z k : Nat} (h : k < z) : (rowZ z k).set k 122 = rowZ z (k + 1) := by
  unfold rowZ
  rw [List.set_append_right _ _ (by rw [List.length_replicate]; exact Nat.le_refl _), List.length_replicate, Nat.sub_self, show z - k = (z - (k + 1)) + 1 by omega, List.replicate_succ, List.set_cons_zero, List.replicate_succ', List.append_assoc]
  rfl
theorem rowZ_zero (z : Nat) : rowZ z 0 = List.replicate z 0 := by unfold rowZ; simp
/-- All that the statement asks of the laws. -/
theorem path_law {n : N} (hr : RootG n) (h1 : LaidP n) {x : C} (hx : x ∈ enN n) {val : ByteArray} (hv : val.size = x.data.size) :
    ∃ d, Nd d (markN n 2).1 ∧ Nd d n ∧ frT (Put x.key val (markN n 2).1) = d + 1 + longN x.data.size ∧
      (fltI (pgsT (Put x.key val (markN n 2).1)) (pgsT (markN n 2).1)).length = d + 1 + longN x.data.size ∧ (pgsT (Put x.key val (markN n 2).1)).length + (d + 1 + longN x.data.size) = (pgsT (markN n 2).1).length := by
  obtain ⟨d, g1, g2, g3⟩ := hr
  have hn := good_nd g1
  obtain ⟨w1, w2, w3, w4, w5, w6⟩ := good_sh g1 x hx
  have hval : val.size ≤ 400 := by omega
  have hf := mark_full 2 hn (good_zp g1) (by omega)
  have gm := good_mark 2 g1
  have hm := nd_mark 2 hn
  have hxm : (x.key, x.data) ∈ (enN (markN n 2).1).map fun c => (c.key, c.data) := by
    rw [mark_en 2 hn]
    exact List.mem_map_of_mem (f := fun c : C => (c.key, c.data)) hx
  obtain ⟨y, hy, e⟩ := List.mem_map.1 hxm
  simp only [Prod.mk.injEq] at e
  obtain ⟨s1, s2⟩ := root_same (key := x.key) (val := val) w2 hval gm (by rw [mark_sizes]; exact g2) (by rw [markN_leaf, markN_l, markCs_len]; exact g3) hf hy e.1 (by rw [e.2, hv])
  rw [hv] at s1
  obtain ⟨d', hd', hp, _⟩ := nd_Put (key := x.key) w2 hval hm
  have hl := hered_Put laid_hered (key := x.key) w2 hval (.inl rfl) hm (full_laid hm hf)
  have ht := laid_fr hp hl
  have hfl := full_len hm hf
  have e1 : (pgsT (Put x.key val (markN n 2).1)).length = (alN (Put x.key val (markN n 2).1)).length := by rw [pgs_al hp, srt_length]
  have e2 : (pgsT (markN n 2).1).length = (alN (markN n 2).1).length := by rw [pgs_al hm, srt_length]
  have hone : ∀ p, (alN (markN n 2).1).count p ≤ 1 := fun p => by rw [(mark_al 2 hn (good_zp g1) (by omega)).2.count_eq]; exact count_pages _ _ _
  have hsub : ∀ p, (alN (Put x.key val (markN n 2).1)).count p ≤ (alN (markN n 2).1).count p := fun p => cn_Put w2 hval p hm
  have hin := flt_in (pgs_rise (fun p => Nat.le_trans (hsub p) (hone p)) hp) (pgs_rise hone hm) (pgs_sub hsub hp hm)
  refine ⟨d, hm, hn, s1, ?_, by rw [e1, e2]; omega⟩
  have h1 := (List.filter_append_perm (hitI (pgsT (Put x.key val (markN n 2).1))) (pgsT (markN n 2).1)).length_eq
  rw [List.length_append, hin] at h1
  have h2 : (fltI (pgsT (Put x.key val (markN n 2).1)) (pgsT (markN n 2).1)).length = ((pgsT (markN n 2).1).filter fun p => !hitI (pgsT (Put x.key val (markN n 2).1)) p).length := rfl
  rw [h2]
  omega
set_option maxHeartbeats 8000000 in
theorem pathF (w0 : W0) (l : List Stp) (wh : Int) (S : St) (h0 : l.length ≤ 1048576) (hw0 : 0 ≤ wh) (hw1 : wh ≤ 255) : ACall Try.prog w0 8 [.sl 3 false (l.map dSt), dY wh] S (fun e S' => e = dB true ∧ S' = S) := by
  refine fnS [] mx Try.func8 rfl rfl (by kernel_rfl) ?_; simp (maxDischargeDepth := 12) (maxSteps := 1000000) -implicitDefEqProofs only [Try.ntmps8, go_sem, Nat.reduceAdd, Nat.reduceSub, Nat.reduceMul, Nat.reduceLeDiff, Nat.reduceEqDiff, Nat.reduceGT, Nat.reduceBEq, reduceCtorEq, ↓reduceIte, Int.reduceToNat, Int.reduceLE, Int.reduceLT, Int.reduceNe, Int.reduceEq]
  refine use1 (awakeW w0 _) ?_
  simp (maxDischargeDepth := 12) (maxSteps := 1000000) -implicitDefEqProofs only [go_sem, Nat.reduceAdd, Nat.reduceSub, Nat.reduceMul, Nat.reduceLeDiff, Nat.reduceEqDiff, Nat.reduceGT, Nat.reduceBEq, reduceCtorEq, ↓reduceIte, Int.reduceToNat, Int.reduceLE, Int.reduceLT, Int.reduceNe, Int.reduceEq]
  refine use1 (builtW w0 l _ h0) ?_
  rcases res_or l with ⟨hall, hres⟩ | ⟨q, q1, q2, hres⟩
  · rw [hres]
    obtain ⟨f1, f2⟩ := run_fine hall
    obtain ⟨r1, r2, r3, r4, r5⟩ := run_inv hall
    obtain ⟨hL, ⟨ds, hds, hnds, hts⟩, _⟩ := run_st hall
    simp (maxDischargeDepth := 12) (maxSteps := 1000000) -implicitDefEqProofs only [go_sem, Nat.reduceAdd, Nat.reduceSub, Nat.reduceMul, Nat.reduceLeDiff, Nat.reduceEqDiff, Nat.reduceGT, Nat.reduceBEq, reduceCtorEq, ↓reduceIte, Int.reduceToNat, Int.reduceLE, Int.reduceLT, Int.reduceNe, Int.reduceEq]
    generalize (runN l).1 = n at *
    generalize (runN l).2 = o at *
    intro b b1
    refine use1 (entriesQ w0 n _ f1) ?_
    simp (maxDischargeDepth := 12) (maxSteps := 1000000) -implicitDefEqProofs only [go_sem, Nat.reduceAdd, Nat.reduceSub, Nat.reduceMul, Nat.reduceLeDiff, Nat.reduceEqDiff, Nat.reduceGT, Nat.reduceBEq, reduceCtorEq, ↓reduceIte, Int.reduceToNat, Int.reduceLE, Int.reduceLT, Int.reduceNe, Int.reduceEq]
    intro he0
    refine use1 (markedQ w0 n 2 _ f1 (by omega) (by omega)) ?_
    simp (maxDischargeDepth := 12) (maxSteps := 1000000) -implicitDefEqProofs only [go_sem, Nat.reduceAdd, Nat.reduceSub, Nat.reduceMul, Nat.reduceLeDiff, Nat.reduceEqDiff, Nat.reduceGT, Nat.reduceBEq, reduceCtorEq, ↓reduceIte, Int.reduceToNat, Int.reduceLE, Int.reduceLT, Int.reduceNe, Int.reduceEq]
    have hlen : 0 < (entsN n).length := by omega
    have eidx : (IntKind.i64.wrap wh).tmod ((entsN n).length : Int) = ((wh.toNat % (entsN n).length : Nat) : Int) := by
      rw [w64 (by omega) (by omega), Int.tmod_eq_emod_of_nonneg hw0, Int.natCast_emod, Int.toNat_of_nonneg hw0]
    have hmod := Nat.mod_lt wh.toNat hlen
    intro b2
    rw [eidx, Int.toNat_natCast]
    refine ⟨he0, by omega, by omega, fun a ha b3 => ?_⟩
    obtain ⟨x, hx, rfl⟩ := List.mem_map.1 (List.mem_of_getElem? ha)
    have hsh : ShL x := by obtain ⟨d, g1, _⟩ := r1; exact good_sh g1 x hx
    obtain ⟨sh1, sh2, sh3, sh4, sh5, sh6⟩ := hsh
    have ez : (bareC x).data.size = x.data.size := rfl
    have ek : (bareC x).key = x.key := rfl
    rw [ez]
    refine ⟨by omega, by omega, fun b4 => ?_⟩
    have hrow : List.replicate x.data.size (DV.v (.int .u8 0)) = (rowZ x.data.size 0).map dY := by rw [rowZ_zero, List.map_replicate]; rfl
    obtain ⟨d, hm, hn, p1, p2, p3⟩ := path_law r1 r3 hx (val := strOfNums (rowZ x.data.size x.data.size)) (by rw [strOfNums_size, rowZ_len (Nat.le_refl _)])
    have fm := f1.mark 2
    have hmt := fm
    obtain ⟨dd, hdd, htm⟩ := hmt
    have hdm := nd_deep hm
    have hdd2 := nd_deep hdd
    refine loopN [] x.data.size [10, 12, 13, 14, 15] (fun k => [(15, dI k)]) (fun k => ⟨(b3.n, [dS x.key, dS x.data, .sl 1 false [], .sl 3 false []]) :: (b2.n, [dI (markN n 2).1.page, dB (markN n 2).1.leaf, .sl 4 false ((markN n 2).1.l.map dC)]) :: S.box, (b4.n, .arr 1 ((rowZ x.data.size k).map dY)) :: S.acc⟩) (fun _ => True) mx (by kernel_rfl) ?_ ?_
    · simp (maxDischargeDepth := 12) (maxSteps := 1000000) -implicitDefEqProofs only [go_sem, Nat.reduceAdd, Nat.reduceSub, Nat.reduceMul, Nat.reduceLeDiff, Nat.reduceEqDiff, Nat.reduceGT, Nat.reduceBEq, reduceCtorEq, ↓reduceIte, Int.reduceToNat, Int.reduceLE, Int.reduceLT, Int.reduceNe, Int.reduceEq, hrow, bareC]
    · intro k hk _
      have hrl := rowZ_len hk
      have hby : byD ((rowZ x.data.size k).map dY) = rowZ x.data.size k := (by_map _).1
      have hok : okBy ((rowZ x.data.size k).map dY) = true := (by_map _).2
      simp (maxDischargeDepth := 12) (maxSteps := 1000000) -implicitDefEqProofs only [go_sem, Nat.reduceAdd, Nat.reduceSub, Nat.reduceMul, Nat.reduceLeDiff, Nat.reduceEqDiff, Nat.reduceGT, Nat.reduceBEq, reduceCtorEq, ↓reduceIte, Int.reduceToNat, Int.reduceLE, Int.reduceLT, Int.reduceNe, Int.reduceEq, hrl, bareC, hby, hok]
      refine ⟨fun hlt => ⟨hlt, hlt, fun a ha => ⟨hlt, by rw [w64 (by omega) (by omega)]; omega, ?_⟩⟩, fun hge => ?_⟩
      · rw [← rowZ_set hlt, List.map_set]; exact .refl _
      have hkz : k = x.data.size := by omega
      rw [hkz]
      have htm2 : totN (markN n 2).1 ≤ 15000 := by rw [tot_mark 2 hnds]; omega
      have hvs : (strOfNums (rowZ x.data.size x.data.size)).size ≤ 400 := by rw [strOfNums_size, rowZ_len (Nat.le_refl _)]; exact sh3
      generalize (markN n 2).1 = m at *
      generalize strOfNums (rowZ x.data.size x.data.size) = val at *
      obtain ⟨d', hd', hp, htp⟩ := nd_Put (key := x.key) sh2 hvs hm
      have fa : Fine (Put x.key val m) := ⟨d', hp, by omega⟩
      refine use1 (PutW w0 x.key val sh2 hvs d m _ hm (by omega)) ?_
      simp (maxDischargeDepth := 12) (maxSteps := 1000000) -implicitDefEqProofs only [go_sem, Nat.reduceAdd, Nat.reduceSub, Nat.reduceMul, Nat.reduceLeDiff, Nat.reduceEqDiff, Nat.reduceGT, Nat.reduceBEq, reduceCtorEq, ↓reduceIte, Int.reduceToNat, Int.reduceLE, Int.reduceLT, Int.reduceNe, Int.reduceEq]
      generalize Put x.key val m = A at *
      refine use1 (nodeQ w0 A _ fa) ?_
      simp (maxDischargeDepth := 12) (maxSteps := 1000000) -implicitDefEqProofs only [go_sem, Nat.reduceAdd, Nat.reduceSub, Nat.reduceMul, Nat.reduceLeDiff, Nat.reduceEqDiff, Nat.reduceGT, Nat.reduceBEq, reduceCtorEq, ↓reduceIte, Int.reduceToNat, Int.reduceLE, Int.reduceLT, Int.reduceNe, Int.reduceEq]
      intro b5
      have hown : x.data.size > 16 → IntKind.i64.wrap ((IntKind.i64.wrap ((x.data.size : Int) + 118)).tdiv 119) = (longN x.data.size : Int) := fun h => by
        rw [w64 (n := (x.data.size : Int) + 118) (by omega) (by omega), Int.tdiv_eq_ediv_of_nonneg (by omega), w64 (by omega) (by omega)]
        unfold longN; rw [if_pos h]; omega
      have hown0 : ¬ x.data.size > 16 → longN x.data.size = 0 := fun h => by unfold longN; rw [if_neg h]
      have hl4 := longN_le sh3
      have hAp := fa.pgs
      have hmp := fm.pgs
      refine ⟨fun h16 => ?_, fun h16 => ?_⟩
      all_goals
        refine use1 (farW w0 d m _ hm (by omega)) ?_
        simp (maxDischargeDepth := 12) (maxSteps := 1000000) -implicitDefEqProofs only [go_sem, Nat.reduceAdd, Nat.reduceSub, Nat.reduceMul, Nat.reduceLeDiff, Nat.reduceEqDiff, Nat.reduceGT, Nat.reduceBEq, reduceCtorEq, ↓reduceIte, Int.reduceToNat, Int.reduceLE, Int.reduceLT, Int.reduceNe, Int.reduceEq]
        first | rw [hown (by omega)] | have hW0 := hown0 (by omega)
        generalize longN x.data.size = W at *
        have ew : IntKind.i64.wrap (((d + 1 : Nat) : Int) + W) = ((d + 1 + W : Nat) : Int) := by rw [w64 (by omega) (by omega)]; omega
        first | (have ew : IntKind.i64.wrap (((d + 1 : Nat) : Int) + 0) = ((d + 1 + W : Nat) : Int) := by rw [w64 (by omega) (by omega), hW0]; omega) | skip
        refine useQ (freshQ w0 A _ fa) ?_
        simp (maxDischargeDepth := 12) (maxSteps := 1000000) -implicitDefEqProofs only [go_sem, Nat.reduceAdd, Nat.reduceSub, Nat.reduceMul, Nat.reduceLeDiff, Nat.reduceEqDiff, Nat.reduceGT, Nat.reduceBEq, reduceCtorEq, ↓reduceIte, Int.reduceToNat, Int.reduceLE, Int.reduceLT, Int.reduceNe, Int.reduceEq, p1, ew]
        refine useQ (nodeQ w0 m _ fm) ?_
        simp (maxDischargeDepth := 12) (maxSteps := 1000000) -implicitDefEqProofs only [go_sem, Nat.reduceAdd, Nat.reduceSub, Nat.reduceMul, Nat.reduceLeDiff, Nat.reduceEqDiff, Nat.reduceGT, Nat.reduceBEq, reduceCtorEq, ↓reduceIte, Int.reduceToNat, Int.reduceLE, Int.reduceLT, Int.reduceNe, Int.reduceEq]
        refine useQ (lostQ w0 m A _ fm fa) ?_
        simp (maxDischargeDepth := 12) (maxSteps := 1000000) -implicitDefEqProofs only [go_sem, Nat.reduceAdd, Nat.reduceSub, Nat.reduceMul, Nat.reduceLeDiff, Nat.reduceEqDiff, Nat.reduceGT, Nat.reduceBEq, reduceCtorEq, ↓reduceIte, Int.reduceToNat, Int.reduceLE, Int.reduceLT, Int.reduceNe, Int.reduceEq, p2]
        refine useQ (pagesQ w0 A _ fa) ?_
        simp (maxDischargeDepth := 12) (maxSteps := 1000000) -implicitDefEqProofs only [go_sem, Nat.reduceAdd, Nat.reduceSub, Nat.reduceMul, Nat.reduceLeDiff, Nat.reduceEqDiff, Nat.reduceGT, Nat.reduceBEq, reduceCtorEq, ↓reduceIte, Int.reduceToNat, Int.reduceLE, Int.reduceLT, Int.reduceNe, Int.reduceEq]
        refine useQ (nodeQ w0 m _ fm) ?_
        simp (maxDischargeDepth := 12) (maxSteps := 1000000) -implicitDefEqProofs only [go_sem, Nat.reduceAdd, Nat.reduceSub, Nat.reduceMul, Nat.reduceLeDiff, Nat.reduceEqDiff, Nat.reduceGT, Nat.reduceBEq, reduceCtorEq, ↓reduceIte, Int.reduceToNat, Int.reduceLE, Int.reduceLT, Int.reduceNe, Int.reduceEq]
        refine useQ (pagesQ w0 m _ fm) ?_
        have e3 : IntKind.i64.wrap (((pgsT A).length : Int) + ((d + 1 + W : Nat) : Int)) = ((pgsT m).length : Int) := by rw [w64 (by omega) (by omega)]; omega
        simp (maxDischargeDepth := 12) (maxSteps := 1000000) -implicitDefEqProofs only [go_sem, Nat.reduceAdd, Nat.reduceSub, Nat.reduceMul, Nat.reduceLeDiff, Nat.reduceEqDiff, Nat.reduceGT, Nat.reduceBEq, reduceCtorEq, ↓reduceIte, Int.reduceToNat, Int.reduceLE, Int.reduceLT, Int.reduceNe, Int.reduceEq, e3]
  · rw [hres]
    simp (maxDischargeDepth := 12) (maxSteps := 1000000) -implicitDefEqProofs only [go_sem, Nat.reduceAdd, Nat.reduceSub, Nat.reduceMul, Nat.reduceLeDiff, Nat.reduceEqDiff, Nat.reduceGT, Nat.reduceBEq, reduceCtorEq, ↓reduceIte, Int.reduceToNat, Int.reduceLE, Int.reduceLT, Int.reduceNe, Int.reduceEq]
    intro b b1
    refine use1 (entriesQ w0 _ _ (q1.fine (Nat.le_refl _))) ?_
    simp (maxDischargeDepth := 12) (maxSteps := 1000000) -implicitDefEqProofs only [go_sem, Nat.reduceAdd, Nat.reduceSub, Nat.reduceMul, Nat.reduceLeDiff, Nat.reduceEqDiff, Nat.reduceGT, Nat.reduceBEq, reduceCtorEq, ↓reduceIte, Int.reduceToNat, Int.reduceLE, Int.reduceLT, Int.reduceNe, Int.reduceEq]
theorem freshPath_own : ownKnob Try.prog.godebug = none := by kernel_rfl
set_option maxHeartbeats 1000000 in
theorem freshPath_contract (H : Type) (enc : TypeId × Value → H) (W : World) (base : Nat) (args : Array Value) (ds gs : List (DataW H)) (before : List MemPlace)
    (hval : ∀ (j : Nat) t v, Try.f8.params[j]? = some t → args[j]? = some v → Value.okWide Try.prog W .any base t v)
    (hW : DataW.Whole enc Try.prog Try.f8.params.toList Rows.freshPathSpec.vars false W args.toList ds gs before) (hk : Rows.uptoBulkAll (ds ++ gs) ≤ 1048576) :
    Calls Try.prog 8 args W fun e W' => ∃ v, e = .returned v ∧ Rows.freshPathSpec.post enc Try.prog Try.f8 false true false false W args v W' :=
  law_contract enc (ts := [44, 5]) (tb := 4) (rdA_one rdSteps (by kernel_rfl) (rdA_one (rd_u8 Try.underlying5) (by kernel_rfl) rdA_nil)) Try.params8 rfl Try.underlying4 rfl (by kernel_rfl) (by intro t ht; revert t; decide +kernel) (fun ds hd => by
    first
    | (match ds, hd with | [_], _ => rfl)
    | (match ds, hd with | [_, _], _ => rfl)
    | (match ds, hd with | [_, _, _], _ => rfl)
    | (match ds, hd with | [_, _, _, _], _ => rfl)) (fun a ha hs => (pathF W a.1 a.2.1 ⟨[], []⟩ (by omega) (by omega) (by omega)).mono fun d S' h => h.1) base args ds gs before hval hW hk
set_option maxRecDepth 100000 in
theorem freshPath_lifted (os : Os) (started : os.Started) (H : Type) (enc : TypeId × Value → H) (F : Stop.Interp) :
    ReturnsInHanded {} Try.checked os 8 .any ((Rows.OpenSpec.upto Rows.freshPathSpec).pre6 enc Try.prog Try.f8 Rows.freshPathUptoRow.domain false) (((Rows.OpenSpec.upto Rows.freshPathSpec).at F).post enc Try.prog Try.f8 false true false false) := by
  refine returnsInHanded_of_cond (C := Try.checked) (s := Rows.OpenSpec.upto Rows.freshPathSpec) (k := Rows.uptoSmall) rfl freshPath_own started (by kernel_rfl) Try.func8
    (OpenSpec.witness (enc := enc) (C := Try.checked) (s := Rows.OpenSpec.upto Rows.freshPathSpec) (k := Rows.uptoSmall) rfl false ⟨#[], #[.slice none 0 0, .int .u8 0], []⟩ 8 (by kernel_rfl) (by kernel_rfl) (by kernel_rfl)
      (x := ([.nil, .lit (.int .u8 0)], [], [])) (by kernel_rfl) rfl (by kernel_rfl)) ?_
  intro W base args ds gs before hval hW _ hk _
  exact freshPath_contract H enc W base args ds gs before hval hW (of_decide_eq_true hk)
/-- THE STATEMENT. -/
theorem freshPath_holds : Rows.FreshPathUptoSaid :=
  OpenClaim.holds_of_cond 8 Try.f8 rfl rfl rfl rfl rfl rfl rfl ⟨rfl, rfl, rfl, rfl, rfl⟩ rfl rfl rfl rfl rfl (by kernel_rfl) Try.func8 (by kernel_rfl)
    (of_decide_eq_true (by kernel_rfl)) (by unfold Func.isWrapper; first | (rw [if_pos (by decide +kernel)]; kernel_rfl) | (rw [if_neg (by decide +kernel)]; exact ⟨rfl, rfl⟩))
    (fun os started H enc _ F => freshPath_lifted os started H enc F)

end Go.Proofs.Ytkibkahknibgfaa
