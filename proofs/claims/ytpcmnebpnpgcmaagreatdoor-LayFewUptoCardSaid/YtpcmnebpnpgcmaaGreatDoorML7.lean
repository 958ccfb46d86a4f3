/-
  A tree laid on pages: plain laws; A tree laid on pages: what it stays; A tree laid on pages: the pages it has; What trees keep when they are mended: whatever cells tell; pages are never new: plain laws; The trees of steps, by the references; The example of the statement is as it says; Marked trees: their pages, and how many are taken: plain laws; What the trees of steps are: plain laws; A tree laid on pages: all of it is laid; A tree laid on pages: its entries may stand on a page; A laid tree stands on pages: plain laws; A tree laid on pages: what the reference computes; What stands on a node's page: what the program computes is the reference's; Values and nodes laid one by one: what the program computes is the reference's; A tree laid on pages: what the program computes is the reference's; Whether a tree may be: what the reference computes; Whether a tree may be, whole: what the reference computes; Views laid on pages: plain laws; Whether a tree may be laid, and the laid one: what the reference computes; How far a tree's leaves are; whether it may be: what the program computes; Whether a tree may be laid, and the laid one: what the program computes is the reference's; Whether a tree may be laid, and the laid one, whatever pages are given: what the reference computes; The law's trees, as the program has them, of the reference's, and back; pages that a tree hasn't; The law's trees back as the reference has them; What is the same is the same: what the program computes; The reference's views: what it computes; A good tree's copy is itself; the law's helpers, of trees that steps come to; The law's trees behind steps: what they are; The law's guard against a dead program; What is written when a tree is laid: the pages that are taken, in order, each of 128 bytes. By an AI agent.
-/
import Derived.Test.YtpcmnebpnpgcmaaGreatDoorML6
import Derived.Test.YtpcmnebpnpgcmaaGreatDoorML5
import Derived.Test.YtpcmnebpnpgcmaaGreatDoorML4
set_option linter.unusedVariables false
set_option linter.unusedSimpArgs false
set_option maxRecDepth 100000
set_option maxHeartbeats 16000000
namespace Go.Proofs.YtpcmnebpnpgcmaaGreatDoor
open Aml Go
theorem layCs_left {b : Bool} : ∀ {l : List C} {q : LS}, (∀ c, c ∈ l → ∀ q : LS, (layC b c q).2.1 = q.1.drop (rfC b c)) → (layCs b l q).2.1 = q.1.drop (rfS b l)
 | [], q, _ => by simp [layCs, rfS]
 | c :: l, q, h => by
  have h1 := h c List.mem_cons_self q
  have h2 := layCs_left (l := l) (q := (layC b c q).2) fun c hc => h c (List.mem_cons_of_mem _ hc)
  simp only [layCs]
  rw [h2, h1, List.drop_drop]
  unfold rfS
  rw [List.map_cons, List.sum_cons]
theorem layN_left : ∀ {d : Nat} {n : N} {q : LS}, Nd d n → (layN n q).2.1 = q.1.drop (frT n) := by
 have fin : ∀ {d : Nat} {n : N} {q : LS}, Nd d n → (∀ c, c ∈ n.l → ∀ q : LS, (layC n.leaf c q).2.1 = q.1.drop (rfC n.leaf c)) → (layN n q).2.1 = q.1.drop (frT n) := by
  intro d n q hn h
  rw [layN_eq, frT_eq hn]
  by_cases hp : n.page ≠ 0
  ·rw [if_pos (.inl hp), if_pos hp]; simp
  ·rw [if_neg hp]
   by_cases hz : n.leaf = true ∧ n.l = []
   ·rw [if_pos (.inr hz), if_pos hz]; simp
   ·rw [if_neg (fun e => e.elim hp hz), if_neg hz]
    show (layCs n.leaf n.l q).2.1.tail = _
    rw [layCs_left h, List.tail_drop, Nat.add_comm]
 intro d
 induction d with
 | zero =>
  intro n q hn
  refine fin hn fun c hc q => ?_
  rw [hn.1, layC_leaf]
  obtain ⟨m, h1, h2⟩ := layV_left c.data c.pages q
  rw [h1, h2]; rfl
 | succ d ih =>
  intro n q hn
  refine fin hn fun c hc q => ?_
  obtain ⟨_, k, hk, hnd⟩ := hn.2.2 c hc
  rw [hn.1, layC_br hk]
  have : rfC false c = frT k := by rw [← kid0_eq hk]; rfl
  rw [this]
  exact ih hnd
theorem layN_leaf (n : N) (q : LS) : (layN n q).1.leaf = n.leaf := by rw [layN_eq]; split <;> rfl
theorem layN_l (n : N) (q : LS) : (layN n q).1.l = if n.page ≠ 0 ∨ (n.leaf = true ∧ n.l = []) then n.l else (layCs n.leaf n.l q).1 := by rw [layN_eq]; split <;> rfl
theorem lay_keyC (b : Bool) (c : C) (q : LS) : (layC b c q).1.key = c.key ∧ (layC b c q).1.data = c.data := by
 cases c; cases b <;> exact ⟨rfl, rfl⟩
theorem lay_sizeC (b : Bool) (c : C) (q : LS) : sizeC b (layC b c q).1 = sizeC b c := by
 obtain ⟨h1, h2⟩ := lay_keyC b c q
 unfold sizeC; rw [h1, h2]
theorem lay_sizes (n : N) (q : LS) : sizesN (layN n q).1 = sizesN n := by
 unfold sizesN
 rw [layN_leaf, layN_l]
 split
 ·rfl
 ·have : ∀ (b : Bool) (l : List C) (q : LS), (layCs b l q).1.map (sizeC b) = l.map (sizeC b) := fun b l => by
   induction l with
   | nil => intro q; rfl
   | cons c l ih => intro q; simp only [layCs, List.map_cons, lay_sizeC, ih]
  exact this _ _ _
theorem layCs_mem {b : Bool} : ∀ {l : List C} {q : LS} {x : C}, x ∈ (layCs b l q).1 → ∃ c q', c ∈ l ∧ x = (layC b c q').1
 | [], _, x, h => by cases h
 | c :: l, q, x, h => by
  simp only [layCs] at h
  rcases List.mem_cons.1 h with rfl | h
  ·exact ⟨c, q, List.mem_cons_self, rfl⟩
  ·obtain ⟨c', q', h1, h2⟩ := layCs_mem h
   exact ⟨c', q', List.mem_cons_of_mem _ h1, h2⟩
theorem lay_keyOf (b : Bool) (l : List C) (q : LS) : keyOf (layCs b l q).1 = keyOf l := by
 cases l with
 | nil => rfl
 | cons c l => exact (lay_keyC b c q).1
theorem layV_pages (d : ByteArray) (ps : List Int) (q : LS) (hd : d.size ≤ 400) : ((layV d ps q).1 = ps ∨ (ps = [] ∧ 16 < d.size)) ∧ (layV d ps q).1.length ≤ max ps.length 4 := by
 unfold layV
 split
 ·exact ⟨.inl rfl, by show ps.length ≤ _; omega⟩
 ·rename_i h
  have h1 : need (d.size : Int) ≠ 0 := fun e => h (.inl e)
  have h2 : ps = [] := Classical.not_not.1 fun e => h (.inr e)
  have h3 := need_le (d.size : Int)
  refine ⟨.inr ⟨h2, ?_⟩, by show (List.take _ _).length ≤ _; rw [List.length_take]; omega⟩
  unfold need at h1
  split at h1
  ·omega
  ·exact absurd rfl h1
theorem lay_cases (n : N) (q : LS) : (layN n q).1 = n ∨ (layN n q).1.l = (layCs n.leaf n.l q).1 := by
 rw [layN_l, layN_eq]
 split
 ·exact .inl rfl
 ·exact .inr rfl
theorem nd_lay : ∀ {d : Nat} {n : N} (q : LS), Nd d n → Nd d (layN n q).1
 | 0, n, q, h => by
  rcases lay_cases n q with e | e
  ·rw [e]; exact h
  ·refine ⟨by rw [layN_leaf]; exact h.1, fun x hx => ?_⟩
   rw [e, h.1] at hx
   obtain ⟨c, q', hc, rfl⟩ := layCs_mem hx
   obtain ⟨h1, h2⟩ := h.2 c hc
   rw [layC_leaf]
   refine ⟨⟨h1.1, h1.2.1, ?_⟩, h2⟩
   have := (layV_pages c.data c.pages q' h1.2.1).2
   have := h1.2.2
   show (layV c.data c.pages q').1.length ≤ 4
   omega
 | d + 1, n, q, h => by
  rcases lay_cases n q with e | e
  ·rw [e]; exact h
  ·refine ⟨by rw [layN_leaf]; exact h.1, ?_, fun x hx => ?_⟩
   ·rw [e]
    intro e
    have := layCs_len n.leaf n.l q
    rw [e] at this
    exact h.2.1 (List.eq_nil_of_length_eq_zero this.symm)
   ·rw [e, h.1] at hx
    obtain ⟨c, q', hc, rfl⟩ := layCs_mem hx
    obtain ⟨h1, k, hk, hnd⟩ := h.2.2 c hc
    rw [layC_br hk]
    exact ⟨⟨h1.1, h1.2.1, h1.2.2⟩, _, rfl, nd_lay q' hnd⟩
theorem tot_lay : ∀ {d : Nat} {n : N} (q : LS), Nd d n → totN (layN n q).1 = totN n := by
 have cs : ∀ (b : Bool) (l : List C) (q : LS), (∀ c, c ∈ l → ∀ q, totC (layC b c q).1 = totC c) → tot (layCs b l q).1 = tot l := by
  intro b l
  induction l with
  | nil => intro q _; rfl
  | cons c l ih =>
   intro q h
   simp only [layCs, tot_cons]
   rw [h c List.mem_cons_self, ih _ fun c hc => h c (List.mem_cons_of_mem _ hc)]
 intro d
 induction d with
 | zero =>
  intro n q h
  rcases lay_cases n q with e | e
  ·rw [e]
  ·rw [totN_tot, totN_tot, e, h.1]
   refine cs true n.l q fun c hc q => ?_
   rw [layC_leaf, totC_eq, totC_eq]; rfl
 | succ d ih =>
  intro n q h
  rcases lay_cases n q with e | e
  ·rw [e]
  ·rw [totN_tot, totN_tot, e, h.1]
   refine cs false n.l q fun c hc q => ?_
   obtain ⟨_, k, hk, hnd⟩ := h.2.2 c hc
   rw [layC_br hk, totC_kid hk, totC_kid (k := (layN k q).1) rfl, ih q hnd]
theorem lay_en : ∀ {d : Nat} {n : N} (q : LS), Nd d n → (enN (layN n q).1).map (fun c => (c.key, c.data)) = (enN n).map fun c => (c.key, c.data)
 | 0, n, q, hn => by
  rcases lay_cases n q with e | e
  ·rw [e]
  ·rw [en_leaf hn.1, en_leaf (by rw [layN_leaf]; exact hn.1), e]
   have : ∀ (b : Bool) (l : List C) (q : LS), (layCs b l q).1.map (fun c => (c.key, c.data)) = l.map fun c => (c.key, c.data) := fun b l => by
    induction l with
    | nil => intro q; rfl
    | cons c l ih =>
     intro q
     obtain ⟨h1, h2⟩ := lay_keyC b c q
     simp only [layCs, List.map_cons, ih, h1, h2]
   exact this _ _ _
 | d + 1, n, q, hn => by
  rcases lay_cases n q with e | e
  ·rw [e]
  ·rw [enN_eq, enN_eq n, layN_leaf, e, hn.1]
   have : ∀ (l : List C) (q : LS), (∀ c, c ∈ l → c ∈ n.l) → ((layCs false l q).1.flatMap (enC false)).map (fun c => (c.key, c.data)) = (l.flatMap (enC false)).map fun c => (c.key, c.data) := by
    intro l
    induction l with
    | nil => intro q _; rfl
    | cons c l ih =>
     intro q hl
     obtain ⟨hs, k, hk, hnd⟩ := hn.2.2 c (hl c List.mem_cons_self)
     simp only [layCs, List.flatMap_cons, List.map_append]
     rw [ih _ fun c hc => hl c (List.mem_cons_of_mem _ hc), layC_br hk, enC_br (k := (layN k q).1) rfl, enC_br hk, lay_en q hnd]
   exact this n.l q fun _ h => h
theorem lay_in {d : Nat} {n : N} (q : LS) (hn : Nd d n) {x : C} (h : x ∈ enN (layN n q).1) : ∃ y, y ∈ enN n ∧ y.key = x.key ∧ y.data = x.data := by
 have : (x.key, x.data) ∈ (enN (layN n q).1).map fun c => (c.key, c.data) := List.mem_map_of_mem (f := fun c : C => (c.key, c.data)) h
 rw [lay_en q hn] at this
 obtain ⟨y, hy, e⟩ := List.mem_map.1 this
 simp only [Prod.mk.injEq] at e
 exact ⟨y, hy, e.1, e.2⟩
theorem layCs_pw {b : Bool} {R : C → C → Prop} : ∀ {l : List C} {q : LS}, (∀ c, c ∈ l → ∀ c', c' ∈ l → ∀ q q', R c c' → R (layC b c q).1 (layC b c' q').1) → l.Pairwise R → (layCs b l q).1.Pairwise R
 | [], _, _, _ => List.Pairwise.nil
 | c :: l, q, h, hp => by
  rw [List.pairwise_cons] at hp
  simp only [layCs]
  rw [List.pairwise_cons]
  refine ⟨fun x hx => ?_, layCs_pw (fun a ha a' ha' => h a (List.mem_cons_of_mem _ ha) a' (List.mem_cons_of_mem _ ha')) hp.2⟩
  obtain ⟨c', q', hc', rfl⟩ := layCs_mem hx
  exact h c List.mem_cons_self c' (List.mem_cons_of_mem _ hc') q q' (hp.1 c' hc')
theorem good_lay : ∀ {d : Nat} {n : N} (q : LS), Good d n → Good d (layN n q).1
 | 0, n, q, h => by
  rcases lay_cases n q with e | e
  ·rw [e]; exact h
  ·refine ⟨by rw [layN_leaf]; exact h.1, ?_, fun x hx => ?_⟩
   ·rw [e]
    exact layCs_pw (fun c _ c' _ q q' hr => by rw [(lay_keyC _ c q).1, (lay_keyC _ c' q').1]; exact hr) h.2.1
   ·rw [e, h.1] at hx
    obtain ⟨c, q', hc, rfl⟩ := layCs_mem hx
    obtain ⟨w1, w2, w3, w4, w5, w6⟩ := h.2.2 c hc
    rw [layC_leaf]
    obtain ⟨v1, v2⟩ := layV_pages c.data c.pages q' w3
    refine ⟨w1, w2, w3, fun z => ?_, ?_, w6⟩
    ·show 16 < c.data.size
     rcases v1 with v | v
     ·refine w4 fun z' => z ?_
      show (layV c.data c.pages q').1 = []
      rw [v, z']
     ·exact v.2
    ·show (layV c.data c.pages q').1.length ≤ 4
     omega
 | d + 1, n, q, h => by
  have hB := h.2.2
  have hl := layCs_len n.leaf n.l q
  have hen : ∀ c, c ∈ n.l → ∀ q' x, x ∈ enC false (layC false c q').1 → ∃ y, y ∈ enC false c ∧ y.key = x.key := fun c hc q' x hx => by
   obtain ⟨_, _, k, hk, hg, _⟩ := hB.cell c hc
   rw [layC_br hk, enC_br (k := (layN k q').1) rfl] at hx
   obtain ⟨y, hy, e, _⟩ := lay_in q' (good_nd hg) hx
   exact ⟨y, by rw [enC_br hk]; exact hy, e⟩
  rcases lay_cases n q with e | e
  ·rw [e]; exact h
  ·refine ⟨by rw [layN_leaf]; exact h.1, ?_, ⟨?_, ?_, fun x hx => ?_⟩⟩
   ·rw [e]
    intro e
    rw [e] at hl
    exact h.2.1 (List.eq_nil_of_length_eq_zero hl.symm)
   ·rw [e, lay_keyOf]; exact hB.k0
   ·rw [e, h.1]
    refine layCs_pw (fun c hc c' hc' q q' hr => ⟨by rw [(lay_keyC _ c q).1, (lay_keyC _ c' q').1]; exact hr.1, fun x hx => ?_⟩) hB.pw
    obtain ⟨y, hy, e⟩ := hen c hc q x hx
    rw [(lay_keyC _ c' q').1, ← e]
    exact hr.2 y hy
   ·rw [e, h.1] at hx
    obtain ⟨c, q', hc, rfl⟩ := layCs_mem hx
    obtain ⟨w1, w2, k, hk, hg, hf⟩ := hB.cell c hc
    have hen' := hen c hc q'
    rw [layC_br hk] at hen' ⊢
    refine ⟨w1, fun x hx => ?_, _, rfl, good_lay q' hg, ?_, ?_⟩
    ·obtain ⟨y, hy, e⟩ := hen' x hx
     rw [← e]; exact w2 y hy
    ·rw [lay_sizes]; exact hf.1
    ·rw [lay_sizes]; exact hf.2
theorem root_lay {n : N} (q : LS) (h : RootG n) : RootG (layN n q).1 := by
 obtain ⟨d, h1, h2, h3⟩ := h
 refine ⟨d, good_lay q h1, by rw [lay_sizes]; exact h2, ?_⟩
 rcases lay_cases n q with e | e
 ·rw [e]; exact h3
 ·rw [layN_leaf, e, layCs_len]; exact h3
theorem perm_4 {α : Type} (a b c d : List α) : ((a ++ b) ++ (c ++ d)).Perm ((a ++ c) ++ (b ++ d)) := by
 rw [List.append_assoc, List.append_assoc]
 refine List.Perm.append_left a ?_
 rw [← List.append_assoc, ← List.append_assoc]
 exact List.Perm.append_right d List.perm_append_comm
theorem layCs_al {b : Bool} : ∀ {l : List C} {q : LS}, (∀ c, c ∈ l → ∀ q : LS, (layC b c q).2.1 = q.1.drop (rfC b c)) → (∀ c, c ∈ l → ∀ q : LS, rfC b c ≤ q.1.length → (∀ p, p ∈ q.1 → p ≠ 0) → (alC b (layC b c q).1).Perm (alC b c ++ q.1.take (rfC b c))) →
  rfS b l ≤ q.1.length → (∀ p, p ∈ q.1 → p ≠ 0) → ((layCs b l q).1.flatMap (alC b)).Perm (l.flatMap (alC b) ++ q.1.take (rfS b l))
 | [], q, _, _, _, _ => by simp [layCs, rfS]
 | c :: l, q, h1, h2, hq, hp => by
  have e : rfS b (c :: l) = rfC b c + rfS b l := by unfold rfS; rw [List.map_cons, List.sum_cons]
  rw [e] at hq ⊢
  have d1 := h1 c List.mem_cons_self q
  have a1 := h2 c List.mem_cons_self q (by omega) hp
  have a2 := layCs_al (l := l) (q := (layC b c q).2) (fun c hc => h1 c (List.mem_cons_of_mem _ hc)) (fun c hc => h2 c (List.mem_cons_of_mem _ hc)) (by rw [d1, List.length_drop]; omega) (by rw [d1]; exact fun p h => hp p (List.mem_of_mem_drop h))
  rw [d1] at a2
  simp only [layCs, List.flatMap_cons]
  rw [List.take_add]
  exact (a1.append a2).trans (perm_4 _ _ _ _)
theorem lay_al : ∀ {d : Nat} {n : N} {q : LS}, Nd d n → frT n ≤ q.1.length → (∀ p, p ∈ q.1 → p ≠ 0) → (alN (layN n q).1).Perm (alN n ++ q.1.take (frT n)) := by
 have fin : ∀ {d : Nat} {n : N} {q : LS}, Nd d n → (∀ c, c ∈ n.l → ∀ q : LS, (layC n.leaf c q).2.1 = q.1.drop (rfC n.leaf c)) → (∀ c, c ∈ n.l → ∀ q : LS, rfC n.leaf c ≤ q.1.length → (∀ p, p ∈ q.1 → p ≠ 0) → (alC n.leaf (layC n.leaf c q).1).Perm (alC n.leaf c ++ q.1.take (rfC n.leaf c))) →
   frT n ≤ q.1.length → (∀ p, p ∈ q.1 → p ≠ 0) → (alN (layN n q).1).Perm (alN n ++ q.1.take (frT n)) := by
  intro d n q hn h1 h2 hq hp
  rw [layN_eq]
  rw [frT_eq hn] at hq ⊢
  by_cases h0 : n.page ≠ 0
  ·rw [if_pos (.inl h0), if_pos h0]; simp
  ·rw [if_neg h0] at hq ⊢
   by_cases hz : n.leaf = true ∧ n.l = []
   ·rw [if_pos (.inr hz), if_pos hz]; simp
   ·rw [if_neg hz] at hq
    rw [if_neg (fun e => e.elim h0 hz), if_neg hz]
    have a := layCs_al (l := n.l) (q := q) h1 h2 (by omega) hp
    have dr := layCs_left (l := n.l) (q := q) h1
    have hlt : rfS n.leaf n.l < q.1.length := by omega
    have e1 : (q.1.drop (rfS n.leaf n.l)).headD 0 = q.1[rfS n.leaf n.l] := by
     rw [List.drop_eq_getElem_cons hlt]; rfl
    have e2 : q.1[rfS n.leaf n.l] ≠ 0 := hp _ (List.getElem_mem _)
    have e3 : ∀ l, alN (N.mk q.1[rfS n.leaf n.l] n.leaf l) = [q.1[rfS n.leaf n.l]] ++ l.flatMap (alC n.leaf) := fun l => by
     have : alN (N.mk q.1[rfS n.leaf n.l] n.leaf l) = (if q.1[rfS n.leaf n.l] ≠ 0 then [q.1[rfS n.leaf n.l]] else []) ++ l.flatMap (alC n.leaf) := alN_eq _
     rw [this, if_pos e2]
    have e4 : alN n = n.l.flatMap (alC n.leaf) := by rw [alN_eq, if_neg h0, List.nil_append]
    show (alN (N.mk ((layCs n.leaf n.l q).2.1.headD 0) n.leaf (layCs n.leaf n.l q).1)).Perm _
    rw [dr, e1, e3, e4, Nat.add_comm 1, List.take_add_one, List.getElem?_eq_getElem hlt, Option.toList_some, ← List.append_assoc]
    exact List.perm_append_comm.trans (List.Perm.append_right _ a)
 intro d
 induction d with
 | zero =>
  intro n q hn
  refine fin hn (fun c hc q => ?_) (fun c hc q hq hp => ?_)
  ·rw [hn.1, layC_leaf]
   obtain ⟨m, h1, h2⟩ := layV_left c.data c.pages q
   rw [h1, h2]; rfl
  ·rw [hn.1] at hq ⊢
   rw [layC_leaf, alC_leaf, alC_leaf]
   show (layV c.data c.pages q).1.Perm (c.pages ++ q.1.take (rfC true c))
   have e : rfC true c = if c.pages = [] then need (c.data.size : Int) else 0 := rfl
   rw [e]
   unfold layV
   by_cases hps : c.pages = []
   ·rw [if_pos hps, hps, List.nil_append]
    split
    ·rename_i h
     rw [h.resolve_right fun f => f rfl]; exact .refl _
    ·exact .refl _
   ·rw [if_neg hps, if_pos (.inr hps)]
    simp
 | succ d ih =>
  intro n q hn
  refine fin hn (fun c hc q => ?_) (fun c hc q hq hp => ?_)
  ·obtain ⟨_, k, hk, hnd⟩ := hn.2.2 c hc
   rw [hn.1, layC_br hk]
   have : rfC false c = frT k := by rw [← kid0_eq hk]; rfl
   rw [this]
   exact layN_left hnd
  ·obtain ⟨_, k, hk, hnd⟩ := hn.2.2 c hc
   have e : rfC false c = frT k := by rw [← kid0_eq hk]; rfl
   rw [hn.1] at hq ⊢
   rw [e] at hq ⊢
   rw [layC_br hk, alC_br hk, alC_br (k := (layN k q).1) rfl, List.append_assoc]
   exact List.Perm.append_left _ (ih hnd hq hp)
theorem lay_page {d : Nat} {n : N} {q : LS} (hn : Nd d n) (hq : frT n ≤ q.1.length) (hp : ∀ p, p ∈ q.1 → p ≠ 0) (h : ¬ (n.leaf = true ∧ n.l = [])) : (layN n q).1.page ≠ 0 := by
 rw [layN_eq]
 by_cases h0 : n.page ≠ 0
 ·rw [if_pos (.inl h0)]; exact h0
 ·rw [if_neg (fun e => e.elim h0 h)]
  show (layCs n.leaf n.l q).2.1.headD 0 ≠ 0
  rw [frT_eq hn, if_neg h0, if_neg h] at hq
  have dr : (layCs n.leaf n.l q).2.1 = q.1.drop (rfS n.leaf n.l) := layCs_left fun c hc q => by
   cases d with
   | zero =>
    rw [hn.1, layC_leaf]
    obtain ⟨m, h1, h2⟩ := layV_left c.data c.pages q
    rw [h1, h2]; rfl
   | succ d =>
    obtain ⟨_, k, hk, hnd⟩ := hn.2.2 c hc
    rw [hn.1, layC_br hk, show rfC false c = frT k by rw [← kid0_eq hk]; rfl]
    exact layN_left hnd
  have hlt : rfS n.leaf n.l < q.1.length := by omega
  rw [dr, List.drop_eq_getElem_cons hlt]
  exact hp _ (List.getElem_mem _)
theorem lay_fr {d : Nat} {n : N} {q : LS} (hn : Nd d n) (hq : frT n ≤ q.1.length) (hp : ∀ p, p ∈ q.1 → p ≠ 0) : frT (layN n q).1 = 0 := by
 rw [frT_eq (nd_lay q hn)]
 by_cases h : n.leaf = true ∧ n.l = []
 ·have e : (layN n q).1 = n := by rw [layN_eq, if_pos (.inr h)]
  rw [e, if_pos h]; split <;> rfl
 ·rw [if_pos (lay_page hn hq hp h)]
end Go.Proofs.YtpcmnebpnpgcmaaGreatDoor
namespace Go.Proofs.YtpcmnebpnpgcmaaGreatDoor
open Aml Go
structure Hered (Q : N → Prop) (q : Bool → C → Prop) : Prop where
 of : ∀ b l, (∀ c, c ∈ l → q b c) → Q (.mk 0 b l)
 to : ∀ n, Q n → ∀ c, c ∈ n.l → q n.leaf c
 kid : ∀ c k, c.kid = [k] → q false c → Q k
 cell : ∀ c k, c.kid = [k] → c.pages = [] → Q k → q false c
section
variable {Q : N → Prop} {q : Bool → C → Prop}
theorem hered_setKey (H : Hered Q q) {d : Nat} {n : N} (hn : Nd d n) (hlf : n.leaf = false) (key : ByteArray) {l : List C} (hl : ∀ c, c ∈ l → c ∈ n.l) (h : ∀ c, c ∈ l → q false c) : ∀ c, c ∈ setKey key l → q false c := by
 cases l with
 | nil => exact h
 | cons a l =>
  intro c hc
  rcases List.mem_cons.1 hc with rfl | hc
  ·cases d with
   | zero => have := hn.1; rw [hlf] at this; cases this
   | succ d =>
    obtain ⟨hs, k, hk, _⟩ := hn.2.2 a (hl a List.mem_cons_self)
    exact H.cell _ k hk (List.eq_nil_of_length_eq_zero (Nat.le_zero.1 hs.2.2)) (H.kid a k hk (h a List.mem_cons_self))
  ·exact h c (List.mem_cons_of_mem _ hc)
theorem hered_parted (H : Hered Q q) {d : Nat} {n kid : N} {k : Nat} {key : ByteArray} (hk : Nd d kid) (hQ : Q kid) (h : ∀ c, c ∈ n.l → q false c) (hp : n.page = 0) (hl : n.leaf = false) :
  (partedN n kid k key).1.page = 0 ∧ (partedN n kid k key).1.leaf = false ∧ ∀ x, x ∈ (partedN n kid k key).1.l → q false x := by
 unfold partedN
 simp only
 split
 ·exact ⟨hp, hl, h⟩
 ·refine ⟨rfl, rfl, fun x hx => ?_⟩
  rcases mem_withC hx with hx | hx
  ·exact h x hx
  ·rcases List.mem_cons.1 hx with rfl | hx
   ·exact H.cell _ _ rfl rfl (H.of _ _ fun c hc => H.to kid hQ c (List.mem_of_mem_take hc))
   ·rw [List.mem_singleton] at hx; subst hx
    refine H.cell _ _ rfl rfl (H.of _ _ fun c hc => ?_)
    cases hb : kid.leaf with
    | true =>
     rw [hb, if_pos rfl] at hc
     have := H.to kid hQ c (List.mem_of_mem_drop hc)
     rwa [hb] at this
    | false =>
     rw [hb, if_neg (by simp)] at hc
     exact hered_setKey H hk hb noS (fun c hc => List.mem_of_mem_drop hc) (fun c hc => by
      have := H.to kid hQ c (List.mem_of_mem_drop hc)
      rwa [hb] at this) c hc
theorem hered_both (H : Hered Q q) {d : Nat} {a b : N} {key : ByteArray} (ha : Nd d a) (hb : Nd d b) (qa : Q a) (qb : Q b) : Q (bothN a b key) := by
 unfold bothN
 refine H.of _ _ fun c hc => ?_
 rcases List.mem_append.1 hc with hc | hc
 ·exact H.to a qa c hc
 ·have e := nd_leaf_eq ha hb
  cases hl : b.leaf with
  | true =>
   rw [hl, if_pos rfl] at hc
   have := H.to b qb c hc
   rwa [← e] at this
  | false =>
   rw [hl, if_neg (by simp)] at hc
   rw [e, hl]
   exact hered_setKey H hb hl key (fun c hc => hc) (fun c hc => by
    have := H.to b qb c hc
    rwa [hl] at this) c hc
theorem hered_mend (H : Hered Q q) {d : Nat} {n : N} {k : Nat} (hn : Nd (d + 1) n) (hlt : k < n.l.length) (h : ∀ c, c ∈ n.l → q false c) (hp : n.page = 0) : (mendN n k).page = 0 ∧ (mendN n k).leaf = false ∧ ∀ x, x ∈ (mendN n k).l → q false x := by
 obtain ⟨c, kid, hc, e1, e2, hkid, hkey, hnd⟩ := nd_kid hn hlt
 have hQ := H.kid c kid hkid (h c (List.mem_of_getElem? hc))
 unfold mendN
 simp only [e1, e2]
 split
 ·exact hered_parted H hnd hQ h hp hn.1
 ·split
  ·exact ⟨hp, hn.1, h⟩
  ·rename_i h1 h2
   simp only [Bool.or_eq_true, decide_eq_true_eq, not_or] at h2
   have hj : (if k + 1 < n.l.length then k else k - 1) + 1 < n.l.length := by split <;> omega
   generalize (if k + 1 < n.l.length then k else k - 1) = j at *
   obtain ⟨c0, k0, hc0, f1, f2, hk0, hkey0, hnd0⟩ := nd_kid hn (k := j) (by omega)
   obtain ⟨c1, k1, hc1, g1, g2, hk1, hkey1, hnd1⟩ := nd_kid hn hj
   rw [f1, f2, g1, g2]
   have hQb : Q (bothN k0 k1 c1.key) := hered_both H hnd0 hnd1 (H.kid c0 k0 hk0 (h c0 (List.mem_of_getElem? hc0))) (H.kid c1 k1 hk1 (h c1 (List.mem_of_getElem? hc1)))
   refine hered_parted H (nd_both hnd0 hnd1 hkey1) hQb (fun x hx => ?_) rfl rfl
   rcases mem_withC hx with hx | hx
   ·rcases mem_withC hx with hx | hx
    ·exact h x hx
    ·cases hx
   ·rw [List.mem_singleton] at hx; subst hx
    exact H.cell _ _ rfl rfl hQb
theorem hered_mk (H : Hered Q q) {n : N} (h : n.page = 0 ∧ n.leaf = false ∧ ∀ x, x ∈ n.l → q false x) : Q n := by
 obtain ⟨h1, h2, h3⟩ := h
 rw [N.eta n, h1, h2]
 exact H.of _ _ h3
theorem hered_put (H : Hered Q q) {key val : ByteArray} (hk : key.size ≤ 16) (hv : val.size ≤ 400) (hq : q true (.mk key val [] [])) : ∀ {d : Nat} {n : N}, Nd d n → Q n → Q (putN key val n)
 | 0, n, h, hQ => by
  rw [putN_leaf _ _ _ h.1]
  refine H.of _ _ fun c hc => ?_
  rcases leafPut_mem hc with hc | rfl
  ·have := H.to n hQ c hc
   rwa [h.1] at this
  ·exact hq
 | d + 1, n, h, hQ => by
  have hw := way_lt h.2.1 key
  obtain ⟨c, kid, hc, _, _, hkid, hkey, hnd⟩ := nd_kid h hw
  rw [putN_br _ _ _ h.1 hc hkid]
  have hcs : ∀ x, x ∈ n.l → q false x := fun x hx => by have := H.to n hQ x hx; rwa [h.1] at this
  have i1 := hered_put H hk hv hq hnd (H.kid c kid hkid (hcs c (List.mem_of_getElem? hc)))
  have h1 := nd_with h hw 0 (m := [cellN c.key (putN key val kid)]) (.inr (by simp)) fun c' hc' => by
   rw [List.mem_singleton] at hc'; subst hc'; exact cell_ok hkey (nd_put hk hv hnd)
  have h2 := withC_len (m := [cellN c.key (putN key val kid)]) hw
  refine hered_mk H (hered_mend H h1 (by simp only [N.l_mk, List.length_cons, List.length_nil] at *; omega) (fun x hx => ?_) rfl)
  rcases mem_withC hx with hx | hx
  ·exact hcs x hx
  ·rw [List.mem_singleton] at hx; subst hx
   exact H.cell _ _ rfl rfl i1
theorem hered_without (H : Hered Q q) {key : ByteArray} : ∀ {d : Nat} {n : N}, Nd d n → Q n → Q (withoutN key n)
 | 0, n, h, hQ => by
  rw [withoutN_leaf _ _ h.1]
  refine H.of _ _ fun c hc => ?_
  have := H.to n hQ c (List.mem_filter.1 hc).1
  rwa [h.1] at this
 | d + 1, n, h, hQ => by
  have hw := way_lt h.2.1 key
  obtain ⟨c, kid, hc, _, _, hkid, hkey, hnd⟩ := nd_kid h hw
  obtain ⟨hs, _⟩ := h.2.2 c (List.mem_of_getElem? hc)
  rw [withoutN_br _ _ h.1 hc hkid]
  have hcs : ∀ x, x ∈ n.l → q false x := fun x hx => by have := H.to n hQ x hx; rwa [h.1] at this
  have i1 := hered_without H (key := key) hnd (H.kid c kid hkid (hcs c (List.mem_of_getElem? hc)))
  have h1 := nd_set h hw (c' := .mk c.key c.data c.pages [withoutN key kid]) ⟨⟨hs.1, hs.2.1, hs.2.2⟩, _, rfl, nd_without hnd⟩
  refine hered_mk H (hered_mend H h1 (by simp only [N.l_mk, List.length_set]; exact hw) (fun x hx => ?_) rfl)
  rcases mem_set hx with hx | rfl
  ·exact hcs x hx
  ·exact H.cell _ _ rfl (List.eq_nil_of_length_eq_zero (Nat.le_zero.1 hs.2.2)) i1
theorem hered_top (H : Hered Q q) : ∀ {d : Nat} {n : N}, Nd d n → Q n → Q (topN n) := by
 have one : ∀ {d : Nat} {n : N}, Nd d n → Q n → Q (if atR (sizesN n) = 0 then n else mendN (.mk 0 false [cellN noS n]) 0) := fun {d n} h hQ => by
  split
  ·exact hQ
  ·refine hered_mk H (hered_mend H (d := d) (n := .mk 0 false [cellN noS n]) (k := 0) ⟨rfl, by simp [N.l], fun c hc => by
    simp only [N.l_mk, List.mem_singleton] at hc
    subst hc
    exact cell_ok (by rw [noS_size]; omega) h⟩ (by simp [N.l]) (fun x hx => ?_) rfl)
   simp only [N.l_mk, List.mem_singleton] at hx
   subst hx
   exact H.cell _ _ rfl rfl hQ
 intro d
 induction d with
 | zero => intro n h hQ; rw [topN_else _ (.inl h.1)]; exact one h hQ
 | succ d ih =>
  intro n h hQ
  by_cases h1 : n.l.length = 1
  ·obtain ⟨c, hc⟩ := List.length_eq_one_iff.1 h1
   have hcm : c ∈ n.l := by rw [hc]; exact List.mem_singleton_self c
   obtain ⟨_, k, hk, hn⟩ := h.2.2 c hcm
   rw [topN_one n h.1 hc hk]
   have := H.to n hQ c hcm
   rw [h.1] at this
   exact ih hn (H.kid c k hk this)
  ·rw [topN_else _ (.inr h1)]; exact one h hQ
theorem hered_Put (H : Hered Q q) {key val : ByteArray} (hk : key.size ≤ 16) (hv : val.size ≤ 400) (hq : q true (.mk key val [] [])) {d : Nat} {n : N} (h : Nd d n) (hQ : Q n) : Q (Put key val n) :=
 hered_top H (nd_put hk hv h) (hered_put H hk hv hq h hQ)
theorem hered_Del (H : Hered Q q) {key : ByteArray} {d : Nat} {n : N} (h : Nd d n) (hQ : Q n) : Q (Del key n) := by
 unfold Del
 split
 ·exact hered_top H (nd_without h) (hered_without H h hQ)
 ·exact hQ
end
def cnL (p : Int) (b : Bool) (l : List C) : Nat := (l.flatMap (alC b)).count p
theorem cnL_app (p : Int) (b : Bool) (l m : List C) : cnL p b (l ++ m) = cnL p b l + cnL p b m := by unfold cnL; rw [List.flatMap_append, List.count_append]
theorem cnL_cons (p : Int) (b : Bool) (c : C) (l : List C) : cnL p b (c :: l) = (alC b c).count p + cnL p b l := by unfold cnL; rw [List.flatMap_cons, List.count_append]
theorem cnL_nil (p : Int) (b : Bool) : cnL p b [] = 0 := rfl
theorem cnL_split (p : Int) (b : Bool) (l : List C) (i : Nat) : cnL p b (l.take i) + cnL p b (l.drop i) = cnL p b l := by rw [← cnL_app, List.take_append_drop]
theorem cnL_withC {p : Int} {b : Bool} {l m : List C} {i : Nat} {c : C} (h : l[i]? = some c) : cnL p b (withC l i m) + (alC b c).count p = cnL p b l + cnL p b m := by
 have h1 := cnL_split p b l i
 have h2 : l.drop i = c :: l.drop (i + 1) := by
  obtain ⟨hlt, rfl⟩ := List.getElem?_eq_some_iff.1 h
  exact List.drop_eq_getElem_cons hlt
 rw [h2, cnL_cons] at h1
 unfold withC
 rw [cnL_app, cnL_app]
 omega
theorem alC_key (key : ByteArray) (c : C) : alC false (.mk key c.data c.pages c.kid) = alC false c := by cases c; simp [alC, C.pages, C.kid]
theorem cnL_setKey (p : Int) (key : ByteArray) (l : List C) : cnL p false (setKey key l) = cnL p false l := by
 cases l with
 | nil => rfl
 | cons a l => rw [setKey_app, cnL_cons, cnL_cons, alC_key]
theorem al_zero (p : Int) (b : Bool) (l : List C) : (alN (.mk 0 b l)).count p = cnL p b l := by rw [alN_eq]; rfl
theorem al_ge (p : Int) (n : N) : cnL p n.leaf n.l ≤ (alN n).count p := by rw [alN_eq, List.count_append]; exact Nat.le_add_left _ _
theorem alC_cell (key : ByteArray) (k : N) : alC false (cellN key k) = alN k := by rw [alC_br rfl]; rfl
theorem cn_parted {n kid : N} {k : Nat} {c : C} {key : ByteArray} (p : Int) (hc : n.l[k]? = some c) (hk : c.kid = [kid]) (hlf : n.leaf = false) : (alN (partedN n kid k key).1).count p ≤ (alN n).count p := by
 unfold partedN
 simp only
 split
 ·exact Nat.le_refl _
 ·have h1 := cnL_split p kid.leaf kid.l (atR (sizesN kid))
  have h2 := cnL_withC (p := p) (b := false) (m := [cellN key (.mk 0 kid.leaf (kid.l.take (atR (sizesN kid)))), cellN (keyOf (kid.l.drop (atR (sizesN kid)))) (.mk 0 kid.leaf (if kid.leaf then (kid.l.drop (atR (sizesN kid))) else setKey noS (kid.l.drop (atR (sizesN kid)))))]) hc
  have h3 : cnL p kid.leaf (if kid.leaf then (kid.l.drop (atR (sizesN kid))) else setKey noS (kid.l.drop (atR (sizesN kid)))) = cnL p kid.leaf (kid.l.drop (atR (sizesN kid))) := by
   cases hb : kid.leaf with
   | true => rw [if_pos rfl]
   | false => rw [if_neg (by simp), cnL_setKey]
  rw [cnL_cons, cnL_cons, cnL_nil, alC_cell, alC_cell, al_zero, al_zero, h3, alC_br hk, List.count_append] at h2
  have h4 := al_ge p n
  have h5 := al_ge p kid
  rw [hlf] at h4
  rw [al_zero]
  omega
theorem cn_both (p : Int) {a b : N} {key : ByteArray} (h : a.leaf = b.leaf) : (alN (bothN a b key)).count p ≤ (alN a).count p + (alN b).count p := by
 have h1 := al_ge p a
 have h2 := al_ge p b
 unfold bothN
 rw [al_zero, cnL_app]
 rw [← h] at h2 ⊢
 cases hb : a.leaf with
 | true => rw [hb] at h1 h2; rw [if_pos rfl]; omega
 | false => rw [hb] at h1 h2; rw [if_neg (by simp), cnL_setKey]; omega
theorem cn_mend {d : Nat} {n : N} {k : Nat} (p : Int) (hn : Nd (d + 1) n) (hlt : k < n.l.length) : (alN (mendN n k)).count p ≤ (alN n).count p := by
 obtain ⟨c, kid, hc, e1, e2, hkid, hkey, hnd⟩ := nd_kid hn hlt
 unfold mendN
 simp only [e1, e2]
 split
 ·exact cn_parted p hc hkid hn.1
 ·split
  ·exact Nat.le_refl _
  ·rename_i h1 h2
   simp only [Bool.or_eq_true, decide_eq_true_eq, not_or] at h2
   have hj : (if k + 1 < n.l.length then k else k - 1) + 1 < n.l.length := by split <;> omega
   generalize (if k + 1 < n.l.length then k else k - 1) = j at *
   obtain ⟨c0, k0, hc0, f1, f2, hk0, hkey0, hnd0⟩ := nd_kid hn (k := j) (by omega)
   obtain ⟨c1, k1, hc1, g1, g2, hk1, hkey1, hnd1⟩ := nd_kid hn hj
   rw [f1, f2, g1, g2]
   have hwl := withC_len (m := []) hj
   simp only [List.length_nil] at hwl
   have hj2 : j < (withC n.l (j + 1) []).length := by omega
   refine Nat.le_trans (cn_parted p (c := cellN c0.key (bothN k0 k1 c1.key)) (withC_at hj2) rfl rfl) ?_
   have t1 := cnL_withC (p := p) (b := false) (m := []) hc1
   have hat : (withC n.l (j + 1) [])[j]? = some c0 := by
    unfold withC
    rw [List.append_assoc, List.getElem?_append_left (by rw [List.length_take]; omega), List.getElem?_take, if_pos (by omega)]
    exact hc0
   have t2 := cnL_withC (p := p) (b := false) (m := [cellN c0.key (bothN k0 k1 c1.key)]) hat
   have t3 := cn_both p (key := c1.key) (nd_leaf_eq hnd0 hnd1)
   have t4 := al_ge p n
   rw [hn.1] at t4
   rw [cnL_cons, cnL_nil, alC_cell, alC_br hk0, List.count_append] at t2
   rw [cnL_nil, alC_br hk1, List.count_append] at t1
   rw [al_zero]
   omega
theorem cn_leafPut (p : Int) (l : List C) (key val : ByteArray) : cnL p true (leafPut l key val) ≤ cnL p true l := by
 have hnew : (alC true (.mk key val [] [])).count p = 0 := rfl
 have h2 : cnL p true (l.take (idxN l key) ++ [.mk key val [] []] ++ l.drop (idxN l key)) ≤ cnL p true l := by
  have := cnL_split p true l (idxN l key)
  rw [cnL_app, cnL_app, cnL_cons, cnL_nil, hnew]; omega
 unfold leafPut
 simp only
 split
 ·rename_i c hc
  split
  ·have := cnL_withC (p := p) (b := true) (m := [C.mk key val [] []]) hc
   rw [cnL_cons, cnL_nil, hnew] at this
   omega
  ·exact h2
 ·exact h2
theorem cn_put {key val : ByteArray} (hk : key.size ≤ 16) (hv : val.size ≤ 400) (p : Int) : ∀ {d : Nat} {n : N}, Nd d n → (alN (putN key val n)).count p ≤ (alN n).count p
 | 0, n, h => by
  rw [putN_leaf _ _ _ h.1, al_zero]
  have := cn_leafPut p n.l key val
  have h4 := al_ge p n
  rw [h.1] at h4
  omega
 | d + 1, n, h => by
  have hw := way_lt h.2.1 key
  obtain ⟨c, kid, hc, _, _, hkid, hkey, hnd⟩ := nd_kid h hw
  rw [putN_br _ _ _ h.1 hc hkid]
  have h1 := nd_with h hw 0 (m := [cellN c.key (putN key val kid)]) (.inr (by simp)) fun c' hc' => by
   rw [List.mem_singleton] at hc'; subst hc'; exact cell_ok hkey (nd_put hk hv hnd)
  have h2 := withC_len (m := [cellN c.key (putN key val kid)]) hw
  refine Nat.le_trans (cn_mend p h1 (by simp only [N.l_mk, List.length_cons, List.length_nil] at *; omega)) ?_
  have t := cnL_withC (p := p) (b := false) (m := [cellN c.key (putN key val kid)]) hc
  have i1 := cn_put hk hv p hnd
  have h4 := al_ge p n
  rw [h.1] at h4
  rw [cnL_cons, cnL_nil, alC_cell, alC_br hkid, List.count_append] at t
  rw [al_zero]
  omega
theorem cn_without {key : ByteArray} (p : Int) : ∀ {d : Nat} {n : N}, Nd d n → (alN (withoutN key n)).count p ≤ (alN n).count p
 | 0, n, h => by
  rw [withoutN_leaf _ _ h.1, al_zero]
  have h4 := al_ge p n
  rw [h.1] at h4
  have : ∀ l : List C, cnL p true (l.filter fun c => !eqS c.key key) ≤ cnL p true l := by
   intro l
   induction l with
   | nil => exact Nat.le_refl _
   | cons c l ih =>
    rw [List.filter_cons, cnL_cons]
    split
    ·rw [cnL_cons]; omega
    ·omega
  have := this n.l
  omega
 | d + 1, n, h => by
  have hw := way_lt h.2.1 key
  obtain ⟨c, kid, hc, _, _, hkid, hkey, hnd⟩ := nd_kid h hw
  obtain ⟨hs, _⟩ := h.2.2 c (List.mem_of_getElem? hc)
  rw [withoutN_br _ _ h.1 hc hkid]
  have h1 := nd_set h hw (c' := .mk c.key c.data c.pages [withoutN key kid]) ⟨⟨hs.1, hs.2.1, hs.2.2⟩, _, rfl, nd_without hnd⟩
  refine Nat.le_trans (cn_mend p h1 (by simp only [N.l_mk, List.length_set]; exact hw)) ?_
  have e : n.l.set (way n.l key) (.mk c.key c.data c.pages [withoutN key kid]) = withC n.l (way n.l key) [.mk c.key c.data c.pages [withoutN key kid]] := by
   unfold withC
   rw [List.set_eq_take_append_cons_drop, if_pos hw]; simp
  have t := cnL_withC (p := p) (b := false) (m := [.mk c.key c.data c.pages [withoutN key kid]]) hc
  have i1 := cn_without (key := key) p hnd
  have h4 := al_ge p n
  rw [h.1] at h4
  rw [cnL_cons, cnL_nil, alC_br (c := .mk c.key c.data c.pages [withoutN key kid]) rfl, alC_br hkid, List.count_append, List.count_append] at t
  rw [al_zero, e]
  simp only [C.pages_mk] at t
  omega
theorem cn_top (p : Int) {d : Nat} : ∀ {n : N}, Nd d n → (alN (topN n)).count p ≤ (alN n).count p := by
 have one : ∀ {d : Nat} {n : N}, Nd d n → (alN (if atR (sizesN n) = 0 then n else mendN (.mk 0 false [cellN noS n]) 0)).count p ≤ (alN n).count p := fun {d n} h => by
  split
  ·exact Nat.le_refl _
  ·refine Nat.le_trans (cn_mend p (d := d) (n := .mk 0 false [cellN noS n]) (k := 0) ⟨rfl, by simp [N.l], fun c hc => by
    simp only [N.l_mk, List.mem_singleton] at hc
    subst hc
    exact cell_ok (by rw [noS_size]; omega) h⟩ (by simp [N.l])) ?_
   rw [al_zero, cnL_cons, cnL_nil, alC_cell]
   exact Nat.le_refl _
 induction d with
 | zero => intro n h; rw [topN_else _ (.inl h.1)]; exact one h
 | succ d ih =>
  intro n h
  by_cases h1 : n.l.length = 1
  ·obtain ⟨c, hc⟩ := List.length_eq_one_iff.1 h1
   obtain ⟨_, k, hk, hn⟩ := h.2.2 c (by rw [hc]; exact List.mem_singleton_self c)
   rw [topN_one n h.1 hc hk]
   have := ih hn
   have h4 := al_ge p n
   rw [h.1, hc, cnL_cons, cnL_nil, alC_br hk, List.count_append] at h4
   omega
  ·rw [topN_else _ (.inr h1)]; exact one h
theorem cn_Put {key val : ByteArray} (hk : key.size ≤ 16) (hv : val.size ≤ 400) (p : Int) {d : Nat} {n : N} (h : Nd d n) : (alN (Put key val n)).count p ≤ (alN n).count p :=
 Nat.le_trans (cn_top p (nd_put hk hv h)) (cn_put hk hv p h)
theorem cn_Del {key : ByteArray} (p : Int) {d : Nat} {n : N} (h : Nd d n) : (alN (Del key n)).count p ≤ (alN n).count p := by
 unfold Del
 split
 ·exact Nat.le_trans (cn_top p (nd_without h)) (cn_without p h)
 ·exact Nat.le_refl _
end Go.Proofs.YtpcmnebpnpgcmaaGreatDoor
namespace Go.Proofs.YtpcmnebpnpgcmaaGreatDoor
open Aml Go
structure Stp where
 key : ByteArray
 size : Int
 laid : Bool
def emptyN : N := .mk 0 true []
def StOk (k : Nat) (n : N) : Prop := ∃ d, d ≤ k ∧ Nd d n ∧ totN n ≤ 125 * k
theorem StOk.mono {k m : Nat} {n : N} (h : StOk k n) (hm : k ≤ m) : StOk m n := by
 obtain ⟨d, h1, h2, h3⟩ := h
 exact ⟨d, by omega, h2, by omega⟩
theorem StOk.mark {k : Nat} {n : N} (h : StOk k n) (f : Int) : StOk k (markN n f).1 := by
 obtain ⟨d, h1, h2, h3⟩ := h
 exact ⟨d, h1, nd_mark f h2, by rw [tot_mark f h2]; exact h3⟩
end Go.Proofs.YtpcmnebpnpgcmaaGreatDoor
namespace Aml
open Go Go.RowKit
theorem acall_q {P : Program} {w0 : W0} {f : FuncId} {args : List DV} {S : St} {r : DV} (h1 : ACall P w0 f args S (fun d S' => shrT S' d fun d S'' => Wk d r ∧ Sub S S'')) : ACall P w0 f args S (fun d S' => d = r ∧ S' = S) := by
 intro g vs w k1 k2
 refine (h1 g vs w k1 k2).mono ?_
 rintro e w' ⟨v, g', d, S', q1, q2, q3, q4, q5⟩
 obtain ⟨g2, d', S2, p1, p2, p3, p4, p5⟩ := shrT_ok q3 q4 q5
 exact ⟨v, g2, r, S, q1, q2.trans p1, p2.forget p5.box p5.acc, p4 _ _ p3, rfl, rfl⟩
end Aml
namespace Go.Proofs.YtpcmnebpnpgcmaaGreatDoor
open Aml Go
def Fine (n : N) : Prop := ∃ d, Nd d n ∧ totN n ≤ 131072
theorem pagesQ (w0 : W0) (n : N) (S : St) (h : Fine n) : ACall Tryz.prog w0 40 [eT n] S (fun d S' => d = dL (pgsT n) ∧ S' = S) := by
 obtain ⟨d, hn, ht⟩ := h
 have h1 := vis_len noB hn
 have h2 := pgS_le noB hn
 refine acall_q ((pagesP w0 n S (by omega) (by omega) (fun x hx => Nat.le_trans (vis_l noB hn x hx) (by omega))).mono ?_)
 rintro d S' ⟨m, rfl, rfl⟩
 simp (maxDischargeDepth := 12) (maxSteps := 1000000) -implicitDefEqProofs only [go_sem, Nat.reduceAdd, Nat.reduceSub, Nat.reduceMul, Nat.reduceLeDiff, Nat.reduceEqDiff, Nat.reduceGT, Nat.reduceBEq, reduceCtorEq, ↓reduceIte, Int.reduceToNat, Int.reduceLE, Int.reduceLT, Int.reduceNe, Int.reduceEq, pgsT, srt_length]
theorem freshQ (w0 : W0) (n : N) (S : St) (h : Fine n) : ACall Tryz.prog w0 43 [eT n] S (fun d S' => d = dI (frT n) ∧ S' = S) := by
 obtain ⟨d, hn, ht⟩ := h
 have h1 := vis_len laidB hn
 have h2 := frT_le hn
 exact freshP w0 n S (by omega) (by unfold frT at h2; omega) (fun x hx => Nat.le_trans (vis_l laidB hn x hx) (by omega))
theorem Fine.mark {n : N} (h : Fine n) (f : Int) : Fine (markN n f).1 := by
 obtain ⟨d, hn, ht⟩ := h
 exact ⟨d, nd_mark f hn, by rw [tot_mark f hn]; exact ht⟩
theorem pgs_al {d : Nat} {n : N} (h : Nd d n) : pgsT n = srt (alN n) := (srt_congr (al_perm d n h)).symm
end Go.Proofs.YtpcmnebpnpgcmaaGreatDoor
namespace Go.Proofs.YtpcmnebpnpgcmaaGreatDoor
open Aml Go
inductive FullP : N → Prop
 | leaf (p : Int) (l : List C) (h : p ≠ 0 ↔ l ≠ []) (hc : ∀ c, c ∈ l → c.pages.length = longN c.data.size) : FullP (.mk p true l)
 | br (p : Int) (l : List C) (h : p ≠ 0) (hk : ∀ c, c ∈ l → ∀ k, c.kid = [k] → FullP k) : FullP (.mk p false l)
inductive LaidP : N → Prop
 | mk (n : N) (h1 : n.page ≠ 0 → FullP n) (h2 : n.leaf = true → ∀ c, c ∈ n.l → c.pages = [] ∨ c.pages.length = longN c.data.size) (h3 : n.leaf = false → ∀ c, c ∈ n.l → ∀ k, c.kid = [k] → LaidP k) : LaidP n
def laidC (b : Bool) (c : C) : Prop := if b then c.pages = [] ∨ c.pages.length = longN c.data.size else ∀ k, c.kid = [k] → LaidP k
theorem laid_hered : Hered LaidP laidC where
 of := fun b l h => .mk _ (fun e => absurd rfl e) (fun hb c hc => by have := h c hc; simp only [N.leaf_mk] at hb; subst hb; exact this) (fun hb c hc => by have := h c hc; simp only [N.leaf_mk] at hb; subst hb; exact this)
 to := fun n h c hc => by
  cases h with | mk _ h1 h2 h3 =>
  unfold laidC
  cases hb : n.leaf with
  | true => rw [if_pos rfl]; exact h2 hb c hc
  | false => rw [if_neg (by simp)]; exact h3 hb c hc
 kid := fun c k hk h => by unfold laidC at h; rw [if_neg (by simp)] at h; exact h k hk
 cell := fun c k hk _ h => by unfold laidC; rw [if_neg (by simp)]; intro k' hk'; rw [hk] at hk'; cases hk'; exact h
theorem full_laid : ∀ {d : Nat} {n : N}, Nd d n → FullP n → LaidP n
 | 0, n, hn, h => .mk n (fun _ => h) (fun hb c hc => by
   cases h with
   | leaf p l h hl => exact .inr (hl c hc)
   | br p l h hk => cases hb) (fun hb => by rw [hn.1] at hb; cases hb)
 | d + 1, n, hn, h => .mk n (fun _ => h) (fun hb => by rw [hn.1] at hb; cases hb) (fun hb c hc k hk => by
   cases h with
   | leaf p l h hl => cases hb
   | br p l h hkk =>
    obtain ⟨_, k', hk', hnd⟩ := hn.2.2 c hc
    rw [hk] at hk'; cases hk'
    exact full_laid hnd (hkk c hc k hk))
mutual
def tN : N → Nat
 | .mk _ b l => if l = [] then 0 else 1 + tCs b l
def tC (b : Bool) : C → Nat
 | .mk _ d _ kid => if b then longN d.size else tNs kid
def tCs (b : Bool) : List C → Nat
 | [] => 0
 | c :: l => tC b c + tCs b l
def tNs : List N → Nat
 | [] => 0
 | n :: _ => tN n
end
theorem need_long {z : Nat} (h : z ≤ 400) : need (z : Int) = longN z := by
 unfold need longN
 by_cases h16 : 16 < z
 ·rw [if_pos (by omega), if_pos h16]; omega
 ·rw [if_neg (by omega), if_neg h16]
theorem full_page {d : Nat} {n : N} (hn : Nd d n) (h : FullP n) : n.page ≠ 0 ↔ n.l ≠ [] := by
 cases h with
 | leaf p l h hk => exact h
 | br p l h hk =>
  cases d with
  | zero => cases hn.1
  | succ d => exact ⟨fun _ => hn.2.1, fun _ => h⟩
structure RI (q : N × N) : Prop where
 r1 : RootG q.1
 r2 : RootG q.2
 laid : LaidP q.1
 sub : ∀ p, (alN q.1).count p ≤ (alN q.2).count p
 one : ∀ p, (alN q.2).count p ≤ 1
theorem laid_empty : LaidP emptyN := .mk _ (fun e => absurd rfl e) (fun _ c hc => by cases hc) (fun _ c hc => by cases hc)
theorem layCs_memq {b : Bool} : ∀ {l : List C} {q : LS} {x : C}, (∀ c, c ∈ l → ∀ q : LS, (layC b c q).2.1 = q.1.drop (rfC b c)) → rfS b l ≤ q.1.length → x ∈ (layCs b l q).1 →
  ∃ c q', c ∈ l ∧ x = (layC b c q').1 ∧ rfC b c ≤ q'.1.length ∧ ∀ p, p ∈ q'.1 → p ∈ q.1
 | [], _, x, _, _, h => by cases h
 | c :: l, q, x, h1, hq, h => by
  have e : rfS b (c :: l) = rfC b c + rfS b l := by unfold rfS; rw [List.map_cons, List.sum_cons]
  rw [e] at hq
  have d1 := h1 c List.mem_cons_self q
  simp only [layCs] at h
  rcases List.mem_cons.1 h with rfl | h
  ·exact ⟨c, q, List.mem_cons_self, rfl, by omega, fun _ h => h⟩
  ·obtain ⟨c', q', w1, w2, w3, w4⟩ := layCs_memq (fun c hc => h1 c (List.mem_cons_of_mem _ hc)) (by rw [d1, List.length_drop]; omega) h
   refine ⟨c', q', List.mem_cons_of_mem _ w1, w2, w3, fun p hp => ?_⟩
   have := w4 p hp
   rw [d1] at this
   exact List.mem_of_mem_drop this
theorem layC_left {d : Nat} {n : N} (hn : Nd d n) : ∀ c, c ∈ n.l → ∀ q : LS, (layC n.leaf c q).2.1 = q.1.drop (rfC n.leaf c) := fun c hc q => by
 cases d with
 | zero =>
  rw [hn.1, layC_leaf]
  obtain ⟨m, h1, h2⟩ := layV_left c.data c.pages q
  rw [h1, h2]; rfl
 | succ d =>
  obtain ⟨_, k, hk, hnd⟩ := hn.2.2 c hc
  rw [hn.1, layC_br hk, show rfC false c = frT k by rw [← kid0_eq hk]; rfl]
  exact layN_left hnd
theorem layV_full {d : ByteArray} {ps : List Int} {q : LS} (hd : d.size ≤ 400) (h : ps = [] ∨ ps.length = longN d.size) (hq : (if ps = [] then need (d.size : Int) else 0) ≤ q.1.length) : (layV d ps q).1.length = longN d.size := by
 unfold layV
 by_cases hps : ps = []
 ·rw [if_pos hps] at hq
  split
  ·rename_i z
   rw [← need_long hd, z.resolve_right fun f => f hps, hps]; rfl
  ·show (List.take _ _).length = _
   rw [List.length_take, ← need_long hd]; omega
 ·rw [if_pos (.inr hps)]
  exact h.resolve_left hps
theorem lay_full : ∀ {d : Nat} {n : N} {q : LS}, Nd d n → LaidP n → frT n ≤ q.1.length → (∀ p, p ∈ q.1 → p ≠ 0) → FullP (layN n q).1
 | d, n, q, hn, hl, hq, hp => by
  by_cases h0 : n.page ≠ 0
  ·rw [layN_eq, if_pos (.inl h0)]
   cases hl with | mk _ h1 h2 h3 => exact h1 h0
  ·by_cases hz : n.leaf = true ∧ n.l = []
   ·rw [layN_eq, if_pos (.inr hz)]
    cases n with | mk p b l =>
    obtain ⟨z1, z2⟩ := hz
    simp only [N.leaf, N.l, N.page] at z1 z2 h0
    subst z1; subst z2
    exact .leaf _ _ ⟨fun e => absurd e h0, fun e => absurd rfl e⟩ fun c hc => by cases hc
   ·have hpg := lay_page hn hq hp hz
    have hq' := hq
    rw [frT_eq hn, if_neg h0, if_neg hz] at hq'
    have mem := fun x => layCs_memq (x := x) (layC_left hn) (by omega : rfS n.leaf n.l ≤ q.1.length)
    have hlen := layCs_len n.leaf n.l q
    rw [layN_eq, if_neg (fun e => e.elim h0 hz)] at hpg ⊢
    have hpg : (layCs n.leaf n.l q).2.1.headD 0 ≠ 0 := hpg
    show FullP (.mk ((layCs n.leaf n.l q).2.1.headD 0) n.leaf (layCs n.leaf n.l q).1)
    generalize (layCs n.leaf n.l q).2.1.headD 0 = pg at hpg
    generalize (layCs n.leaf n.l q).1 = l' at mem hlen
    cases hl with | mk _ h1 h2 h3 =>
    cases d with
    | zero =>
     have hb := hn.1
     rw [hb] at mem ⊢
     refine .leaf _ _ ⟨fun _ e => hz ⟨hb, ?_⟩, fun _ => hpg⟩ fun x hx => ?_
     ·rw [e] at hlen
      exact List.eq_nil_of_length_eq_zero hlen.symm
     ·obtain ⟨c, q', w1, w2, w3, w4⟩ := mem x hx
      rw [w2, layC_leaf]
      exact layV_full (hn.2 c w1).1.2.1 (h2 hb c w1) w3
    | succ d =>
     have hb := hn.1
     rw [hb] at mem ⊢
     refine .br _ _ hpg fun x hx k' hk' => ?_
     obtain ⟨c, q', w1, w2, w3, w4⟩ := mem x hx
     obtain ⟨_, k, hk, hnd⟩ := hn.2.2 c w1
     rw [w2, layC_br hk] at hk'
     have hk' : [(layN k q').1] = [k'] := hk'
     cases hk'
     rw [show rfC false c = frT k by rw [← kid0_eq hk]; rfl] at w3
     exact lay_full hnd (h3 hb c w1 k hk) w3 fun p h => hp p (w4 p h)
 termination_by d => d
theorem okE_leaf {c : C} (hk : c.key.size ≤ 16) (hd : c.data.size ≤ 400) (hl : c.pages.length = longN c.data.size) (hp : ∀ p, p ∈ c.pages → 2 ≤ p ∧ p ≤ 999) : OkE true (entE true c) := by
 unfold entE
 rw [if_pos rfl]
 unfold longN at hl
 cases h : c.pages with
 | nil =>
  rw [if_pos rfl]
  have : c.data.size ≤ 16 := by
   rw [h] at hl
   simp only [List.length_nil] at hl
   split at hl <;> omega
  refine ⟨hk, ?_⟩
  rw [if_pos rfl, if_neg (by simp)]
  exact ⟨this, rfl, rfl⟩
 | cons p ps =>
  rw [if_neg (by simp)]
  have : 16 < c.data.size := by
   rw [h] at hl
   simp only [List.length_cons] at hl
   split at hl <;> omega
  refine ⟨hk, ?_⟩
  rw [if_pos rfl, if_pos rfl]
  have := hp p (by rw [h]; exact List.mem_cons_self)
  refine ⟨rfl, ?_, ?_, this.1, this.2⟩ <;> simp only [] <;> omega
theorem okE_br {c : C} {k : N} (hk : c.key.size ≤ 16) (hkid : c.kid = [k]) (hp : 2 ≤ k.page ∧ k.page ≤ 999) : OkE false (entE false c) := by
 unfold entE
 rw [if_neg (by simp), kid0_eq hkid]
 refine ⟨hk, ?_⟩
 rw [if_neg (by simp)]
 exact ⟨rfl, rfl, rfl, hp.1, hp.2⟩
theorem lay_pgs {P : Int → Prop} {d : Nat} {n : N} {q : LS} (hn : Nd d n) (hq : frT n ≤ q.1.length) (h0 : ∀ p, p ∈ q.1 → p ≠ 0) (h1 : ∀ p, p ∈ alN n → P p) (h2 : ∀ p, p ∈ q.1 → P p) : ∀ p, p ∈ alN (layN n q).1 → P p := fun p hp => by
 rcases List.mem_append.1 ((lay_al hn hq h0).mem_iff.1 hp) with h | h
 ·exact h1 p h
 ·exact h2 p (List.mem_of_mem_take h)
theorem page_al {n : N} (h : n.page ≠ 0) : n.page ∈ alN n := by
 rw [alN_eq, if_pos h]; exact List.mem_append_left _ List.mem_cons_self
structure Put8 (b : Bool) (l : List C) : Prop where
 ok : ∀ e, e ∈ l.map (entE b) → OkE b e
 rise : (l.map (entE b)).Pairwise fun x y => ltS x.key y.key = true
 first : ∀ (i : Nat) e, (l.map (entE b))[i]? = some e → (e.key = noS ↔ i = 0 ∧ b = false)
 fits : sizS ((l.map (entE b)).map (cellS b)) ≤ 122
 many : 1 < (l.map (entE b)).length ∨ (b = true ∧ (l.map (entE b)).length = 1)
theorem ent_key (b : Bool) (c : C) : (entE b c).key = c.key := by
 unfold entE
 split
 ·split <;> rfl
 ·rfl
theorem ent_leaf_size {c : C} (h : ShL c) (hf : c.pages.length = longN c.data.size) : (((cellS true (entE true c)).size + 1 : Nat) : Int) = sizeC true c := by
 rw [cellS_size, ent_key]
 have h3 := h.2.2.1
 have hn := need_long h3
 by_cases hp : c.pages = []
 ·have h0 : longN c.data.size = 0 := by rw [← hf, hp]; rfl
  have e : entE true c = ⟨c.key, c.data, false, 0, 0⟩ := by unfold entE; rw [if_pos rfl, if_pos hp]
  rw [e]
  unfold sizeC
  simp only [if_true, Bool.false_eq_true, if_false]
  rw [if_neg (by rw [hn, h0]; omega)]
  omega
 ·have h0 : longN c.data.size ≠ 0 := by rw [← hf]; exact fun e => hp (List.eq_nil_of_length_eq_zero e)
  have e : entE true c = ⟨c.key, noS, true, c.data.size, c.pages.headD 0⟩ := by unfold entE; rw [if_pos rfl, if_neg hp]
  rw [e]
  unfold sizeC
  simp only [if_true]
  rw [if_pos (.inl (by rw [hn]; omega))]
  omega
theorem ent_br_size (c : C) : (((cellS false (entE false c)).size + 1 : Nat) : Int) = sizeC false c := by
 rw [cellS_size, ent_key]
 unfold sizeC
 simp only [Bool.false_eq_true, if_false]
 omega
theorem siz_sum {b : Bool} : ∀ {l : List C}, (∀ c, c ∈ l → (((cellS b (entE b c)).size + 1 : Nat) : Int) = sizeC b c) → ((sizS ((l.map (entE b)).map (cellS b)) : Nat) : Int) = (l.map (sizeC b)).sum
 | [], _ => rfl
 | c :: l, h => by
  have h1 := h c List.mem_cons_self
  have h2 := siz_sum (l := l) fun c hc => h c (List.mem_cons_of_mem _ hc)
  unfold sizS at h2 ⊢
  rw [List.map_cons, List.map_cons, List.map_cons, List.sum_cons, List.map_cons, List.sum_cons, ← h1, ← h2]
  omega
theorem put8_ok {d : Nat} {n : N} (hg : Good d n) (hf : FullP n) (hp : ∀ p, p ∈ alN n → 2 ≤ p ∧ p ≤ 999) (hs : (sizesN n).sum ≤ 122) (hne : n.l ≠ []) (h2 : n.leaf = true ∨ 2 ≤ n.l.length) : Put8 n.leaf n.l := by
 have hk := fitK_good hg (lo := noS) (hi := noS) (fun x _ => noS_le _) (fun e => absurd rfl e)
 have hpos := List.length_pos_iff.2 hne
 refine ⟨fun e he => ?_, ?_, fun i e he => ?_, ?_, ?_⟩
 ·obtain ⟨c, hc, rfl⟩ := List.mem_map.1 he
  cases d with
  | zero =>
   obtain ⟨w1, w2, w3, w4, w5, w6⟩ := hg.2.2 c hc
   rw [alN_eq] at hp
   rw [hg.1] at hp ⊢
   refine okE_leaf w2 w3 ?_ fun p h => hp p (List.mem_append_right _ (List.mem_flatMap.2 ⟨c, hc, by rw [alC_leaf]; exact h⟩))
   cases hf with
   | leaf p l _ hh => exact hh c hc
   | br p l _ _ => cases hg.1
  | succ d =>
   obtain ⟨⟨w1, w2, w3⟩, _, k, hkid, hgk, hfk⟩ := hg.2.2.cell c hc
   rw [alN_eq] at hp
   rw [hg.1] at hp ⊢
   have hfull : FullP k := by
    cases hf with
    | leaf p l _ _ => cases hg.1
    | br p l _ hh => exact hh c hc k hkid
   have hkp := (full_page (good_nd hgk) hfull).2 (fits_ne hfk)
   exact okE_br w1 hkid (hp _ (List.mem_append_right _ (List.mem_flatMap.2 ⟨c, hc, by rw [alC_br hkid]; exact List.mem_append_right _ (page_al hkp)⟩)))
 ·rw [List.pairwise_map]
  exact hk.rise.imp fun {a b} h => by rw [ent_key, ent_key]; exact h
 ·rw [List.getElem?_map] at he
  cases hc : n.l[i]? with
  | none => rw [hc] at he; cases he
  | some c =>
   rw [hc] at he
   cases he
   rw [ent_key]
   exact hk.first i c hc
 ·have : ((sizS ((n.l.map (entE n.leaf)).map (cellS n.leaf)) : Nat) : Int) = (n.l.map (sizeC n.leaf)).sum := siz_sum fun c hc => by
   cases d with
   | zero =>
    rw [hg.1]
    refine ent_leaf_size (hg.2.2 c hc) ?_
    cases hf with
    | leaf p l _ hh => exact hh c hc
    | br p l _ _ => cases hg.1
   | succ d => rw [hg.1]; exact ent_br_size c
  have : (sizesN n).sum = (n.l.map (sizeC n.leaf)).sum := rfl
  omega
 ·rw [List.length_map]
  rcases h2 with h | h
  ·by_cases h1 : n.l.length = 1
   ·exact .inr ⟨h, h1⟩
   ·exact .inl (by omega)
  ·exact .inl (by omega)
theorem layV_wr (d : ByteArray) (ps : List Int) (q : LS) : (layV d ps q).2.2.length ≤ q.2.length + (if ps = [] then need (d.size : Int) else 0) := by
 unfold layV
 split
 ·show q.2.length ≤ _; omega
 ·rename_i h
  rw [if_pos (Classical.not_not.1 fun e => h (.inr e))]
  show (q.2 ++ _).length ≤ _
  rw [List.length_append, List.length_zip, List.length_take]
  omega
theorem layCs_wr {b : Bool} : ∀ {l : List C} {q : LS}, (∀ c, c ∈ l → ∀ q : LS, (layC b c q).2.2.length ≤ q.2.length + rfC b c) → (layCs b l q).2.2.length ≤ q.2.length + rfS b l
 | [], q, _ => by simp [layCs, rfS]
 | c :: l, q, h => by
  have h1 := h c List.mem_cons_self q
  have h2 := layCs_wr (l := l) (q := (layC b c q).2) fun c hc => h c (List.mem_cons_of_mem _ hc)
  have e : rfS b (c :: l) = rfC b c + rfS b l := by unfold rfS; rw [List.map_cons, List.sum_cons]
  simp only [layCs]
  omega
theorem layN_wr : ∀ {d : Nat} {n : N} {q : LS}, Nd d n → (layN n q).2.2.length ≤ q.2.length + frT n := by
 have fin : ∀ {d : Nat} {n : N} {q : LS}, Nd d n → (∀ c, c ∈ n.l → ∀ q : LS, (layC n.leaf c q).2.2.length ≤ q.2.length + rfC n.leaf c) → (layN n q).2.2.length ≤ q.2.length + frT n := by
  intro d n q hn h
  rw [layN_eq, frT_eq hn]
  by_cases hp : n.page ≠ 0
  ·rw [if_pos (.inl hp), if_pos hp]; exact Nat.le_refl _
  ·rw [if_neg hp]
   by_cases hz : n.leaf = true ∧ n.l = []
   ·rw [if_pos (.inr hz), if_pos hz]; exact Nat.le_refl _
   ·rw [if_neg (fun e => e.elim hp hz), if_neg hz]
    show ((layCs n.leaf n.l q).2.2 ++ [_]).length ≤ _
    have := layCs_wr (q := q) h
    rw [List.length_append, List.length_singleton]
    omega
 intro d
 induction d with
 | zero =>
  intro n q hn
  refine fin hn fun c hc q => ?_
  rw [hn.1, layC_leaf]
  exact layV_wr c.data c.pages q
 | succ d ih =>
  intro n q hn
  refine fin hn fun c hc q => ?_
  obtain ⟨_, k, hk, hnd⟩ := hn.2.2 c hc
  rw [hn.1, layC_br hk]
  have : rfC false c = frT k := by rw [← kid0_eq hk]; rfl
  rw [this]
  exact ih hnd
theorem layC_wr {d : Nat} {n : N} (hn : Nd d n) : ∀ c, c ∈ n.l → ∀ q : LS, (layC n.leaf c q).2.2.length ≤ q.2.length + rfC n.leaf c := fun c hc q => by
 cases d with
 | zero =>
  rw [hn.1, layC_leaf]
  exact layV_wr c.data c.pages q
 | succ d =>
  obtain ⟨_, k, hk, hnd⟩ := hn.2.2 c hc
  rw [hn.1, layC_br hk, show rfC false c = frT k by rw [← kid0_eq hk]; rfl]
  exact layN_wr hnd
theorem lay_put8 {d : Nat} {n : N} {q : LS} (hg : Good d n) (hla : LaidP n) (hs : (sizesN n).sum ≤ 122) (h2 : n.leaf = true ∨ 2 ≤ n.l.length) (hf : frT n ≤ q.1.length) (hr : ∀ x, x ∈ q.1 → 2 ≤ x ∧ x ≤ 999) (hp : ∀ p, p ∈ alN n → 2 ≤ p ∧ p ≤ 999) (h0 : ¬ (n.page ≠ 0 ∨ (n.leaf = true ∧ n.l = []))) : Put8 n.leaf (layCs n.leaf n.l q).1 := by
 have hn := good_nd hg
 have hz : ∀ p, p ∈ q.1 → p ≠ 0 := fun p hp => by have := hr p hp; omega
 have hlen := layCs_len n.leaf n.l q
 have e1 := layN_leaf n q
 have e2 := layN_l n q
 rw [if_neg h0] at e2
 have hne : n.l ≠ [] := fun e => by
  cases d with
  | zero => exact h0 (.inr ⟨hg.1, e⟩)
  | succ d => exact hg.2.1 e
 have := put8_ok (good_lay q hg) (lay_full hn hla hf hz) (lay_pgs hn hf hz hp hr) (by rw [lay_sizes]; exact hs) (by rw [e2]; intro e; rw [e] at hlen; exact hne (List.eq_nil_of_length_eq_zero hlen.symm)) (by rw [e1, e2, hlen]; exact h2)
 rw [e1, e2] at this
 exact this
theorem layR (w0 : W0) (bs lw : Nat) : ∀ (d : Nat) (n : N) (q : LS) (S : St), Good d n → LaidP n → LayI S bs lw q.1 q.2 → totN n ≤ 131072 → (sizesN n).sum ≤ 122 → (n.leaf = true ∨ 2 ≤ n.l.length) → frT n ≤ q.1.length → q.1.length ≤ 1024 → q.1.Nodup → (∀ x, x ∈ q.1 → 2 ≤ x ∧ x ≤ 999) → (∀ p, p ∈ alN n → 2 ≤ p ∧ p ≤ 999) → q.2.length + frT n ≤ 65536 →
  ACall Tryz.prog w0 29 [.v (.pointer (some ⟨bs, 0, none⟩)), eN n] S (fun e S' => e = eN (layN n q).1 ∧ S' = layS S bs lw (layN n q).2.1 (layN n q).2.2) := by
 intro d
 induction d with
 | zero =>
  intro n q S hg hla hI ht hs h2 hf hq hu hr hp hw
  have hn := good_nd hg
  have hlf := hg.1
  have hlen := tot_len n
  have hq1 := lay_put8 (q := q) hg hla hs h2 hf hr hp
  have hq2 := layN_eq n q
  have hq3 := frT_eq hn
  have hlC := layC_left hn
  have hwC := layC_wr hn
  obtain ⟨left, ws⟩ := q
  simp only at hI hf hu hr hw hq
  have hb := hI.box
  have ha := hI.acc
  have hbu := lay_self hb
  have hau := lay_self ha
  rw [hlf] at hq1 hq2 hq3 hlC hwC
  generalize layN n (left, ws) = R at *
  refine fnP [18] mx Tryz.func29 rfl rfl (by kernel_rfl) ?_; (refine @goW _ ?_; refine goS2 @Tryz.ntmps29 @hlf ?_)
  intro b b1
  have fin1 : n.page ≠ 0 ∨ (true = true ∧ n.l = []) → R = (n, (left, ws)) := fun e => by rw [hq2, if_pos e]
  have en : eN n = .agg [dI n.page, dB true, .sl 4 false (n.l.map dC)] := by unfold eN; rw [hlf]
  refine ⟨fun h0 => ?_, fun h0 => ⟨fun h1 => ?_, fun h1 => ?_⟩⟩
  ·rw [fin1 (.inl h0)]
   refine ⟨_, _, .refl _, ?_, by rw [hlf], rfl⟩
   rw [lay_id hI]
   exact ⟨(List.sublist_cons_self _ _).trans (List.sublist_cons_self _ _), List.Sublist.refl _⟩
  ·rw [fin1 (.inr ⟨rfl, List.eq_nil_of_length_eq_zero (by omega)⟩)]
   refine ⟨_, _, .refl _, ?_, by rw [hlf], rfl⟩
   rw [lay_id hI]
   exact ⟨(List.sublist_cons_self _ _).trans (List.sublist_cons_self _ _), List.Sublist.refl _⟩
  ·have h00 : ¬ (n.page ≠ 0 ∨ true = true ∧ n.l = []) := fun e => e.elim (fun e => h0 e) fun e => h1 (by rw [e.2]; rfl)
   rw [if_neg h00] at hq2
   rw [if_neg (fun e => h00 (.inl e)), if_neg (fun e => h00 (.inr e))] at hq3
   replace hq1 := hq1 h00
   intro b2 b3
   refine awp_growB b2.n 2 4 (by omega) (ds := [dI 0, dB true, .sl 0 true []]) (by (refine @goW _ ?_; exact goT)) rfl fun lo => ?_
   (refine @goW _ ?_; refine goS ?_)
   refine awp_growB b3.n 1 5 (by omega) (ds := [dB true, .sl 0 true []]) (by (refine @goW _ ?_; exact goT)) rfl fun lm => ?_
   (refine @goW _ ?_; refine goS ?_)
   refine loopN [18] n.l.length [0, 3, 4, 5, 6, 7] (fun k => [(7, dI k)]) (fun k => ⟨(b3.n, [dB true, .acc lm.n k]) :: (b2.n, [dI 0, dB true, .acc lo.n k]) :: (b1.n, [dI 0, dB false, .sl 0 true []]) :: (b.n, [dI n.page, dB true, .sl 4 false (n.l.map dC)]) :: up S.box bs [.acc lw (layCs true (n.l.take k) (left, ws)).2.2.length, .sl 1 false ((layCs true (n.l.take k) (left, ws)).2.1.map dI)], (lm.n, .arr 5 (((layCs true (n.l.take k) (left, ws)).1.map (entE true)).map dE8)) :: (lo.n, .arr 4 ((layCs true (n.l.take k) (left, ws)).1.map dC)) :: up S.acc lw (.arr 2 ((layCs true (n.l.take k) (left, ws)).2.2.map dWr))⟩) (fun _ => True) mx (by kernel_rfl) ?_ ?_
   ·simp (maxDischargeDepth := 12) (maxSteps := 1000000) -implicitDefEqProofs only [go_sem, Nat.reduceAdd, Nat.reduceSub, Nat.reduceMul, Nat.reduceLeDiff, Nat.reduceEqDiff, Nat.reduceGT, Nat.reduceBEq, reduceCtorEq, ↓reduceIte, Int.reduceToNat, Int.reduceLE, Int.reduceLT, Int.reduceNe, Int.reduceEq, hbu, hau, layCs]
   ·intro k hk _
    have hlk : (layCs true (n.l.take k) (left, ws)).1.length = k := by rw [layCs_len, List.length_take]; omega
    have hdk := layCs_left (q := (left, ws)) fun c hc => hlC c (List.mem_of_mem_take (i := k) hc)
    have hwk := layCs_wr (q := (left, ws)) fun c hc => hwC c (List.mem_of_mem_take (i := k) hc)
    have htk := rfS_take true n.l k
    have hm8 : maxLen = 9223372036854775807 := rfl
    (refine @goW _ ?_; refine goS1 @hb ?_)
    refine ⟨fun hlt => ⟨hlt, fun c hc b4 => ?_⟩, fun hge => ?_⟩
    ·have hs := layCs_take (b := true) hc (left, ws)
     rw [layC_leaf] at hs
     have hcm := List.mem_of_getElem? hc
     have htk1 := rfS_take true n.l (k + 1)
     have hsu := rfS_succ (b := true) hc
     have hcn := hn.2 c hcm
     have hrc : rfC true c = if c.pages = [] then need (c.data.size : Int) else 0 := rfl
     rw [hs]
     generalize layCs true (n.l.take k) (left, ws) = Pk at *
     obtain ⟨Lk, lf, wk⟩ := Pk
     simp only at hlk hdk hwk
     have hlfl : lf.length = left.length - rfS true (n.l.take k) := by rw [hdk, List.length_drop]
     have hIk : LayI (⟨(b4.n, [dS c.key, dS c.data, .sl 1 false (c.pages.map dI), .sl 3 false (c.kid.map dN)]) :: (b3.n, [dB true, .acc lm.n k]) :: (b2.n, [dI 0, dB true, .acc lo.n k]) :: (b1.n, [dI 0, dB false, .sl 0 true []]) :: (b.n, [dI n.page, dB true, .sl 4 false (n.l.map dC)]) :: up S.box bs [.acc lw wk.length, .sl 1 false (lf.map dI)], (lm.n, .arr 5 ((Lk.map (entE true)).map dE8)) :: (lo.n, .arr 4 (Lk.map dC)) :: up S.acc lw (.arr 2 (wk.map dWr))⟩ : St) bs lw lf wk := ⟨by
      have e : lk (up S.box bs [.acc lw wk.length, .sl 1 false (lf.map dI)]) bs = some [.acc lw wk.length, .sl 1 false (lf.map dI)] := by rw [lk_up_same, hb]; rfl
      (refine @goW _ ?_; exact goT2 @hb @e), by
      have e : lk (up S.acc lw (.arr 2 (wk.map dWr))) lw = some (.arr 2 (wk.map dWr)) := by rw [lk_up_same, ha]; rfl
      (refine @goW _ ?_; exact goT2 @ha @e)⟩
     have hval := value19R w0 bs lw c.data c.pages (lf, wk) _ hIk hcn.1.2.1 (by have := hcn.1.2.2; omega) (by show lf.length ≤ _; omega) (by show wk.length ≤ _; omega) (by
      by_cases e : c.pages = []
      ·rw [if_pos e] at hrc
       exact .inl (by show _ ≤ lf.length; omega)
      ·exact .inr e) (fun x hx => hr x (by rw [hdk] at hx; exact List.mem_of_mem_drop hx)) (by show lf.Nodup; rw [hdk]; exact hu.sublist (List.drop_sublist _ _))
     generalize layV c.data c.pages (lf, wk) = V at *
     obtain ⟨ps, l1, w1⟩ := V
     refine useK hval ?_
     rintro e S' ⟨rfl, rfl⟩
     have hcell := fun S => cell19R w0 true (.mk c.key c.data ps c.kid) S (fun e => by cases e)
     simp (maxDischargeDepth := 12) (maxSteps := 1000000) -implicitDefEqProofs only [go_sem, Nat.reduceAdd, Nat.reduceSub, Nat.reduceMul, Nat.reduceLeDiff, Nat.reduceEqDiff, Nat.reduceGT, Nat.reduceBEq, reduceCtorEq, ↓reduceIte, Int.reduceToNat, Int.reduceLE, Int.reduceLT, Int.reduceNe, Int.reduceEq, layS, hb, ha, hlk]
     refine ⟨by omega, by omega, useQ (hcell _) ?_ (by (refine @goW _ ?_; exact goT))⟩
     simp (maxDischargeDepth := 12) (maxSteps := 1000000) -implicitDefEqProofs only [go_sem, Nat.reduceAdd, Nat.reduceSub, Nat.reduceMul, Nat.reduceLeDiff, Nat.reduceEqDiff, Nat.reduceGT, Nat.reduceBEq, reduceCtorEq, ↓reduceIte, Int.reduceToNat, Int.reduceLE, Int.reduceLT, Int.reduceNe, Int.reduceEq, layS, hb, ha, hlk, List.map_append, List.map_cons, List.map_nil]
     exact ⟨by omega, by omega, hlt, i_oneV k (by omega)⟩
    ·have hkl : k = n.l.length := by omega
     subst hkl
     rw [List.take_length] at hlk hdk hwk ⊢
     generalize layCs true n.l (left, ws) = Pk at *
     obtain ⟨Lk, lf, wk⟩ := Pk
     simp only at hlk hdk hwk hq1 hq2
     have hlfl : lf.length = left.length - rfS true n.l := by rw [hdk, List.length_drop]
     cases lf with
     | nil => simp only [List.length_nil] at hlfl; omega
     | cons p lr =>
      simp only [List.headD_cons, List.tail_cons] at hq2
      subst hq2
      have e1 : lk (up S.box bs [.acc lw wk.length, .sl 1 false ((p :: lr).map dI)]) bs = some [.acc lw wk.length, .sl 1 false ((p :: lr).map dI)] := by rw [lk_up_same, hb]; rfl
      have e2 : lk (up S.acc lw (.arr 2 (wk.map dWr))) lw = some (.arr 2 (wk.map dWr)) := by rw [lk_up_same, ha]; rfl
      refine useK (someR w0 bs lw (p :: lr) wk 1 _ ⟨by (refine @goW _ ?_; exact goT2 @hb @e1), by (refine @goW _ ?_; exact goT2 @ha @e2)⟩ (by simp) (by omega)) ?_
      rintro e S' ⟨rfl, rfl⟩
      simp (maxDischargeDepth := 12) (maxSteps := 1000000) -implicitDefEqProofs only [go_sem, Nat.reduceAdd, Nat.reduceSub, Nat.reduceMul, Nat.reduceLeDiff, Nat.reduceEqDiff, Nat.reduceGT, Nat.reduceBEq, reduceCtorEq, ↓reduceIte, Int.reduceToNat, Int.reduceLE, Int.reduceLT, Int.reduceNe, Int.reduceEq, layS, hb, ha, hlk, List.take_succ_cons, List.take_zero, List.drop_succ_cons, List.drop_zero, List.length_cons, List.length_nil, List.getElem?_cons_zero]
      have hput := fun S => put8R w0 true (Lk.map (entE true)) S (by rw [List.length_map]; omega) hq1.ok hq1.rise hq1.first hq1.fits hq1.many
      refine use1 (hput _) ?_
      (refine @goW _ ?_; refine goS2 @hb @ha ?_)
      have e3 : lk (up S.box bs [.acc lw wk.length, .sl 1 false (lr.map dI)]) bs = some [.acc lw wk.length, .sl 1 false (lr.map dI)] := by rw [lk_up_same, hb]; rfl
      refine useK (writeR w0 bs lw lr wk p _ _ ⟨by (refine @goW _ ?_; exact goT2 @hb @e3), by (refine @goW _ ?_; exact goT2 @ha @e2)⟩ (by omega)) ?_
      rintro e S' rfl
      simp (maxDischargeDepth := 12) (maxSteps := 1000000) -implicitDefEqProofs only [go_sem, Nat.reduceAdd, Nat.reduceSub, Nat.reduceMul, Nat.reduceLeDiff, Nat.reduceEqDiff, Nat.reduceGT, Nat.reduceBEq, reduceCtorEq, ↓reduceIte, Int.reduceToNat, Int.reduceLE, Int.reduceLT, Int.reduceNe, Int.reduceEq, layS, hb, ha]
      refine shrB b2.n 2 (l := lo.n) (s := 4) (xs := Lk.map dC) (ds := [dI p, dB true, .acc lo.n n.l.length]) (by (refine @goW _ ?_; exact goT)) (by simp [hlk]) (by (refine @goW _ ?_; exact goT)) ?_
      (refine @goW _ ?_; refine goS ?_)
      refine shrK [] [] mx (by kernel_rfl) ?_
      (refine @goW _ ?_; refine goS ?_)
      refine ⟨_, _, .refl _, ?_, rfl, rfl⟩
      have e5 : (wk ++ [(p, pageS true Lk)]).length = wk.length + 1 := List.length_append
      unfold layS
      rw [e5]
      exact ⟨((List.sublist_cons_self _ _).trans (List.sublist_cons_self _ _)).trans ((List.sublist_cons_self _ _).trans (List.sublist_cons_self _ _)), (List.sublist_cons_self _ _).trans (List.sublist_cons_self _ _)⟩
 | succ d ih =>
  intro n q S hg hla hI ht hs h2 hf hq hu hr hp hw
  have hn := good_nd hg
  have hlf := hg.1
  have hlen := tot_len n
  have hq1 := lay_put8 (q := q) hg hla hs h2 hf hr hp
  have hq2 := layN_eq n q
  have hq3 := frT_eq hn
  have hlC := layC_left hn
  have hwC := layC_wr hn
  obtain ⟨left, ws⟩ := q
  simp only at hI hf hu hr hw hq
  have hb := hI.box
  have ha := hI.acc
  have hbu := lay_self hb
  have hau := lay_self ha
  rw [hlf] at hq1 hq2 hq3 hlC hwC
  generalize layN n (left, ws) = R at *
  refine fnP [12,18] mx Tryz.func29 rfl rfl (by kernel_rfl) ?_; (refine @goW _ ?_; refine goS2 @Tryz.ntmps29 @hlf ?_)
  intro b b1
  have fin1 : n.page ≠ 0 ∨ (false = true ∧ n.l = []) → R = (n, (left, ws)) := fun e => by rw [hq2, if_pos e]
  have en : eN n = .agg [dI n.page, dB false, .sl 4 false (n.l.map dC)] := by unfold eN; rw [hlf]
  refine ⟨fun h0 => ?_, fun h0 => ?_⟩
  ·rw [fin1 (.inl h0)]
   refine ⟨_, _, .refl _, ?_, by rw [hlf], rfl⟩
   rw [lay_id hI]
   exact ⟨(List.sublist_cons_self _ _).trans (List.sublist_cons_self _ _), List.Sublist.refl _⟩
  ·have h00 : ¬ (n.page ≠ 0 ∨ false = true ∧ n.l = []) := fun e => e.elim (fun e => h0 e) fun e => by cases e.1
   rw [if_neg h00] at hq2
   rw [if_neg (fun e => h00 (.inl e)), if_neg (fun e => h00 (.inr e))] at hq3
   replace hq1 := hq1 h00
   intro b2 b3
   refine awp_growB b2.n 2 4 (by omega) (ds := [dI 0, dB false, .sl 0 true []]) (by (refine @goW _ ?_; exact goT)) rfl fun lo => ?_
   (refine @goW _ ?_; refine goS ?_)
   refine awp_growB b3.n 1 5 (by omega) (ds := [dB false, .sl 0 true []]) (by (refine @goW _ ?_; exact goT)) rfl fun lm => ?_
   (refine @goW _ ?_; refine goS ?_)
   refine loopN [12, 18] n.l.length [0, 3, 4, 5, 6, 7] (fun k => [(7, dI k)]) (fun k => ⟨(b3.n, [dB false, .acc lm.n k]) :: (b2.n, [dI 0, dB false, .acc lo.n k]) :: (b1.n, [dI 0, dB false, .sl 0 true []]) :: (b.n, [dI n.page, dB false, .sl 4 false (n.l.map dC)]) :: up S.box bs [.acc lw (layCs false (n.l.take k) (left, ws)).2.2.length, .sl 1 false ((layCs false (n.l.take k) (left, ws)).2.1.map dI)], (lm.n, .arr 5 (((layCs false (n.l.take k) (left, ws)).1.map (entE false)).map dE8)) :: (lo.n, .arr 4 ((layCs false (n.l.take k) (left, ws)).1.map dC)) :: up S.acc lw (.arr 2 ((layCs false (n.l.take k) (left, ws)).2.2.map dWr))⟩) (fun _ => True) mx (by kernel_rfl) ?_ ?_
   ·simp (maxDischargeDepth := 12) (maxSteps := 1000000) -implicitDefEqProofs only [go_sem, Nat.reduceAdd, Nat.reduceSub, Nat.reduceMul, Nat.reduceLeDiff, Nat.reduceEqDiff, Nat.reduceGT, Nat.reduceBEq, reduceCtorEq, ↓reduceIte, Int.reduceToNat, Int.reduceLE, Int.reduceLT, Int.reduceNe, Int.reduceEq, hbu, hau, layCs]
   ·intro k hk _
    have hlk : (layCs false (n.l.take k) (left, ws)).1.length = k := by rw [layCs_len, List.length_take]; omega
    have hdk := layCs_left (q := (left, ws)) fun c hc => hlC c (List.mem_of_mem_take (i := k) hc)
    have hwk := layCs_wr (q := (left, ws)) fun c hc => hwC c (List.mem_of_mem_take (i := k) hc)
    have htk := rfS_take false n.l k
    have hm8 : maxLen = 9223372036854775807 := rfl
    (refine @goW _ ?_; refine goS1 @hb ?_)
    refine ⟨fun hlt => ⟨hlt, fun c hc b4 => ?_⟩, fun hge => ?_⟩
    ·have hs := layCs_take (b := false) hc (left, ws)
     obtain ⟨hsh, _, kid, hkid, hkg, hkf⟩ := hg.2.2.cell c (List.mem_of_getElem? hc)
     have hnd := good_nd hkg
     have htk2 := tot_kid (List.mem_of_getElem? hc) hkid
     rw [layC_br hkid] at hs
     have hcm := List.mem_of_getElem? hc
     have htk1 := rfS_take false n.l (k + 1)
     have hsu := rfS_succ (b := false) hc
     have hrc : rfC false c = frT kid := by rw [← kid0_eq hkid]; rfl
     rw [hs]
     generalize layCs false (n.l.take k) (left, ws) = Pk at *
     obtain ⟨Lk, lf, wk⟩ := Pk
     simp only at hlk hdk hwk
     have hlfl : lf.length = left.length - rfS false (n.l.take k) := by rw [hdk, List.length_drop]
     have hIk : LayI (⟨(b4.n, [dS c.key, dS c.data, .sl 1 false (c.pages.map dI), .sl 3 false (c.kid.map dN)]) :: (b3.n, [dB false, .acc lm.n k]) :: (b2.n, [dI 0, dB false, .acc lo.n k]) :: (b1.n, [dI 0, dB false, .sl 0 true []]) :: (b.n, [dI n.page, dB false, .sl 4 false (n.l.map dC)]) :: up S.box bs [.acc lw wk.length, .sl 1 false (lf.map dI)], (lm.n, .arr 5 ((Lk.map (entE false)).map dE8)) :: (lo.n, .arr 4 (Lk.map dC)) :: up S.acc lw (.arr 2 (wk.map dWr))⟩ : St) bs lw lf wk := ⟨by
      have e : lk (up S.box bs [.acc lw wk.length, .sl 1 false (lf.map dI)]) bs = some [.acc lw wk.length, .sl 1 false (lf.map dI)] := by rw [lk_up_same, hb]; rfl
      (refine @goW _ ?_; exact goT2 @hb @e), by
      have e : lk (up S.acc lw (.arr 2 (wk.map dWr))) lw = some (.arr 2 (wk.map dWr)) := by rw [lk_up_same, ha]; rfl
      (refine @goW _ ?_; exact goT2 @ha @e)⟩
     have hal : ∀ p, p ∈ alN kid → p ∈ alN n := fun p hp => by
      rw [alN_eq n, hlf]
      exact List.mem_append_right _ (List.mem_flatMap.2 ⟨c, hcm, by rw [alC_br hkid]; exact List.mem_append_right _ hp⟩)
     have hkl2 : kid.leaf = true ∨ 2 ≤ kid.l.length := by
      cases d with
      | zero => exact .inl hkg.1
      | succ d =>
       refine .inr ?_
       have h30 := hkf.1
       have hsz := good_sizes hkg
       unfold sizesN at h30 hsz
       match hm : kid.l with
       | [] => rw [hm] at h30; simp at h30
       | [x] =>
        rw [hm] at h30 hsz
        have := hsz _ (List.mem_map_of_mem List.mem_cons_self)
        simp only [List.map_cons, List.map_nil, List.sum_cons, List.sum_nil] at h30 this
        rw [if_neg (by omega)] at this
        omega
       | x :: y :: r => simp
     have hval := ih kid (lf, wk) _ hkg (by
      cases hla with | mk _ _ _ h3 => exact h3 hlf c hcm kid hkid) hIk (by omega) hkf.2 hkl2 (by show _ ≤ lf.length; omega) (by show lf.length ≤ _; omega) (by show lf.Nodup; rw [hdk]; exact hu.sublist (List.drop_sublist _ _)) (fun x hx => hr x (by rw [hdk] at hx; exact List.mem_of_mem_drop hx)) (fun p hp' => hp p (hal p hp')) (by show wk.length + _ ≤ _; omega)
     generalize layN kid (lf, wk) = V at *
     obtain ⟨kd, l1, w1⟩ := V
     rw [hkid] at hIk hval ⊢
     simp only [List.map_cons, List.map_nil, dN_eq] at hIk hval
     (refine @goW _ ?_; refine goS ?_)
     refine useK hval ?_
     rintro e S' ⟨rfl, rfl⟩
     have hcell := fun S => cell19R w0 false (.mk c.key c.data c.pages [kd]) S (fun e => ⟨kd, rfl⟩)
     simp (maxDischargeDepth := 12) (maxSteps := 1000000) -implicitDefEqProofs only [go_sem, Nat.reduceAdd, Nat.reduceSub, Nat.reduceMul, Nat.reduceLeDiff, Nat.reduceEqDiff, Nat.reduceGT, Nat.reduceBEq, reduceCtorEq, ↓reduceIte, Int.reduceToNat, Int.reduceLE, Int.reduceLT, Int.reduceNe, Int.reduceEq, layS, hb, ha, hlk]
     refine wkBoxK b4.n [dS c.key, dS c.data, .sl 1 false (c.pages.map dI), .sl 3 false [dN kd]] (ds := [dS c.key, dS c.data, .sl 1 false (c.pages.map dI), .sl 3 true [eN kd]]) (by (refine @goW _ ?_; exact goT)) (by rw [dN_eq]; exact .cons (.refl _) (.cons (.refl _) (.cons (.refl _) (.cons (.full _ _ _) .nil)))) ?_
     (refine @goW _ ?_; refine goS ?_)
     refine shrK [18] [] mx (by kernel_rfl) ?_
     simp (maxDischargeDepth := 12) (maxSteps := 1000000) -implicitDefEqProofs only [go_sem, Nat.reduceAdd, Nat.reduceSub, Nat.reduceMul, Nat.reduceLeDiff, Nat.reduceEqDiff, Nat.reduceGT, Nat.reduceBEq, reduceCtorEq, ↓reduceIte, Int.reduceToNat, Int.reduceLE, Int.reduceLT, Int.reduceNe, Int.reduceEq, layS, hb, ha, hlk]
     refine ⟨by omega, by omega, useQ (hcell _) ?_ (by (refine @goW _ ?_; exact goT))⟩
     simp (maxDischargeDepth := 12) (maxSteps := 1000000) -implicitDefEqProofs only [go_sem, Nat.reduceAdd, Nat.reduceSub, Nat.reduceMul, Nat.reduceLeDiff, Nat.reduceEqDiff, Nat.reduceGT, Nat.reduceBEq, reduceCtorEq, ↓reduceIte, Int.reduceToNat, Int.reduceLE, Int.reduceLT, Int.reduceNe, Int.reduceEq, layS, hb, ha, hlk, List.map_append, List.map_cons, List.map_nil]
     exact ⟨by omega, by omega, hlt, i_oneV k (by omega)⟩
    ·have hkl : k = n.l.length := by omega
     subst hkl
     rw [List.take_length] at hlk hdk hwk ⊢
     generalize layCs false n.l (left, ws) = Pk at *
     obtain ⟨Lk, lf, wk⟩ := Pk
     simp only at hlk hdk hwk hq1 hq2
     have hlfl : lf.length = left.length - rfS false n.l := by rw [hdk, List.length_drop]
     cases lf with
     | nil => simp only [List.length_nil] at hlfl; omega
     | cons p lr =>
      simp only [List.headD_cons, List.tail_cons] at hq2
      subst hq2
      have e1 : lk (up S.box bs [.acc lw wk.length, .sl 1 false ((p :: lr).map dI)]) bs = some [.acc lw wk.length, .sl 1 false ((p :: lr).map dI)] := by rw [lk_up_same, hb]; rfl
      have e2 : lk (up S.acc lw (.arr 2 (wk.map dWr))) lw = some (.arr 2 (wk.map dWr)) := by rw [lk_up_same, ha]; rfl
      refine useK (someR w0 bs lw (p :: lr) wk 1 _ ⟨by (refine @goW _ ?_; exact goT2 @hb @e1), by (refine @goW _ ?_; exact goT2 @ha @e2)⟩ (by simp) (by omega)) ?_
      rintro e S' ⟨rfl, rfl⟩
      simp (maxDischargeDepth := 12) (maxSteps := 1000000) -implicitDefEqProofs only [go_sem, Nat.reduceAdd, Nat.reduceSub, Nat.reduceMul, Nat.reduceLeDiff, Nat.reduceEqDiff, Nat.reduceGT, Nat.reduceBEq, reduceCtorEq, ↓reduceIte, Int.reduceToNat, Int.reduceLE, Int.reduceLT, Int.reduceNe, Int.reduceEq, layS, hb, ha, hlk, List.take_succ_cons, List.take_zero, List.drop_succ_cons, List.drop_zero, List.length_cons, List.length_nil, List.getElem?_cons_zero]
      have hput := fun S => put8R w0 false (Lk.map (entE false)) S (by rw [List.length_map]; omega) hq1.ok hq1.rise hq1.first hq1.fits hq1.many
      refine use1 (hput _) ?_
      (refine @goW _ ?_; refine goS2 @hb @ha ?_)
      have e3 : lk (up S.box bs [.acc lw wk.length, .sl 1 false (lr.map dI)]) bs = some [.acc lw wk.length, .sl 1 false (lr.map dI)] := by rw [lk_up_same, hb]; rfl
      refine useK (writeR w0 bs lw lr wk p _ _ ⟨by (refine @goW _ ?_; exact goT2 @hb @e3), by (refine @goW _ ?_; exact goT2 @ha @e2)⟩ (by omega)) ?_
      rintro e S' rfl
      simp (maxDischargeDepth := 12) (maxSteps := 1000000) -implicitDefEqProofs only [go_sem, Nat.reduceAdd, Nat.reduceSub, Nat.reduceMul, Nat.reduceLeDiff, Nat.reduceEqDiff, Nat.reduceGT, Nat.reduceBEq, reduceCtorEq, ↓reduceIte, Int.reduceToNat, Int.reduceLE, Int.reduceLT, Int.reduceNe, Int.reduceEq, layS, hb, ha]
      refine shrB b2.n 2 (l := lo.n) (s := 4) (xs := Lk.map dC) (ds := [dI p, dB false, .acc lo.n n.l.length]) (by (refine @goW _ ?_; exact goT)) (by simp [hlk]) (by (refine @goW _ ?_; exact goT)) ?_
      (refine @goW _ ?_; refine goS ?_)
      refine shrK [] [] mx (by kernel_rfl) ?_
      (refine @goW _ ?_; refine goS ?_)
      refine ⟨_, _, .refl _, ?_, rfl, rfl⟩
      have e5 : (wk ++ [(p, pageS false Lk)]).length = wk.length + 1 := List.length_append
      unfold layS
      rw [e5]
      exact ⟨((List.sublist_cons_self _ _).trans (List.sublist_cons_self _ _)).trans ((List.sublist_cons_self _ _).trans (List.sublist_cons_self _ _)), (List.sublist_cons_self _ _).trans (List.sublist_cons_self _ _)⟩
theorem entriesP (w0 : W0) (n : N) (S : St) (hn : n.leaf = false → ∀ c, c ∈ n.l → ∃ k, c.kid = [k]) (hl : n.l.length ≤ 1048576) :
  ACall Tryz.prog w0 49 [eT n] S (fun d S' => d = .sl 5 false ((n.l.map (entE n.leaf)).map dE8) ∧ S' = S) := by
 have hm8 : maxLen = 9223372036854775807 := rfl
 cases hlf : n.leaf with
 | true =>
  rw [eT_leaf hlf]
  refine fnS [2, 10] mx Tryz.func49 rfl rfl (by kernel_rfl) ?_; (refine @goW _ ?_; refine goS1 @Tryz.ntmps49 ?_)
  intro b1
  refine growK 3 5 rfl (by omega) fun lp => ?_
  refine shrK [10] [] mx (by kernel_rfl) ?_
  (refine @goW _ ?_; refine goS ?_)
  refine loopN [10] n.l.length [1, 3, 8, 9, 10] (fun k => [(3, .acc lp.n k), (10, dI k)]) (fun k => ⟨(b1.n, [dI n.page, dB true, .sl 1 false (n.l.map fun c => dS c.key), .sl 2 false (n.l.map dV2), .sl 5 false []]) :: S.box, (lp.n, .arr 5 (((n.l.take k).map (entE true)).map dE8)) :: S.acc⟩) (fun _ => True) mx (by kernel_rfl) ?_ ?_
  ·(refine @goW _ ?_; exact goT)
  ·intro k hk' _
   have hml : (n.l.take k).length = k := by rw [List.length_take]; omega
   have e1 : IntKind.i64.wrap ((k : Int) + 1) = ((k + 1 : Nat) : Int) := by rw [w64 (by omega) (by omega)]; omega
   (refine @goW _ ?_; refine goS2 @hml @e1 ?_)
   refine ⟨fun hlt => ⟨hlt, fun a ha b2 => ⟨hlt, fun a2 ha2 => ?_⟩⟩, fun hge => ?_⟩
   ·cases getE ha ha2
    have htk : ((n.l.take (k + 1)).map (entE true)).map dE8 = ((n.l.take k).map (entE true)).map dE8 ++ [dE8 (entE true a)] := by
     rw [List.take_add_one, ha, Option.toList_some, List.map_append, List.map_append]; rfl
    rw [htk]
    refine ⟨fun hp => ?_, fun hp => ⟨hlt, fun a3 ha3 => ?_⟩⟩
    ·obtain ⟨x, r, hx⟩ : ∃ x r, a.pages = x :: r := by
      cases q : a.pages with
      | nil => rw [q] at hp; simp at hp
      | cons x r => exact ⟨x, r, rfl⟩
     have he : entE true a = ⟨a.key, noS, true, a.data.size, x⟩ := by unfold entE; rw [if_pos rfl, if_neg (by rw [hx]; simp), hx]; rfl
     rw [he]
     refine Y.ordK [] [] [0, 2, 7, 9, 1, 3, 4, 5, 6, 8, 10, 11, 12, 13, 14, 15, 16, 17] mx (by kernel_rfl) ?_
     have em : min k n.l.length = k := by omega
     (refine @goW _ ?_; refine goS2 @hml @em ?_)
     refine ⟨hlt, fun c1 h1 => ⟨hlt, fun c2 h2 => ?_⟩⟩
     cases getE ha h1
     cases getE ha h2
     refine ⟨by omega, fun y hy => ?_⟩
     rw [hx] at hy
     cases hy
     exact ⟨by omega, by omega, hlt, e1, .consB (.refl _)⟩
    ·cases getE ha ha3
     have he : entE true a = ⟨a.key, a.data, false, 0, 0⟩ := by unfold entE; rw [if_pos rfl, if_pos (List.eq_nil_of_length_eq_zero (by omega))]
     rw [he]
     exact ⟨by omega, by omega, hlt, .consB (.refl _)⟩
   ·rw [List.take_of_length_le (by omega)]
    exact .refl _
 | false =>
  rw [eT_br hlf (hn hlf)]
  unfold brT
  refine fnS [2] mx Tryz.func49 rfl rfl (by kernel_rfl) ?_; (refine @goW _ ?_; refine goS1 @Tryz.ntmps49 ?_)
  intro b1
  refine growK 3 5 rfl (by omega) fun lp => ?_
  refine shrK [] [] mx (by kernel_rfl) ?_
  (refine @goW _ ?_; refine goS ?_)
  refine loopN [] n.l.length [1, 3, 8, 9, 10] (fun k => [(3, .acc lp.n k), (10, dI k)]) (fun k => ⟨(b1.n, [dI n.page, dB false, .sl 1 false (n.l.map fun c => dS c.key), .sl 2 false [], .sl 5 false (dK n.l)]) :: S.box, (lp.n, .arr 5 (((n.l.take k).map (entE false)).map dE8)) :: S.acc⟩) (fun _ => True) mx (by kernel_rfl) ?_ ?_
  ·(refine @goW _ ?_; exact goT)
  ·intro k hk' _
   have hml : (n.l.take k).length = k := by rw [List.length_take]; omega
   have e1 : IntKind.i64.wrap ((k : Int) + 1) = ((k + 1 : Nat) : Int) := by rw [w64 (by omega) (by omega)]; omega
   (refine @goW _ ?_; refine goS2 @hml @e1 ?_)
   refine ⟨fun hlt => ⟨hlt, fun a ha b2 => ⟨hlt, fun a2 ha2 => ?_⟩⟩, fun hge => ?_⟩
   ·cases getE ha ha2
    have htk : ((n.l.take (k + 1)).map (entE false)).map dE8 = ((n.l.take k).map (entE false)).map dE8 ++ [dE8 (entE false a)] := by
     rw [List.take_add_one, ha, Option.toList_some, List.map_append, List.map_append]; rfl
    rw [htk]
    have he : entE false a = ⟨a.key, noS, false, 0, (kid0 a).page⟩ := by unfold entE; rfl
    rw [he]
    exact ⟨by omega, by omega, hlt, .consB (.refl _)⟩
   ·rw [List.take_of_length_le (by omega)]
    exact .refl _
theorem acall_frzX {P : Program} {w0 : W0} {f : FuncId} {args : List DV} {S X : St} {r : DV} (h1 : ACall P w0 f args S (fun d S' => shrT S' d fun d S'' => Wk d r ∧ Aml.Sub X S'')) : ACall P w0 f args S (fun d S' => d = r ∧ S' = X) := by
 intro g vs w k1 k2
 refine (h1 g vs w k1 k2).mono ?_
 rintro e w' ⟨v, g', d, S', q1, q2, q3, q4, q5⟩
 obtain ⟨g2, d', S2, p1, p2, p3, p4, p5⟩ := shrT_ok q3 q4 q5
 exact ⟨v, g2, r, X, q1, q2.trans p1, p2.forget p5.box p5.acc, p4 _ _ p3, rfl, rfl⟩
def mixC (b : Bool) (l : List C) (q : LS) (k : Nat) : List C := (layCs b (l.take k) q).1 ++ l.drop k
theorem mixC_len (b : Bool) (l : List C) (q : LS) {k : Nat} (h : k ≤ l.length) : (mixC b l q k).length = l.length := by
 unfold mixC
 rw [List.length_append, layCs_len, List.length_take, List.length_drop]
 omega
theorem mixC_zero (b : Bool) (l : List C) (q : LS) : mixC b l q 0 = l := by unfold mixC; simp [layCs]
theorem mixC_all (b : Bool) (l : List C) (q : LS) : mixC b l q l.length = (layCs b l q).1 := by unfold mixC; simp
theorem mixC_get {b : Bool} {l : List C} {q : LS} {k : Nat} {c : C} (h : l[k]? = some c) : (mixC b l q k)[k]? = some c := by
 have hk := (List.getElem?_eq_some_iff.1 h).1
 unfold mixC
 rw [List.getElem?_append_right (by rw [layCs_len, List.length_take]; omega), layCs_len, List.length_take, Nat.min_eq_left (by omega), Nat.sub_self, List.getElem?_drop]
 exact h
theorem mixC_set {b : Bool} {l : List C} {q : LS} {k : Nat} {c : C} (h : l[k]? = some c) : (mixC b l q k).set k (layC b c (layCs b (l.take k) q).2).1 = mixC b l q (k + 1) := by
 have hk := (List.getElem?_eq_some_iff.1 h).1
 unfold mixC
 rw [List.set_append_right _ _ (by rw [layCs_len, List.length_take]; omega), layCs_len, List.length_take, Nat.min_eq_left (by omega), Nat.sub_self, layCs_take h]
 rw [List.drop_eq_getElem_cons hk, show l[k] = c from Option.some.inj ((List.getElem?_eq_getElem hk).symm.trans h)]
 simp
theorem eachVX (w0 : W0) (hg : GlobC w0) (bs lw : Nat) (l : List C) (q : LS) (S : St) (h : LayP S bs lw q.1 q.2) (hl : l.length ≤ 1048576)
  (hv : ∀ k c, l[k]? = some c → ∀ S, LayP S bs lw (layCs true (l.take k) q).2.1 (layCs true (l.take k) q).2.2 → ACall Tryz.prog w0 46 [.v (.pointer (some ⟨bs, 0, none⟩)), .agg [dS c.data, dL c.pages]] S (fun e S' => e = .agg [dS c.data, dL (layV c.data c.pages (layCs true (l.take k) q).2).1] ∧ S' = layB S bs lw (layCs true (l.take (k + 1)) q).2.1 (layCs true (l.take (k + 1)) q).2.2)) :
  ACall Tryz.prog w0 45 [dR 2 (l.map dV2), .v (.func (.func 46) #[.pointer (some ⟨bs, 0, none⟩)] #[])] S (fun d S' => ∃ b : FN S.acc, d = .acc b.n l.length ∧ S' = ⟨(layB S bs lw (layCs true l q).2.1 (layCs true l q).2.2).box, (b.n, .arr 2 ((layCs true l q).1.map dV2)) :: (layB S bs lw (layCs true l q).2.1 (layCs true l q).2.2).acc⟩) := by
 refine fnP [] mx Tryz.func45 rfl rfl (by kernel_rfl) ?_; (refine @goW _ ?_; refine goS1 @Tryz.ntmps45 ?_)
 refine useK (cloneV w0 (l.map dV2) _ (by rw [List.length_map]; exact hl)) ?_
 rintro _ _ ⟨lc, rfl, rfl⟩
 (refine @goW _ ?_; refine goS ?_)
 refine loopN [] l.length [1, 5, 10, 11, 12] (fun k => [(12, dI k)]) (fun k => ⟨up S.box bs [.acc lw (layCs true (l.take k) q).2.2.length, .sl 1 false ((layCs true (l.take k) q).2.1.map dI)], (lc.n, .arr 2 ((mixC true l q k).map dV2)) :: up S.acc lw (.arr 2 ((layCs true (l.take k) q).2.2.map dWb))⟩) (fun _ => True) mx (by kernel_rfl) ?_ ?_
 ·have h1 := lay_self h.box
  have h2 := lay_self h.acc
  have h3 : (layCs true (l.take 0) q) = ([], q) := by simp [layCs]
  rw [h3]
  (refine @goW _ ?_; exact goT3 @h1 @h2 @mixC_zero)
 ·intro k hk _
  have hml := mixC_len true l q hk
  have hb := h.box
  have ha := h.acc
  (refine @goW _ ?_; refine goS1 @hml ?_)
  refine ⟨fun hlt => ⟨hlt, hlt, fun c hc b2 => ?_⟩, fun hge => ?_⟩
  ·have hk1 : ∃ c0, l[k]? = some c0 := ⟨_, List.getElem?_eq_getElem hlt⟩
   obtain ⟨c0, hc0⟩ := hk1
   cases getE (mixC_get (b := true) (q := q) hc0) hc
   have hs := mixC_set (b := true) (q := q) hc0
   rw [layC_leaf] at hs
   have e1 : lk (up S.box bs [.acc lw (layCs true (l.take k) q).2.2.length, .sl 1 false ((layCs true (l.take k) q).2.1.map dI)]) bs = some [.acc lw (layCs true (l.take k) q).2.2.length, .sl 1 false ((layCs true (l.take k) q).2.1.map dI)] := by rw [lk_up_same, hb]; rfl
   have e2 : lk (up S.acc lw (.arr 2 ((layCs true (l.take k) q).2.2.map dWb))) lw = some (.arr 2 ((layCs true (l.take k) q).2.2.map dWb)) := by rw [lk_up_same, ha]; rfl
   refine useK (hv k c hc0 _ ⟨by (refine @goW _ ?_; exact goT2 @hb @e1), by (refine @goW _ ?_; exact goT2 @ha @e2)⟩) ?_
   rintro _ _ ⟨rfl, rfl⟩
   simp (maxDischargeDepth := 12) (maxSteps := 1000000) -implicitDefEqProofs only [go_sem, Nat.reduceAdd, Nat.reduceSub, Nat.reduceMul, Nat.reduceLeDiff, Nat.reduceEqDiff, Nat.reduceGT, Nat.reduceBEq, reduceCtorEq, ↓reduceIte, Int.reduceToNat, Int.reduceLE, Int.reduceLT, Int.reduceNe, Int.reduceEq, layB, hb, ha, up_up, hml]
   have hset : ((mixC true l q k).map dV2).set k (.agg [dS c.data, dL (layV c.data c.pages (layCs true (l.take k) q).2).1]) = (mixC true l q (k + 1)).map dV2 := by
    rw [← hs, List.map_set]; rfl
   rw [← hset]
   exact ⟨hlt, hlt, fun _ _ => ⟨hlt, i_oneV k (by omega), .consB (.refl _)⟩⟩
  ·have : k = l.length := by omega
   subst this
   rw [mixC_all, List.take_length]
   exact ⟨_, _, .refl _, .refl _, lc, rfl, rfl⟩
theorem eachV (w0 : W0) (hg : GlobC w0) (bs lw : Nat) (l : List C) (q : LS) (S : St) (h : LayP S bs lw q.1 q.2) (hl : l.length ≤ 1048576)
  (hv : ∀ k c, l[k]? = some c → ∀ S, LayP S bs lw (layCs true (l.take k) q).2.1 (layCs true (l.take k) q).2.2 → ACall Tryz.prog w0 46 [.v (.pointer (some ⟨bs, 0, none⟩)), .agg [dS c.data, dL c.pages]] S (fun e S' => e = .agg [dS c.data, dL (layV c.data c.pages (layCs true (l.take k) q).2).1] ∧ S' = layB S bs lw (layCs true (l.take (k + 1)) q).2.1 (layCs true (l.take (k + 1)) q).2.2)) :
  ACall Tryz.prog w0 45 [dR 2 (l.map dV2), .v (.func (.func 46) #[.pointer (some ⟨bs, 0, none⟩)] #[])] S (fun d S' => d = dR 2 ((layCs true l q).1.map dV2) ∧ S' = layB S bs lw (layCs true l q).2.1 (layCs true l q).2.2) := by
 refine acall_frzX (ACall.mono (eachVX w0 hg bs lw l q S h hl hv) ?_)
 rintro d S' ⟨b, rfl, rfl⟩
 have := layCs_len true l q
 (refine @goW _ ?_; exact goT1 @this)
theorem eachKX (w0 : W0) (hg : GlobC w0) (bs lw : Nat) (l : List C) (q : LS) (S : St) (h : LayP S bs lw q.1 q.2) (hl : l.length ≤ 1048576) (hk1 : ∀ c, c ∈ l → ∃ k, c.kid = [k])
  (hv : ∀ k c, l[k]? = some c → ∀ S, LayP S bs lw (layCs false (l.take k) q).2.1 (layCs false (l.take k) q).2.2 → ACall Tryz.prog w0 27 [.v (.pointer (some ⟨bs, 0, none⟩)), eT (kid0 c)] S (fun e S' => e = eT (layN (kid0 c) (layCs false (l.take k) q).2).1 ∧ S' = layB S bs lw (layCs false (l.take (k + 1)) q).2.1 (layCs false (l.take (k + 1)) q).2.2)) :
  ACall Tryz.prog w0 44 [dR 5 (dK l), .v (.func (.func 27) #[.pointer (some ⟨bs, 0, none⟩)] #[])] S (fun d S' => ∃ b : FN S.acc, d = .acc b.n l.length ∧ S' = ⟨(layB S bs lw (layCs false l q).2.1 (layCs false l q).2.2).box, (b.n, .arr 5 (dK (layCs false l q).1)) :: (layB S bs lw (layCs false l q).2.1 (layCs false l q).2.2).acc⟩) := by
 refine fnP [] mx Tryz.func44 rfl rfl (by kernel_rfl) ?_; (refine @goW _ ?_; refine goS1 @Tryz.ntmps44 ?_)
 refine useK (cloneT w0 (dK l) _ (by rw [dK_len]; exact hl)) ?_
 rintro _ _ ⟨lc, rfl, rfl⟩
 (refine @goW _ ?_; refine goS ?_)
 refine loopN [] l.length [1, 5, 10, 11, 12] (fun k => [(12, dI k)]) (fun k => ⟨up S.box bs [.acc lw (layCs false (l.take k) q).2.2.length, .sl 1 false ((layCs false (l.take k) q).2.1.map dI)], (lc.n, .arr 5 (dK (mixC false l q k))) :: up S.acc lw (.arr 2 ((layCs false (l.take k) q).2.2.map dWb))⟩) (fun _ => True) mx (by kernel_rfl) ?_ ?_
 ·have h1 := lay_self h.box
  have h2 := lay_self h.acc
  have h3 : (layCs false (l.take 0) q) = ([], q) := by simp [layCs]
  rw [h3]
  (refine @goW _ ?_; exact goT3 @h1 @h2 @mixC_zero)
 ·intro k hk _
  have hml := mixC_len false l q hk
  have hb := h.box
  have ha := h.acc
  (refine @goW _ ?_; refine goS1 @hml ?_)
  refine ⟨fun hlt => ⟨hlt, hlt, fun c hc b2 => ?_⟩, fun hge => ?_⟩
  ·obtain ⟨c0, hc0⟩ : ∃ c0, l[k]? = some c0 := ⟨_, List.getElem?_eq_getElem hlt⟩
   cases getE (mixC_get (b := false) (q := q) hc0) hc
   have hs := mixC_set (b := false) (q := q) hc0
   have e1 : lk (up S.box bs [.acc lw (layCs false (l.take k) q).2.2.length, .sl 1 false ((layCs false (l.take k) q).2.1.map dI)]) bs = some [.acc lw (layCs false (l.take k) q).2.2.length, .sl 1 false ((layCs false (l.take k) q).2.1.map dI)] := by rw [lk_up_same, hb]; rfl
   have e2 : lk (up S.acc lw (.arr 2 ((layCs false (l.take k) q).2.2.map dWb))) lw = some (.arr 2 ((layCs false (l.take k) q).2.2.map dWb)) := by rw [lk_up_same, ha]; rfl
   refine useK (hv k c hc0 _ ⟨by (refine @goW _ ?_; exact goT2 @hb @e1), by (refine @goW _ ?_; exact goT2 @ha @e2)⟩) ?_
   rintro _ _ ⟨rfl, rfl⟩
   have hset : (dK (mixC false l q k)).set k (eT (layN (kid0 c) (layCs false (l.take k) q).2).1) = dK (mixC false l q (k + 1)) := by
    obtain ⟨kid, hkid⟩ := hk1 c (List.mem_of_getElem? hc0)
    rw [← hs, layC_br hkid, kid0_eq hkid]
    unfold dK
    rw [List.map_set]
    congr 1
    rw [kid0_eq rfl, dT_eq]
   rw [← hset]
   simp (maxDischargeDepth := 12) (maxSteps := 1000000) -implicitDefEqProofs only [go_sem, Nat.reduceAdd, Nat.reduceSub, Nat.reduceMul, Nat.reduceLeDiff, Nat.reduceEqDiff, Nat.reduceGT, Nat.reduceBEq, reduceCtorEq, ↓reduceIte, Int.reduceToNat, Int.reduceLE, Int.reduceLT, Int.reduceNe, Int.reduceEq, layB, hb, ha, up_up, hml]
   exact ⟨hlt, hlt, fun _ _ => ⟨hlt, i_oneV k (by omega)⟩⟩
  ·have : k = l.length := by omega
   subst this
   rw [mixC_all, List.take_length]
   exact ⟨_, _, .refl _, .refl _, lc, rfl, rfl⟩
theorem eachK (w0 : W0) (hg : GlobC w0) (bs lw : Nat) (l : List C) (q : LS) (S : St) (h : LayP S bs lw q.1 q.2) (hl : l.length ≤ 1048576) (hk1 : ∀ c, c ∈ l → ∃ k, c.kid = [k])
  (hv : ∀ k c, l[k]? = some c → ∀ S, LayP S bs lw (layCs false (l.take k) q).2.1 (layCs false (l.take k) q).2.2 → ACall Tryz.prog w0 27 [.v (.pointer (some ⟨bs, 0, none⟩)), eT (kid0 c)] S (fun e S' => e = eT (layN (kid0 c) (layCs false (l.take k) q).2).1 ∧ S' = layB S bs lw (layCs false (l.take (k + 1)) q).2.1 (layCs false (l.take (k + 1)) q).2.2)) :
  ACall Tryz.prog w0 44 [dR 5 (dK l), .v (.func (.func 27) #[.pointer (some ⟨bs, 0, none⟩)] #[])] S (fun d S' => d = dR 5 (dK (layCs false l q).1) ∧ S' = layB S bs lw (layCs false l q).2.1 (layCs false l q).2.2) := by
 refine acall_frzX (ACall.mono (eachKX w0 hg bs lw l q S h hl hk1 hv) ?_)
 rintro d S' ⟨b, rfl, rfl⟩
 have := layCs_len false l q
 (refine @goW _ ?_; exact goT1 @this)
theorem eachV0 (w0 : W0) (bs lw : Nat) (left : List Int) (ws : List (Int × ByteArray)) (S : St) (h : LayP S bs lw left ws) : ACall Tryz.prog w0 45 [dR 2 [], .v (.func (.func 46) #[.pointer (some ⟨bs, 0, none⟩)] #[])] S (fun d S' => d = dR 2 [] ∧ S' = S) := by
 refine acall_frzX (ACall.mono (K := fun d S' => ∃ b : FN S.acc, d = .acc b.n 0 ∧ S' = ⟨S.box, (b.n, .arr 2 []) :: S.acc⟩) ?_ ?_)
 ·refine fnP [] mx Tryz.func45 rfl rfl (by kernel_rfl) ?_; (refine @goW _ ?_; refine goS1 @Tryz.ntmps45 ?_)
  refine useK (cloneV w0 [] _ (by decide)) ?_
  rintro _ _ ⟨lc, rfl, rfl⟩
  (refine @goW _ ?_; refine goS ?_)
  refine loopN [] 0 [1, 5, 10, 11, 12] (fun k => [(12, dI k)]) (fun k => ⟨S.box, (lc.n, .arr 2 []) :: S.acc⟩) (fun _ => True) mx (by kernel_rfl) ?_ ?_
  ·(refine @goW _ ?_; exact goT)
  ·intro k hk _
   (refine @goW _ ?_; refine goS ?_)
   exact ⟨fun h => by omega, fun _ => ⟨_, _, .refl _, .refl _, lc, rfl, rfl⟩⟩
 ·rintro d S' ⟨b, rfl, rfl⟩
  (refine @goW _ ?_; exact goT)
theorem eachK0 (w0 : W0) (bs lw : Nat) (left : List Int) (ws : List (Int × ByteArray)) (S : St) (h : LayP S bs lw left ws) : ACall Tryz.prog w0 44 [dR 5 [], .v (.func (.func 27) #[.pointer (some ⟨bs, 0, none⟩)] #[])] S (fun d S' => d = dR 5 [] ∧ S' = S) := by
 refine acall_frzX (ACall.mono (K := fun d S' => ∃ b : FN S.acc, d = .acc b.n 0 ∧ S' = ⟨S.box, (b.n, .arr 5 []) :: S.acc⟩) ?_ ?_)
 ·refine fnP [] mx Tryz.func44 rfl rfl (by kernel_rfl) ?_; (refine @goW _ ?_; refine goS1 @Tryz.ntmps44 ?_)
  refine useK (cloneT w0 [] _ (by decide)) ?_
  rintro _ _ ⟨lc, rfl, rfl⟩
  (refine @goW _ ?_; refine goS ?_)
  refine loopN [] 0 [1, 5, 10, 11, 12] (fun k => [(12, dI k)]) (fun k => ⟨S.box, (lc.n, .arr 5 []) :: S.acc⟩) (fun _ => True) mx (by kernel_rfl) ?_ ?_
  ·(refine @goW _ ?_; exact goT)
  ·intro k hk _
   (refine @goW _ ?_; refine goS ?_)
   exact ⟨fun h => by omega, fun _ => ⟨_, _, .refl _, .refl _, lc, rfl, rfl⟩⟩
 ·rintro d S' ⟨b, rfl, rfl⟩
  (refine @goW _ ?_; exact goT)
theorem lay_keysD (b : Bool) : ∀ (l : List C) (q : LS), ((layCs b l q).1.map fun c => dS c.key) = l.map fun c => dS c.key
 | [], _ => rfl
 | c :: l, q => by
  simp only [layCs, List.map_cons, lay_keysD b l, (lay_keyC b c q).1]
theorem layP (w0 : W0) (hgl : GlobC w0) (bs lw : Nat) : ∀ (d : Nat) (n : N) (q : LS) (S : St), Good d n → LaidP n → LayP S bs lw q.1 q.2 → totN n ≤ 131072 → (sizesN n).sum ≤ 122 → (n.leaf = true ∨ 2 ≤ n.l.length) → frT n ≤ q.1.length → q.1.length ≤ 1024 → q.1.Nodup → (∀ x, x ∈ q.1 → 2 ≤ x ∧ x ≤ 999) → (∀ p, p ∈ alN n → 2 ≤ p ∧ p ≤ 999) → q.2.length + frT n ≤ 65536 →
  ACall Tryz.prog w0 27 [.v (.pointer (some ⟨bs, 0, none⟩)), eT n] S (fun e S' => e = eT (layN n q).1 ∧ S' = layB S bs lw (layN n q).2.1 (layN n q).2.2) := by
 intro d
 induction d with
 | zero =>
  intro n q S hg hla hI ht hs h2 hf hq hu hr hp hw
  have hn := good_nd hg
  have hlf := hg.1
  have hlen := tot_len n
  have hq1 := lay_put8 (q := q) hg hla hs h2 hf hr hp
  have hq2 := layN_eq n q
  have hq3 := frT_eq hn
  have hlC := layC_left hn
  have hwC := layC_wr hn
  obtain ⟨left, ws⟩ := q
  simp only at hI hf hu hr hw hq
  have hb := hI.box
  have ha := hI.acc
  rw [hlf] at hq1 hq2 hq3 hlC hwC
  generalize layN n (left, ws) = R at *
  rw [eT_leaf hlf]
  refine fnP [3, 6] mx Tryz.func27 rfl rfl (by kernel_rfl) ?_; (refine @goW _ ?_; refine goS1 @Tryz.ntmps27 ?_)
  intro b b1
  have fin1 : n.page ≠ 0 ∨ (true = true ∧ n.l = []) → R = (n, (left, ws)) := fun e => by rw [hq2, if_pos e]
  refine ⟨fun h0 => ?_, fun h0 => ⟨fun h1 => ?_, fun h1 => ?_⟩⟩
  ·rw [fin1 (.inl h0)]
   refine ⟨_, _, .refl _, ?_, (eT_leaf hlf).symm, rfl⟩
   rw [layB_id hI]
   exact ⟨(List.sublist_cons_self _ _).trans (List.sublist_cons_self _ _), List.Sublist.refl _⟩
  ·rw [fin1 (.inr ⟨rfl, List.eq_nil_of_length_eq_zero (by omega)⟩)]
   refine ⟨_, _, .refl _, ?_, (eT_leaf hlf).symm, rfl⟩
   rw [layB_id hI]
   exact ⟨(List.sublist_cons_self _ _).trans (List.sublist_cons_self _ _), List.Sublist.refl _⟩
  ·have h0 : n.page = 0 := Classical.not_not.1 h0
   have h00 : ¬ (n.page ≠ 0 ∨ true = true ∧ n.l = []) := fun e => e.elim (fun e => e h0) fun e => h1 (by rw [e.2]; rfl)
   rw [if_neg h00] at hq2
   rw [if_neg (fun e => h00 (.inl e)), if_neg (fun e => h00 (.inr e))] at hq3
   replace hq1 := hq1 h00
   refine ordS ⟨[(b.n, [dI n.page, dB true, .sl 1 false (n.l.map fun c => dS c.key), .sl 2 false (n.l.map dV2), .sl 5 false []])], []⟩ [4, 9] [11, 13] [0, 2, 3, 5, 7, 8, 1, 6, 4, 10, 9, 11, 12, 13] mx (by kernel_rfl) ?_
   (refine @goW _ ?_; refine goS ?_)
   have hone : ∀ k c, n.l[k]? = some c → ∀ S, LayP S bs lw (layCs true (n.l.take k) (left, ws)).2.1 (layCs true (n.l.take k) (left, ws)).2.2 → ACall Tryz.prog w0 46 [.v (.pointer (some ⟨bs, 0, none⟩)), .agg [dS c.data, dL c.pages]] S (fun e S' => e = .agg [dS c.data, dL (layV c.data c.pages (layCs true (n.l.take k) (left, ws)).2).1] ∧ S' = layB S bs lw (layCs true (n.l.take (k + 1)) (left, ws)).2.1 (layCs true (n.l.take (k + 1)) (left, ws)).2.2) := fun k c hc T hT => by
    have hdk := layCs_left (q := (left, ws)) fun c hc => hlC c (List.mem_of_mem_take (i := k) hc)
    have hwk := layCs_wr (q := (left, ws)) fun c hc => hwC c (List.mem_of_mem_take (i := k) hc)
    have htk := rfS_take true n.l k
    have hcm := List.mem_of_getElem? hc
    have htk1 := rfS_take true n.l (k + 1)
    have hsu := rfS_succ (b := true) hc
    have hcn := hn.2 c hcm
    have hrc : rfC true c = if c.pages = [] then need (c.data.size : Int) else 0 := rfl
    rw [layCs_take hc, layC_leaf]
    generalize layCs true (n.l.take k) (left, ws) = Pk at *
    obtain ⟨Lk, lf, wk⟩ := Pk
    simp only at hdk hwk hT
    have hlfl : lf.length = left.length - rfS true (n.l.take k) := by rw [hdk, List.length_drop]
    exact valueP w0 hgl bs lw c.data c.pages (lf, wk) _ hT hcn.1.2.1 (by have := hcn.1.2.2; omega) (by show lf.length ≤ _; omega) (by show wk.length ≤ _; omega) (by
      by_cases e : c.pages = []
      ·rw [if_pos e] at hrc
       exact .inl (by show _ ≤ lf.length; omega)
      ·exact .inr e) (fun x hx => hr x (by rw [hdk] at hx; exact List.mem_of_mem_drop hx)) (by show lf.Nodup; rw [hdk]; exact hu.sublist (List.drop_sublist _ _))
   refine ⟨has1 (by (refine @goW _ ?_; exact goT)), has1 (by (refine @goW _ ?_; exact goT)), useK (eachK0 w0 bs lw left ws _ ⟨by (refine @goW _ ?_; exact goT1 @hb), ha⟩) ?_⟩
   rintro _ _ ⟨rfl, rfl⟩
   (refine @goW _ ?_; refine goS ?_)
   have heach := fun S h => eachV w0 hgl bs lw n.l (left, ws) S h (by omega) hone
   have hlk : (layCs true n.l (left, ws)).1.length = n.l.length := layCs_len _ _ _
   have hdk := layCs_left (q := (left, ws)) hlC
   have hwk := layCs_wr (q := (left, ws)) hwC
   have hkeys : (n.l.map fun c => dS c.key) = (layCs true n.l (left, ws)).1.map fun c => dS c.key := (lay_keysD true n.l (left, ws)).symm
   generalize layCs true n.l (left, ws) = Pk at *
   obtain ⟨Lk, lf, wk⟩ := Pk
   simp only at hlk hdk hwk hq1 hq2 heach hkeys
   have hlfl : lf.length = left.length - rfS true n.l := by rw [hdk, List.length_drop]
   refine ⟨has1 (by (refine @goW _ ?_; exact goT)), useK (heach _ ⟨by (refine @goW _ ?_; exact goT1 @hb), ha⟩) ?_⟩
   rintro _ _ ⟨rfl, rfl⟩
   cases lf with
   | nil => simp only [List.length_nil] at hlfl; omega
   | cons p lr =>
    simp only [List.headD_cons, List.tail_cons] at hq2
    subst hq2
    have e1 : lk (up S.box bs [.acc lw wk.length, .sl 1 false ((p :: lr).map dI)]) bs = some [.acc lw wk.length, .sl 1 false ((p :: lr).map dI)] := by rw [lk_up_same, hb]; rfl
    have e2 : lk (up S.acc lw (.arr 2 (wk.map dWb))) lw = some (.arr 2 (wk.map dWb)) := by rw [lk_up_same, ha]; rfl
    have e3 : lk (up S.box bs [.acc lw wk.length, .sl 1 false (lr.map dI)]) bs = some [.acc lw wk.length, .sl 1 false (lr.map dI)] := by rw [lk_up_same, hb]; rfl
    simp (maxDischargeDepth := 12) (maxSteps := 1000000) -implicitDefEqProofs only [go_sem, Nat.reduceAdd, Nat.reduceSub, Nat.reduceMul, Nat.reduceLeDiff, Nat.reduceEqDiff, Nat.reduceGT, Nat.reduceBEq, reduceCtorEq, ↓reduceIte, Int.reduceToNat, Int.reduceLE, Int.reduceLT, Int.reduceNe, Int.reduceEq, layB, hb, ha]
    refine ⟨has1 (by (refine @goW _ ?_; exact goT)), useK (someP w0 bs lw (p :: lr) wk 1 _ ⟨by (refine @goW _ ?_; exact goT2 @hb @e1), by (refine @goW _ ?_; exact goT2 @ha @e2)⟩ (by simp) (by omega)) ?_⟩
    rintro _ _ ⟨rfl, rfl⟩
    simp (maxDischargeDepth := 12) (maxSteps := 1000000) -implicitDefEqProofs only [go_sem, Nat.reduceAdd, Nat.reduceSub, Nat.reduceMul, Nat.reduceLeDiff, Nat.reduceEqDiff, Nat.reduceGT, Nat.reduceBEq, reduceCtorEq, ↓reduceIte, Int.reduceToNat, Int.reduceLE, Int.reduceLT, Int.reduceNe, Int.reduceEq, layB, hb, ha, hlk, List.take_succ_cons, List.take_zero, List.drop_succ_cons, List.drop_zero, List.length_cons, List.length_nil, List.getElem?_cons_zero]
    have hent : ∀ S, ACall Tryz.prog w0 49 [.agg [dI p, dB true, .sl 1 false (n.l.map fun c => dS c.key), .sl 2 false (Lk.map dV2), .sl 5 false []]] S (fun d S' => d = .sl 5 false ((Lk.map (entE true)).map dE8) ∧ S' = S) := fun S => by
     rw [hkeys]
     have := entriesP w0 (.mk p true Lk) S (fun e => by cases e) (by show Lk.length ≤ _; omega)
     rw [eT_leaf rfl] at this
     exact this
    have hput := fun S => putP8 w0 hgl true (Lk.map (entE true)) S (by rw [List.length_map]; omega) hq1.ok hq1.rise hq1.first hq1.fits hq1.many
    refine useQ (hent _) ?_
    (refine @goW _ ?_; refine goS ?_)
    refine useQ (hput _) ?_
    (refine @goW _ ?_; refine goS ?_)
    refine Y.ordK [] [10, 13] [0, 1, 2, 3, 5, 7, 4, 6, 8, 9, 10, 11, 12, 13] mx (by kernel_rfl) ?_
    (refine @goW _ ?_; refine goS3 @e3 @hb @ha ?_)
    have hm8 : maxLen = 9223372036854775807 := rfl
    refine ⟨by omega, by omega, _, _, .refl _, ?_, ?_, rfl⟩
    ·have e5 : (wk ++ [(p, pageS true Lk)]).length = wk.length + 1 := List.length_append
     unfold layB
     rw [e5, List.map_append]
     exact ⟨(List.sublist_cons_self _ _).trans (List.sublist_cons_self _ _), List.Sublist.refl _⟩
    ·show DV.agg [dI p, dB true, .sl 1 false (n.l.map fun c => dS c.key), .sl 2 false (Lk.map dV2), .sl 5 false []] = _
     rw [hkeys]
     exact (eT_leaf (n := .mk p true Lk) rfl).symm
 | succ d ih =>
  intro n q S hg hla hI ht hs h2 hf hq hu hr hp hw
  have hn := good_nd hg
  have hlf := hg.1
  have hlen := tot_len n
  have hq1 := lay_put8 (q := q) hg hla hs h2 hf hr hp
  have hq2 := layN_eq n q
  have hq3 := frT_eq hn
  have hlC := layC_left hn
  have hwC := layC_wr hn
  obtain ⟨left, ws⟩ := q
  simp only at hI hf hu hr hw hq
  have hb := hI.box
  have ha := hI.acc
  rw [hlf] at hq1 hq2 hq3 hlC hwC
  generalize layN n (left, ws) = R at *
  have hkid := fun c hc => (hn.2.2 c hc).2.imp fun k h => h.1
  rw [eT_br hlf hkid]
  unfold brT
  refine fnP [3, 6] mx Tryz.func27 rfl rfl (by kernel_rfl) ?_; (refine @goW _ ?_; refine goS1 @Tryz.ntmps27 ?_)
  intro b b1
  have fin1 : n.page ≠ 0 ∨ (false = true ∧ n.l = []) → R = (n, (left, ws)) := fun e => by rw [hq2, if_pos e]
  refine ⟨fun h0 => ?_, fun h0 => ?_⟩
  ·rw [fin1 (.inl h0)]
   refine ⟨_, _, .refl _, ?_, (eT_br hlf hkid).symm, rfl⟩
   rw [layB_id hI]
   exact ⟨(List.sublist_cons_self _ _).trans (List.sublist_cons_self _ _), List.Sublist.refl _⟩
  ·have h0 : n.page = 0 := Classical.not_not.1 h0
   have h00 : ¬ (n.page ≠ 0 ∨ false = true ∧ n.l = []) := fun e => e.elim (fun e => e h0) fun e => by cases e.1
   rw [if_neg h00] at hq2
   rw [if_neg (fun e => h00 (.inl e)), if_neg (fun e => h00 (.inr e))] at hq3
   replace hq1 := hq1 h00
   refine ordS ⟨[(b.n, [dI n.page, dB false, .sl 1 false (n.l.map fun c => dS c.key), .sl 2 false [], .sl 5 false (dK n.l)])], []⟩ [4, 9] [11, 13] [0, 2, 3, 5, 7, 8, 1, 6, 4, 10, 9, 11, 12, 13] mx (by kernel_rfl) ?_
   (refine @goW _ ?_; refine goS ?_)
   have hone : ∀ k c, n.l[k]? = some c → ∀ S, LayP S bs lw (layCs false (n.l.take k) (left, ws)).2.1 (layCs false (n.l.take k) (left, ws)).2.2 → ACall Tryz.prog w0 27 [.v (.pointer (some ⟨bs, 0, none⟩)), eT (kid0 c)] S (fun e S' => e = eT (layN (kid0 c) (layCs false (n.l.take k) (left, ws)).2).1 ∧ S' = layB S bs lw (layCs false (n.l.take (k + 1)) (left, ws)).2.1 (layCs false (n.l.take (k + 1)) (left, ws)).2.2) := fun k c hc T hT => by
    have hdk := layCs_left (q := (left, ws)) fun c hc => hlC c (List.mem_of_mem_take (i := k) hc)
    have hwk := layCs_wr (q := (left, ws)) fun c hc => hwC c (List.mem_of_mem_take (i := k) hc)
    have htk := rfS_take false n.l k
    have hcm := List.mem_of_getElem? hc
    have htk1 := rfS_take false n.l (k + 1)
    have hsu := rfS_succ (b := false) hc
    obtain ⟨hsh, _, kid, hkid, hkg, hkf⟩ := hg.2.2.cell c hcm
    have hnd := good_nd hkg
    have htk2 := tot_kid hcm hkid
    have hrc : rfC false c = frT kid := by rw [← kid0_eq hkid]; rfl
    rw [layCs_take hc, layC_br hkid, kid0_eq hkid]
    generalize layCs false (n.l.take k) (left, ws) = Pk at *
    obtain ⟨Lk, lf, wk⟩ := Pk
    simp only at hdk hwk hT
    have hlfl : lf.length = left.length - rfS false (n.l.take k) := by rw [hdk, List.length_drop]
    have hal : ∀ p, p ∈ alN kid → p ∈ alN n := fun p hp => by
     rw [alN_eq n, hlf]
     exact List.mem_append_right _ (List.mem_flatMap.2 ⟨c, hcm, by rw [alC_br hkid]; exact List.mem_append_right _ hp⟩)
    have hkl2 : kid.leaf = true ∨ 2 ≤ kid.l.length := by
     cases d with
     | zero => exact .inl hkg.1
     | succ d =>
      refine .inr ?_
      have h30 := hkf.1
      have hsz := good_sizes hkg
      unfold sizesN at h30 hsz
      match hm : kid.l with
      | [] => rw [hm] at h30; simp at h30
      | [x] =>
       rw [hm] at h30 hsz
       have := hsz _ (List.mem_map_of_mem List.mem_cons_self)
       simp only [List.map_cons, List.map_nil, List.sum_cons, List.sum_nil] at h30 this
       rw [if_neg (by omega)] at this
       omega
      | x :: y :: r => simp
    exact ih kid (lf, wk) _ hkg (by
     cases hla with | mk _ _ _ h3 => exact h3 hlf c hcm kid hkid) hT (by omega) hkf.2 hkl2 (by show _ ≤ lf.length; omega) (by show lf.length ≤ _; omega) (by show lf.Nodup; rw [hdk]; exact hu.sublist (List.drop_sublist _ _)) (fun x hx => hr x (by rw [hdk] at hx; exact List.mem_of_mem_drop hx)) (fun p hp' => hp p (hal p hp')) (by show wk.length + _ ≤ _; omega)
   have heach := fun S h => eachK w0 hgl bs lw n.l (left, ws) S h (by omega) hkid hone
   have hlk : (layCs false n.l (left, ws)).1.length = n.l.length := layCs_len _ _ _
   have hdk := layCs_left (q := (left, ws)) hlC
   have hwk := layCs_wr (q := (left, ws)) hwC
   have hkeys : (n.l.map fun c => dS c.key) = (layCs false n.l (left, ws)).1.map fun c => dS c.key := (lay_keysD false n.l (left, ws)).symm
   have hkL : ∀ c, c ∈ (layCs false n.l (left, ws)).1 → ∃ k, c.kid = [k] := fun x hx => by
    obtain ⟨c, q', hc, rfl⟩ := layCs_mem hx
    obtain ⟨k, hk⟩ := hkid c hc
    rw [layC_br hk]
    exact ⟨_, rfl⟩
   generalize layCs false n.l (left, ws) = Pk at *
   obtain ⟨Lk, lf, wk⟩ := Pk
   simp only at hlk hdk hwk hq1 hq2 heach hkeys hkL
   have hlfl : lf.length = left.length - rfS false n.l := by rw [hdk, List.length_drop]
   refine ⟨has1 (by (refine @goW _ ?_; exact goT)), has1 (by (refine @goW _ ?_; exact goT)), useK (heach _ ⟨by (refine @goW _ ?_; exact goT1 @hb), ha⟩) ?_⟩
   rintro _ _ ⟨rfl, rfl⟩
   simp (maxDischargeDepth := 12) (maxSteps := 1000000) -implicitDefEqProofs only [go_sem, Nat.reduceAdd, Nat.reduceSub, Nat.reduceMul, Nat.reduceLeDiff, Nat.reduceEqDiff, Nat.reduceGT, Nat.reduceBEq, reduceCtorEq, ↓reduceIte, Int.reduceToNat, Int.reduceLE, Int.reduceLT, Int.reduceNe, Int.reduceEq, layB, hb, ha]
   have e0 : lk (up S.box bs [.acc lw wk.length, .sl 1 false (lf.map dI)]) bs = some [.acc lw wk.length, .sl 1 false (lf.map dI)] := by rw [lk_up_same, hb]; rfl
   have e00 : lk (up S.acc lw (.arr 2 (wk.map dWb))) lw = some (.arr 2 (wk.map dWb)) := by rw [lk_up_same, ha]; rfl
   refine ⟨has1 (by (refine @goW _ ?_; exact goT)), useK (eachV0 w0 bs lw lf wk _ ⟨by (refine @goW _ ?_; exact goT2 @hb @e0), by (refine @goW _ ?_; exact goT2 @ha @e00)⟩) ?_⟩
   rintro _ _ ⟨rfl, rfl⟩
   cases lf with
   | nil => simp only [List.length_nil] at hlfl; omega
   | cons p lr =>
    simp only [List.headD_cons, List.tail_cons] at hq2
    subst hq2
    have e1 : lk (up S.box bs [.acc lw wk.length, .sl 1 false ((p :: lr).map dI)]) bs = some [.acc lw wk.length, .sl 1 false ((p :: lr).map dI)] := by rw [lk_up_same, hb]; rfl
    have e2 : lk (up S.acc lw (.arr 2 (wk.map dWb))) lw = some (.arr 2 (wk.map dWb)) := by rw [lk_up_same, ha]; rfl
    have e3 : lk (up S.box bs [.acc lw wk.length, .sl 1 false (lr.map dI)]) bs = some [.acc lw wk.length, .sl 1 false (lr.map dI)] := by rw [lk_up_same, hb]; rfl
    simp (maxDischargeDepth := 12) (maxSteps := 1000000) -implicitDefEqProofs only [go_sem, Nat.reduceAdd, Nat.reduceSub, Nat.reduceMul, Nat.reduceLeDiff, Nat.reduceEqDiff, Nat.reduceGT, Nat.reduceBEq, reduceCtorEq, ↓reduceIte, Int.reduceToNat, Int.reduceLE, Int.reduceLT, Int.reduceNe, Int.reduceEq, layB, hb, ha]
    refine ⟨has1 (by (refine @goW _ ?_; exact goT)), useK (someP w0 bs lw (p :: lr) wk 1 _ ⟨by (refine @goW _ ?_; exact goT2 @hb @e1), by (refine @goW _ ?_; exact goT2 @ha @e2)⟩ (by simp) (by omega)) ?_⟩
    rintro _ _ ⟨rfl, rfl⟩
    simp (maxDischargeDepth := 12) (maxSteps := 1000000) -implicitDefEqProofs only [go_sem, Nat.reduceAdd, Nat.reduceSub, Nat.reduceMul, Nat.reduceLeDiff, Nat.reduceEqDiff, Nat.reduceGT, Nat.reduceBEq, reduceCtorEq, ↓reduceIte, Int.reduceToNat, Int.reduceLE, Int.reduceLT, Int.reduceNe, Int.reduceEq, layB, hb, ha, hlk, List.take_succ_cons, List.take_zero, List.drop_succ_cons, List.drop_zero, List.length_cons, List.length_nil, List.getElem?_cons_zero]
    have hent : ∀ S, ACall Tryz.prog w0 49 [.agg [dI p, dB false, .sl 1 false (n.l.map fun c => dS c.key), .sl 2 false [], .sl 5 false (dK Lk)]] S (fun d S' => d = .sl 5 false ((Lk.map (entE false)).map dE8) ∧ S' = S) := fun S => by
     rw [hkeys]
     have := entriesP w0 (.mk p false Lk) S (fun _ => hkL) (by show Lk.length ≤ _; omega)
     rw [eT_br (n := .mk p false Lk) rfl hkL] at this; unfold brT at this
     exact this
    have hput := fun S => putP8 w0 hgl false (Lk.map (entE false)) S (by rw [List.length_map]; omega) hq1.ok hq1.rise hq1.first hq1.fits hq1.many
    refine useQ (hent _) ?_
    (refine @goW _ ?_; refine goS ?_)
    refine useQ (hput _) ?_
    (refine @goW _ ?_; refine goS ?_)
    refine Y.ordK [] [10, 13] [0, 1, 2, 3, 5, 7, 4, 6, 8, 9, 10, 11, 12, 13] mx (by kernel_rfl) ?_
    (refine @goW _ ?_; refine goS3 @e3 @hb @ha ?_)
    have hm8 : maxLen = 9223372036854775807 := rfl
    refine ⟨by omega, by omega, _, _, .refl _, ?_, ?_, rfl⟩
    ·have e5 : (wk ++ [(p, pageS false Lk)]).length = wk.length + 1 := List.length_append
     unfold layB
     rw [e5, List.map_append]
     exact ⟨(List.sublist_cons_self _ _).trans (List.sublist_cons_self _ _), List.Sublist.refl _⟩
    ·show DV.agg [dI p, dB false, .sl 1 false (n.l.map fun c => dS c.key), .sl 2 false [], .sl 5 false (dK Lk)] = _
     rw [hkeys]
     exact (eT_br (n := .mk p false Lk) rfl hkL).symm
theorem rNode (w0 : W0) : ∀ (d : Nat) (n : N) (lo hi : ByteArray) (r : Bool) (S : St), Good d n → totN n ≤ 131072 → d ≤ 100000 → (sizesN n).sum ≤ 122 → (r = true ∨ 30 ≤ (sizesN n).sum) → n.l ≠ [] → (n.leaf = true ∨ 2 ≤ n.l.length) → (∀ x, x ∈ enN n → leS lo x.key = true) → (hi ≠ noS → ∀ x, x ∈ enN n → ltS x.key hi = true) →
  ACall Tryz.prog w0 84 [eN n, dS lo, dS hi, dB r] S (fun e S' => e = dI d ∧ S' = S) := by
 intro d
 induction d with
 | zero =>
  intro n lo hi r S hg ht hd hsum hr hne h2 hlo hhi
  have hn := good_nd hg
  have hlen := tot_len n
  have hlf := hg.1
  have hsm := nd_sm hn
  have hk := fitK_good hg hlo hhi
  rw [hlf] at hk
  have hv := okV_good hg
  have hsz := fun S => sizesW w0 n S hsm (by omega)
  have hbd := sizes_bd n hsm (by omega)
  have hpos := List.length_pos_iff.2 hne
  have hlow : r = false → lowR (sizesN n) = false := fun e => decide_eq_false (by rcases hr with h | h; · rw [e] at h; cases h
                                                                                  ·omega)
  have hen : eN n = .agg [dI n.page, dB true, .sl 4 false (n.l.map dC)] := by unfold eN; rw [hlf]
  rw [hen] at hsz ⊢
  refine fnS [2,9,10] mx Tryz.func84 rfl rfl (by kernel_rfl) ?_; (refine @goW _ ?_; refine goS1 @Tryz.ntmps84 ?_)
  intro b
  refine use1 (hsz _) ?_
  (refine @goW _ ?_; refine goS ?_)
  refine cutK (σ := Unit) [9, 10] [1, 2, 3, 4, 9, 46] (fun _ => [(46, dB false)]) (fun _ => ⟨(b.n, [dI n.page, dB true, .sl 4 false (n.l.map dC)]) :: S.box, S.acc⟩) (fun _ => True) mx (by kernel_rfl) ?_ ?_
  ·(refine @goW _ ?_; refine goS ?_)
   refine ⟨fun h => absurd h (by omega), fun _ => use1 (sumR w0 _ _ hbd) ?_⟩
   (refine @goW _ ?_; refine goS ?_)
   refine ⟨fun h => absurd h (by omega), fun _ => ⟨fun hrf => use1 (lowW w0 _ _ hbd) ?_, fun hrt => ?_⟩⟩
   ·rw [hlow hrf]
    (refine @goW _ ?_; refine goS ?_)
    exact ⟨(), trivial⟩
   ·exact ⟨(), trivial⟩
  ·intro _ _
   (refine @goW _ ?_; refine goS ?_)
   refine loopN [9, 10] n.l.length [1, 2, 4, 10, 11] (fun k => [(10, dI 0), (11, dI k)]) (fun k => ⟨(b.n, [dI n.page, dB true, .sl 4 false (n.l.map dC)]) :: S.box, S.acc⟩) (fun _ => True) mx (by kernel_rfl) ?_ ?_
   ·(refine @goW _ ?_; exact goT)
   ·intro k hk' _
    (refine @goW _ ?_; refine goS ?_)
    refine fun hlt => ⟨hlt, fun a ha b2 => ?_⟩
    have hm := List.mem_of_getElem? ha
    have f1 : eqS a.key { data := #[] } = false := eqS_no.2 fun e => (by have := ((hk.first k a ha).1 e).2; cases this)
    have f2 : ((a.key.size : Int) > 16) = False := eq_false (by have := hk.size a hm; omega)
    have f3 : ltS a.key lo = false := leS_iff.1 (hk.low k a ha fun e => by cases e.2)
    have f4 : eqS hi { data := #[] } = false → ltS a.key hi = false → False := fun e h => by rw [hk.high (eqS_no.1 e) a hm] at h; cases h
    have f5 := i_oneV k (by omega)
    have f6 : ((a.data.size : Int) > 400) = False := eq_false (by have h1 : a.data.size ≤ 400 := (hv a hm).1; omega)
    have f7 : a.kid = [] := (hn.2 a hm).2
    have f8 : ((a.pages.length : Int) > 0) → need (a.data.size : Int) ≠ 0 := fun h => by
     have h1 : a.pages ≠ [] := fun e => by rw [e] at h; simp at h
     have := (hv a hm).2 h1
     have h2 : a.data.size ≤ 400 := (hv a hm).1
     unfold need; rw [if_pos (by omega)]; omega
    refine cutK (σ := Unit) [10] [1, 2, 4, 10, 11, 12, 13] (fun _ => [(13, dB false)]) (fun _ => ⟨(b2.n, [dS a.key, dS a.data, .sl 1 false (a.pages.map dI), .sl 3 false []]) :: (b.n, [dI n.page, dB true, .sl 4 false (n.l.map dC)]) :: S.box, S.acc⟩) (fun _ => True) mx (by kernel_rfl) ?_ ?_
    ·(refine @goW _ ?_; refine goS1 @f7 ?_)
     exact ⟨fun _ => ⟨(), trivial⟩, fun _ => ⟨(), trivial⟩⟩
    ·intro _ _
     (refine @goW _ ?_; refine goS ?_)
     refine cutK (σ := Unit) [] [1, 2, 4, 10, 11, 12, 13, 143] (fun _ => [(143, dB false)]) (fun _ => ⟨(b2.n, [dS a.key, dS a.data, .sl 1 false (a.pages.map dI), .sl 3 false []]) :: (b.n, [dI n.page, dB true, .sl 4 false (n.l.map dC)]) :: S.box, S.acc⟩) (fun _ => True) mx (by kernel_rfl) ?_ ?_
     ·rcases Nat.eq_zero_or_pos k with h0 | h0 <;> cases he : eqS hi { data := #[] } <;> rcases Nat.eq_zero_or_pos a.pages.length with hp | hp
      ·have z2 : ((k : Int) > 0) = False := eq_false (by omega)
       have h9 : ltS a.key hi = true := hk.high (eqS_no.1 he) a hm
       have p1 : ((a.pages.length : Int) > 0) = False := eq_false (by omega)
       simp (maxDischargeDepth := 12) (maxSteps := 1000000) -implicitDefEqProofs only [go_sem, Nat.reduceAdd, Nat.reduceSub, Nat.reduceMul, Nat.reduceLeDiff, Nat.reduceEqDiff, Nat.reduceGT, Nat.reduceBEq, reduceCtorEq, ↓reduceIte, Int.reduceToNat, Int.reduceLE, Int.reduceLT, Int.reduceNe, Int.reduceEq, f1, f2, f3, f5, f6, p1, he, hlt, z2, h9]
       exact ⟨(), trivial⟩
      ·have z2 : ((k : Int) > 0) = False := eq_false (by omega)
       have h9 : ltS a.key hi = true := hk.high (eqS_no.1 he) a hm
       have p1 : ((a.pages.length : Int) > 0) = True := eq_true (by omega)
       simp (maxDischargeDepth := 12) (maxSteps := 1000000) -implicitDefEqProofs only [go_sem, Nat.reduceAdd, Nat.reduceSub, Nat.reduceMul, Nat.reduceLeDiff, Nat.reduceEqDiff, Nat.reduceGT, Nat.reduceBEq, reduceCtorEq, ↓reduceIte, Int.reduceToNat, Int.reduceLE, Int.reduceLT, Int.reduceNe, Int.reduceEq, f1, f2, f3, f5, f6, p1, he, hlt, z2, h9]
       refine useQ (needR w0 _ _) ?_
       (refine @goW _ ?_; refine goS ?_)
       exact ⟨fun h => absurd h (by have := f8 (by omega); omega), fun _ => ⟨(), trivial⟩⟩
      ·have z2 : ((k : Int) > 0) = False := eq_false (by omega)
       have p1 : ((a.pages.length : Int) > 0) = False := eq_false (by omega)
       simp (maxDischargeDepth := 12) (maxSteps := 1000000) -implicitDefEqProofs only [go_sem, Nat.reduceAdd, Nat.reduceSub, Nat.reduceMul, Nat.reduceLeDiff, Nat.reduceEqDiff, Nat.reduceGT, Nat.reduceBEq, reduceCtorEq, ↓reduceIte, Int.reduceToNat, Int.reduceLE, Int.reduceLT, Int.reduceNe, Int.reduceEq, f1, f2, f3, f5, f6, p1, he, hlt, z2]
       exact ⟨(), trivial⟩
      ·have z2 : ((k : Int) > 0) = False := eq_false (by omega)
       have p1 : ((a.pages.length : Int) > 0) = True := eq_true (by omega)
       simp (maxDischargeDepth := 12) (maxSteps := 1000000) -implicitDefEqProofs only [go_sem, Nat.reduceAdd, Nat.reduceSub, Nat.reduceMul, Nat.reduceLeDiff, Nat.reduceEqDiff, Nat.reduceGT, Nat.reduceBEq, reduceCtorEq, ↓reduceIte, Int.reduceToNat, Int.reduceLE, Int.reduceLT, Int.reduceNe, Int.reduceEq, f1, f2, f3, f5, f6, p1, he, hlt, z2]
       refine useQ (needR w0 _ _) ?_
       (refine @goW _ ?_; refine goS ?_)
       exact ⟨fun h => absurd h (by have := f8 (by omega); omega), fun _ => ⟨(), trivial⟩⟩
      ·have z2 : ((k : Int) > 0) = True := eq_true (by omega)
       have z3 : IntKind.i64.wrap ((k : Int) - 1) = ((k - 1 : Nat) : Int) := by rw [w64 (by omega) (by omega)]; omega
       obtain ⟨c0, hc0⟩ : ∃ c0, n.l[k - 1]? = some c0 := ⟨_, List.getElem?_eq_getElem (by omega)⟩
       have z4 : leS a.key c0.key = false := leS_no.2 (rise_at hk.rise (i := k - 1) (j := k) (by omega) hc0 ha)
       have h9 : ltS a.key hi = true := hk.high (eqS_no.1 he) a hm
       have p1 : ((a.pages.length : Int) > 0) = False := eq_false (by omega)
       simp (maxDischargeDepth := 12) (maxSteps := 1000000) -implicitDefEqProofs only [go_sem, Nat.reduceAdd, Nat.reduceSub, Nat.reduceMul, Nat.reduceLeDiff, Nat.reduceEqDiff, Nat.reduceGT, Nat.reduceBEq, reduceCtorEq, ↓reduceIte, Int.reduceToNat, Int.reduceLE, Int.reduceLT, Int.reduceNe, Int.reduceEq, f1, f2, f3, f5, f6, p1, he, hlt, z2, z3, h9]
       refine ⟨by omega, fun c1 hc1 => ?_⟩
       cases getE hc0 hc1
       exact ⟨fun h => (by rw [z4] at h; cases h), fun _ => ⟨(), trivial⟩⟩
      ·have z2 : ((k : Int) > 0) = True := eq_true (by omega)
       have z3 : IntKind.i64.wrap ((k : Int) - 1) = ((k - 1 : Nat) : Int) := by rw [w64 (by omega) (by omega)]; omega
       obtain ⟨c0, hc0⟩ : ∃ c0, n.l[k - 1]? = some c0 := ⟨_, List.getElem?_eq_getElem (by omega)⟩
       have z4 : leS a.key c0.key = false := leS_no.2 (rise_at hk.rise (i := k - 1) (j := k) (by omega) hc0 ha)
       have h9 : ltS a.key hi = true := hk.high (eqS_no.1 he) a hm
       have p1 : ((a.pages.length : Int) > 0) = True := eq_true (by omega)
       simp (maxDischargeDepth := 12) (maxSteps := 1000000) -implicitDefEqProofs only [go_sem, Nat.reduceAdd, Nat.reduceSub, Nat.reduceMul, Nat.reduceLeDiff, Nat.reduceEqDiff, Nat.reduceGT, Nat.reduceBEq, reduceCtorEq, ↓reduceIte, Int.reduceToNat, Int.reduceLE, Int.reduceLT, Int.reduceNe, Int.reduceEq, f1, f2, f3, f5, f6, p1, he, hlt, z2, z3, h9]
       refine ⟨by omega, fun c1 hc1 => ?_⟩
       cases getE hc0 hc1
       refine ⟨fun h => (by rw [z4] at h; cases h), fun _ => useQ (needR w0 _ _) ?_⟩
       (refine @goW _ ?_; refine goS ?_)
       exact ⟨fun h => absurd h (by have := f8 (by omega); omega), fun _ => ⟨(), trivial⟩⟩
      ·have z2 : ((k : Int) > 0) = True := eq_true (by omega)
       have z3 : IntKind.i64.wrap ((k : Int) - 1) = ((k - 1 : Nat) : Int) := by rw [w64 (by omega) (by omega)]; omega
       obtain ⟨c0, hc0⟩ : ∃ c0, n.l[k - 1]? = some c0 := ⟨_, List.getElem?_eq_getElem (by omega)⟩
       have z4 : leS a.key c0.key = false := leS_no.2 (rise_at hk.rise (i := k - 1) (j := k) (by omega) hc0 ha)
       have p1 : ((a.pages.length : Int) > 0) = False := eq_false (by omega)
       simp (maxDischargeDepth := 12) (maxSteps := 1000000) -implicitDefEqProofs only [go_sem, Nat.reduceAdd, Nat.reduceSub, Nat.reduceMul, Nat.reduceLeDiff, Nat.reduceEqDiff, Nat.reduceGT, Nat.reduceBEq, reduceCtorEq, ↓reduceIte, Int.reduceToNat, Int.reduceLE, Int.reduceLT, Int.reduceNe, Int.reduceEq, f1, f2, f3, f5, f6, p1, he, hlt, z2, z3]
       refine ⟨by omega, fun c1 hc1 => ?_⟩
       cases getE hc0 hc1
       exact ⟨fun h => (by rw [z4] at h; cases h), fun _ => ⟨(), trivial⟩⟩
      ·have z2 : ((k : Int) > 0) = True := eq_true (by omega)
       have z3 : IntKind.i64.wrap ((k : Int) - 1) = ((k - 1 : Nat) : Int) := by rw [w64 (by omega) (by omega)]; omega
       obtain ⟨c0, hc0⟩ : ∃ c0, n.l[k - 1]? = some c0 := ⟨_, List.getElem?_eq_getElem (by omega)⟩
       have z4 : leS a.key c0.key = false := leS_no.2 (rise_at hk.rise (i := k - 1) (j := k) (by omega) hc0 ha)
       have p1 : ((a.pages.length : Int) > 0) = True := eq_true (by omega)
       simp (maxDischargeDepth := 12) (maxSteps := 1000000) -implicitDefEqProofs only [go_sem, Nat.reduceAdd, Nat.reduceSub, Nat.reduceMul, Nat.reduceLeDiff, Nat.reduceEqDiff, Nat.reduceGT, Nat.reduceBEq, reduceCtorEq, ↓reduceIte, Int.reduceToNat, Int.reduceLE, Int.reduceLT, Int.reduceNe, Int.reduceEq, f1, f2, f3, f5, f6, p1, he, hlt, z2, z3]
       refine ⟨by omega, fun c1 hc1 => ?_⟩
       cases getE hc0 hc1
       refine ⟨fun h => (by rw [z4] at h; cases h), fun _ => useQ (needR w0 _ _) ?_⟩
       (refine @goW _ ?_; refine goS ?_)
       exact ⟨fun h => absurd h (by have := f8 (by omega); omega), fun _ => ⟨(), trivial⟩⟩
     ·intro _ _
      (refine @goW _ ?_; refine goS ?_)
      exact ⟨hlt, f5⟩
 | succ d ih =>
  intro n lo hi r S hg ht hd hsum hr hne h2 hlo hhi
  have hn := good_nd hg
  have hlen := tot_len n
  have hlf := hg.1
  have hsm := nd_sm hn
  have hk := fitK_good hg hlo hhi
  rw [hlf] at hk
  have hsz := fun S => sizesW w0 n S hsm (by omega)
  have hbd := sizes_bd n hsm (by omega)
  have hpos := h2.resolve_left (by rw [hlf]; simp)
  have hlow : r = false → lowR (sizesN n) = false := fun e => decide_eq_false (by rcases hr with h | h; · rw [e] at h; cases h
                                                                                  ·omega)
  have hen : eN n = .agg [dI n.page, dB false, .sl 4 false (n.l.map dC)] := by unfold eN; rw [hlf]
  rw [hen] at hsz ⊢
  have hB := hg.2.2
  have hkid : ∀ (k : Nat) c kd, n.l[k]? = some c → c.kid = [kd] → ∀ lo' hi', (if k = 0 then lo' = lo else lo' = c.key) → (match n.l[k + 1]? with
    | some c' => hi' = c'.key
    | none => hi' = hi) → ∀ T, ACall Tryz.prog w0 84 [eN kd, dS lo', dS hi', dB false] T (fun e S' => e = dI d ∧ S' = T) := by
   intro k c kd hc hkid lo' hi' hl' hh' T
   have hcm := List.mem_of_getElem? hc
   obtain ⟨s1, s2, kd2, hkid2, hkg, hkf⟩ := hB.cell c hcm
   rw [hkid] at hkid2; cases hkid2
   have htk := tot_kid hcm hkid
   have hin : ∀ x, x ∈ enN kd → x ∈ enN n := fun x hx => by rw [enN_eq, hlf]; exact List.mem_flatMap.2 ⟨c, hcm, by rw [enC_br hkid]; exact hx⟩
   refine ih kd lo' hi' false T hkg (by omega) (by omega) hkf.2 (.inr hkf.1) (fits_ne hkf) (fits_two hkg hkf) (fun x hx => ?_) fun hne' x hx => ?_
   ·split at hl'
    ·rw [hl']; exact hlo x (hin x hx)
    ·rw [hl']; exact s2 x (by rw [enC_br hkid]; exact hx)
   ·split at hh'
    ·rename_i c' hc'
     obtain ⟨q1, rfl⟩ := List.getElem?_eq_some_iff.1 hc
     obtain ⟨q2, rfl⟩ := List.getElem?_eq_some_iff.1 hc'
     rw [hh']
     exact (List.pairwise_iff_getElem.1 hB.pw k (k + 1) q1 q2 (by omega)).2 x (by rw [enC_br hkid]; exact hx)
    ·rw [hh'] at hne' ⊢; exact hhi hne' x (hin x hx)
  refine fnS [2,9,10] mx Tryz.func84 rfl rfl (by kernel_rfl) ?_; (refine @goW _ ?_; refine goS1 @Tryz.ntmps84 ?_)
  intro b
  refine use1 (hsz _) ?_
  (refine @goW _ ?_; refine goS ?_)
  refine cutK (σ := Unit) [9, 10] [1, 2, 3, 4, 9, 46] (fun _ => [(46, dB false)]) (fun _ => ⟨(b.n, [dI n.page, dB false, .sl 4 false (n.l.map dC)]) :: S.box, S.acc⟩) (fun _ => True) mx (by kernel_rfl) ?_ ?_
  ·(refine @goW _ ?_; refine goS ?_)
   refine ⟨fun h => absurd h (by omega), fun _ => ⟨fun h => absurd h (by omega), fun _ => use1 (sumR w0 _ _ hbd) ?_⟩⟩
   (refine @goW _ ?_; refine goS ?_)
   refine ⟨fun h => absurd h (by omega), fun _ => ⟨fun hrf => use1 (lowW w0 _ _ hbd) ?_, fun hrt => ?_⟩⟩
   ·rw [hlow hrf]
    (refine @goW _ ?_; refine goS ?_)
    exact ⟨(), trivial⟩
   ·exact ⟨(), trivial⟩
  ·intro _ _
   (refine @goW _ ?_; refine goS ?_)
   refine loopN [9, 10] n.l.length [1, 2, 4, 10, 11] (fun k => [(10, dI (if k = 0 then 0 else (d + 1 : Nat))), (11, dI k)]) (fun k => ⟨(b.n, [dI n.page, dB false, .sl 4 false (n.l.map dC)]) :: S.box, S.acc⟩) (fun _ => True) mx (by kernel_rfl) ?_ ?_
   ·(refine @goW _ ?_; exact goT)
   ·intro k hk' _
    (refine @goW _ ?_; refine goS ?_)
    refine ⟨fun hlt => ⟨hlt, fun a ha b2 => ?_⟩, fun hge => if_neg (by omega)⟩
    have hm := List.mem_of_getElem? ha
    obtain ⟨⟨s1, s2, s3⟩, -, kd, hkd, hkg, -⟩ := hB.cell a hm
    have hK := hkid k a kd ha hkd
    have f2 : ((a.key.size : Int) > 16) = False := eq_false (by have := hk.size a hm; omega)
    have f5 := i_oneV k (by omega)
    have f6 : (((noS.size : Nat) : Int) > 400) = False := eq_false (by rw [noS_size]; omega)
    rw [hkd, s2, s3]
    have p0 : ((0 : Int) > 0) = False := eq_false (by omega)
    refine cutK (σ := Unit) [10] [1, 2, 4, 10, 11, 12, 13] (fun _ => [(13, dB (decide (k = 0)))]) (fun _ => ⟨(b2.n, [dS a.key, dS noS, .sl 1 false [], .sl 3 false [eN kd]]) :: (b.n, [dI n.page, dB false, .sl 4 false (n.l.map dC)]) :: S.box, S.acc⟩) (fun _ => True) mx (by kernel_rfl) ?_ ?_
    ·(refine @goW _ ?_; refine goS ?_)
     exact ⟨fun h => ⟨(), by omega⟩, fun h => ⟨(), by omega⟩⟩
    ·intro _ _
     (refine @goW _ ?_; refine goS ?_)
     refine cutK (σ := Unit) [] [1, 2, 4, 10, 11, 12, 13, 143] (fun _ => [(143, dB false)]) (fun _ => ⟨(b2.n, [dS a.key, dS noS, .sl 1 false [], .sl 3 false [eN kd]]) :: (b.n, [dI n.page, dB false, .sl 4 false (n.l.map dC)]) :: S.box, S.acc⟩) (fun _ => True) mx (by kernel_rfl) ?_ ?_
     ·rcases Nat.eq_zero_or_pos k with h0 | h0 <;> cases he : eqS hi { data := #[] }
      ·have z2 : ((k : Int) > 0) = False := eq_false (by omega)
       have z5 : decide (k = 0) = true := decide_eq_true h0
       have f1 : eqS a.key { data := #[] } = true := eqS_iff.2 ((hk.first k a ha).2 ⟨h0, rfl⟩)
       have h9 : ltS a.key hi = true := hk.high (eqS_no.1 he) a hm
       simp (maxDischargeDepth := 12) (maxSteps := 1000000) -implicitDefEqProofs only [go_sem, Nat.reduceAdd, Nat.reduceSub, Nat.reduceMul, Nat.reduceLeDiff, Nat.reduceEqDiff, Nat.reduceGT, Nat.reduceBEq, reduceCtorEq, ↓reduceIte, Int.reduceToNat, Int.reduceLE, Int.reduceLT, Int.reduceNe, Int.reduceEq, f2, f5, f6, p0, he, hlt, z2, z5, f1, h9]
       exact ⟨(), trivial⟩
      ·have z2 : ((k : Int) > 0) = False := eq_false (by omega)
       have z5 : decide (k = 0) = true := decide_eq_true h0
       have f1 : eqS a.key { data := #[] } = true := eqS_iff.2 ((hk.first k a ha).2 ⟨h0, rfl⟩)
       simp (maxDischargeDepth := 12) (maxSteps := 1000000) -implicitDefEqProofs only [go_sem, Nat.reduceAdd, Nat.reduceSub, Nat.reduceMul, Nat.reduceLeDiff, Nat.reduceEqDiff, Nat.reduceGT, Nat.reduceBEq, reduceCtorEq, ↓reduceIte, Int.reduceToNat, Int.reduceLE, Int.reduceLT, Int.reduceNe, Int.reduceEq, f2, f5, f6, p0, he, hlt, z2, z5, f1]
       exact ⟨(), trivial⟩
      ·have z2 : ((k : Int) > 0) = True := eq_true (by omega)
       have z5 : decide (k = 0) = false := decide_eq_false (by omega)
       have f1 : eqS a.key { data := #[] } = false := eqS_no.2 fun e => absurd ((hk.first k a ha).1 e).1 (by omega)
       have f3 : ltS a.key lo = false := leS_iff.1 (hk.low k a ha fun e => absurd e.1 (by omega))
       have z3 : IntKind.i64.wrap ((k : Int) - 1) = ((k - 1 : Nat) : Int) := by rw [w64 (by omega) (by omega)]; omega
       obtain ⟨c0, hc0⟩ : ∃ c0, n.l[k - 1]? = some c0 := ⟨_, List.getElem?_eq_getElem (by omega)⟩
       have z4 : leS a.key c0.key = false := leS_no.2 (rise_at hk.rise (i := k - 1) (j := k) (by omega) hc0 ha)
       have h9 : ltS a.key hi = true := hk.high (eqS_no.1 he) a hm
       simp (maxDischargeDepth := 12) (maxSteps := 1000000) -implicitDefEqProofs only [go_sem, Nat.reduceAdd, Nat.reduceSub, Nat.reduceMul, Nat.reduceLeDiff, Nat.reduceEqDiff, Nat.reduceGT, Nat.reduceBEq, reduceCtorEq, ↓reduceIte, Int.reduceToNat, Int.reduceLE, Int.reduceLT, Int.reduceNe, Int.reduceEq, f2, f5, f6, p0, he, hlt, z2, z3, z5, f1, f3, h9]
       refine ⟨by omega, fun c1 hc1 => ?_⟩
       cases getE hc0 hc1
       exact ⟨fun h => (by rw [z4] at h; cases h), fun _ => ⟨(), trivial⟩⟩
      ·have z2 : ((k : Int) > 0) = True := eq_true (by omega)
       have z5 : decide (k = 0) = false := decide_eq_false (by omega)
       have f1 : eqS a.key { data := #[] } = false := eqS_no.2 fun e => absurd ((hk.first k a ha).1 e).1 (by omega)
       have f3 : ltS a.key lo = false := leS_iff.1 (hk.low k a ha fun e => absurd e.1 (by omega))
       have z3 : IntKind.i64.wrap ((k : Int) - 1) = ((k - 1 : Nat) : Int) := by rw [w64 (by omega) (by omega)]; omega
       obtain ⟨c0, hc0⟩ : ∃ c0, n.l[k - 1]? = some c0 := ⟨_, List.getElem?_eq_getElem (by omega)⟩
       have z4 : leS a.key c0.key = false := leS_no.2 (rise_at hk.rise (i := k - 1) (j := k) (by omega) hc0 ha)
       simp (maxDischargeDepth := 12) (maxSteps := 1000000) -implicitDefEqProofs only [go_sem, Nat.reduceAdd, Nat.reduceSub, Nat.reduceMul, Nat.reduceLeDiff, Nat.reduceEqDiff, Nat.reduceGT, Nat.reduceBEq, reduceCtorEq, ↓reduceIte, Int.reduceToNat, Int.reduceLE, Int.reduceLT, Int.reduceNe, Int.reduceEq, f2, f5, f6, p0, he, hlt, z2, z3, z5, f1, f3]
       refine ⟨by omega, fun c1 hc1 => ?_⟩
       cases getE hc0 hc1
       exact ⟨fun h => (by rw [z4] at h; cases h), fun _ => ⟨(), trivial⟩⟩
     ·intro _ _
      have e1 : IntKind.i64.wrap ((d : Int) + 1) = ((d + 1 : Nat) : Int) := by rw [w64 (by omega) (by omega)]; omega
      have hf2 : (if k + 1 = 0 then (0 : Int) else ((d + 1 : Nat) : Int)) = ((d + 1 : Nat) : Int) := if_neg (by omega)
      have hk2 : ∀ lo', (if k = 0 then lo' = lo else lo' = a.key) → ¬ k + 1 < n.l.length → ∀ T, ACall Tryz.prog w0 84 [eN kd, dS lo', dS hi, dB false] T (fun e S' => e = dI d ∧ S' = T) := fun lo' h1 h2 T => hK lo' hi h1 (by rw [List.getElem?_eq_none (by omega)]) T
      have hk1 : ∀ lo' c, (if k = 0 then lo' = lo else lo' = a.key) → n.l[k + 1]? = some c → ∀ T, ACall Tryz.prog w0 84 [eN kd, dS lo', dS c.key, dB false] T (fun e S' => e = dI d ∧ S' = T) := fun lo' c h1 h2 T => hK lo' c.key h1 (by rw [h2]) T
      clear hkid hK ih
      (refine @goW _ ?_; refine goS1 @f5 ?_)
      refine ⟨fun hz => ?_, fun hp => ?_⟩
      ·have hl0 : (if k = 0 then lo = lo else lo = a.key) := by rw [if_pos hz]
       have z2 : ((k : Int) > 0) = False := eq_false (by omega)
       refine ⟨fun h1 => ⟨h1, fun c hc => use1 (hk1 lo c hl0 hc _) ?_⟩, fun h1 => use1 (hk2 lo hl0 h1 _) ?_⟩
       ·(refine @goW _ ?_; refine goS5 @e1 @f5 @z2 @hf2 @hlt ?_)
        exact fun h => absurd h (by omega)
       ·(refine @goW _ ?_; refine goS5 @e1 @f5 @z2 @hf2 @hlt ?_)
        exact fun h => absurd h (by omega)
      ·have hl0 : (if k = 0 then a.key = lo else a.key = a.key) := by rw [if_neg hp]
       have z2 : ((k : Int) > 0) = True := eq_true (by omega)
       have hf : (if k = 0 then (0 : Int) else ((d + 1 : Nat) : Int)) = ((d + 1 : Nat) : Int) := if_neg hp
       refine ⟨fun h1 => ⟨h1, fun c hc => use1 (hk1 a.key c hl0 hc _) ?_⟩, fun h1 => use1 (hk2 a.key hl0 h1 _) ?_⟩
       ·(refine @goW _ ?_; refine goS6 @e1 @f5 @z2 @hf @hf2 @hlt ?_)
        exact fun h => absurd h (by omega)
       ·(refine @goW _ ?_; refine goS6 @e1 @f5 @z2 @hf @hf2 @hlt ?_)
        exact fun h => absurd h (by omega)
theorem rCheck (w0 : W0) (n : N) (S : St) (h : RootG n) (hz : PZ n) (ht : ∀ d, Nd d n → totN n ≤ 131072 ∧ d ≤ 100000) : ACall Tryz.prog w0 50 [eN n] S (fun e S' => e = dB true ∧ S' = S) := by
 obtain ⟨d, hg, hsum, h2⟩ := h
 have hn := good_nd hg
 obtain ⟨ht1, ht2⟩ := ht d hn
 have hdep := fun (hne : n.l ≠ []) S => rNode w0 d n noS noS true S hg ht1 ht2 hsum (.inl rfl) hne h2 (fun x _ => noS_le _) (fun e => absurd rfl e)
 have hkl : n.leaf = false → n.l ≠ [] := fun e he => by
  have := h2.resolve_left (by rw [e]; simp)
  rw [he] at this; simp at this
 refine fnS [] mx Tryz.func50 rfl rfl (by kernel_rfl) ?_; (refine @goW _ ?_; refine goS1 @Tryz.ntmps50 ?_)
 intro b
 refine ⟨fun hl => ⟨fun h0 hp => absurd (hz (List.eq_nil_of_length_eq_zero (by omega))) hp, fun h0 => use1 (hdep (fun e => h0 (by rw [e]; rfl)) _) ?_⟩, fun hl => use1 (hdep (hkl hl) _) ?_⟩
 ·(refine @goW _ ?_; exact goT)
 ·(refine @goW _ ?_; exact goT)
def frL (l : List C) : Nat := (l.map fun c => frT (kid0 c)).sum
def frV (q : N × List C) : Nat := frT q.1 + frL q.2
def alL (l : List C) : List Int := l.flatMap fun c => alN (kid0 c)
def alV (q : N × List C) : List Int := alN q.1 ++ alL q.2
structure TL (n : N) : Prop where
 root : RootG n
 laid : LaidP n
 pz : PZ n
theorem tl_nd {n : N} (h : TL n) : ∃ d, Nd d n := let ⟨d, h1, _⟩ := h.root; ⟨d, good_nd h1⟩
structure TV (q : N × List C) : Prop where
 dir : TL q.1
 cell : ∀ c, c ∈ q.2 → TL (kid0 c)
structure BI (k : Nat) (q o : N × List C) (f : Int) : Prop where
 v : VI k q.1 q.2
 w : VI k o.1 o.2
 tv : TV q
 f0 : frV o = 0
 sub : ∀ p, (alV q).count p ≤ (alV o).count p
 one : ∀ p, (alV o).count p ≤ 1
 rng : ∀ p, p ∈ alV o → 2 ≤ p ∧ p < f
 lo : 2 ≤ f
 hi : f ≤ 999
theorem tl_put {n : N} {key val : ByteArray} (h : TL n) (h0 : key ≠ noS) (h1 : key.size ≤ 16) (h2 : val.size ≤ 400) : TL (Put key val n) := by
 obtain ⟨d, hn⟩ := tl_nd h
 exact ⟨(root_put h0 h1 h2 h.root).1, hered_Put laid_hered h1 h2 (.inl rfl) hn h.laid, pz_put h.root h0 h1 h2⟩
theorem tl_del {n : N} {key : ByteArray} (h : TL n) : TL (Del key n) := by
 obtain ⟨d, hn⟩ := tl_nd h
 exact ⟨(root_del key h.root).1, hered_Del laid_hered hn h.laid, pz_del h.root h.pz⟩
theorem ct_put {n : N} {key val : ByteArray} (h : TL n) (h1 : key.size ≤ 16) (h2 : val.size ≤ 400) (p : Int) : (alN (Put key val n)).count p ≤ (alN n).count p := by
 obtain ⟨d, hn⟩ := tl_nd h
 exact cn_Put h1 h2 p hn
theorem ct_del {n : N} {key : ByteArray} (h : TL n) (p : Int) : (alN (Del key n)).count p ≤ (alN n).count p := by
 obtain ⟨d, hn⟩ := tl_nd h
 exact cn_Del p hn
structure MayL (n : N) (at_ : List Int) : Prop where
 tl : TL n
 tot : totN n ≤ 131072
 dep : ∀ d, Nd d n → d ≤ 100000
 len : at_.length ≤ 1024
 fr : frT n ≤ at_.length
 nd : (at_ ++ alN n).Nodup
 rng : ∀ p, p ∈ at_ ++ alN n → 2 ≤ p ∧ p ≤ 999
theorem depthW (w0 : W0) : ∀ (d : Nat) (n : N) (lo hi : ByteArray) (r : Bool) (S : St), Good d n → totN n ≤ 131072 → d ≤ 100000 → (sizesN n).sum ≤ 122 → (r = true ∨ 30 ≤ (sizesN n).sum) → n.l ≠ [] → (n.leaf = true ∨ 2 ≤ n.l.length) → (∀ x, x ∈ enN n → leS lo x.key = true) → (hi ≠ noS → ∀ x, x ∈ enN n → ltS x.key hi = true) →
  ACall Tryz.prog w0 74 [eT n, .agg [dS lo, dS hi], dB r] S (fun e S' => e = dI d ∧ S' = S) := by
 intro d
 induction d with
 | zero =>
  intro n lo hi r S hg ht hd hsum hr hne h2 hlo hhi
  have hn := good_nd hg
  have hlen := tot_len n
  have hlf := hg.1
  have hsm := nd_sm hn
  have hfk := fitK_good hg hlo hhi
  rw [hlf] at hfk
  have hfit := fun S => fitsL w0 n lo hi S hlf hfk (okV_good hg) (by omega)
  have hsz := fun S => sizesP w0 n S hsm (by omega)
  have hbd := sizes_bd n hsm (by omega)
  have hpos := List.length_pos_iff.2 hne
  rw [eT_leaf hlf] at *
  refine fnS [] mx Tryz.func74 rfl rfl (by kernel_rfl) ?_; (refine @goW _ ?_; refine goS1 @Tryz.ntmps74 ?_)
  intro b b1
  refine use1 (hfit _) ?_
  (refine @goW _ ?_; refine goS ?_)
  refine ⟨fun h => absurd h (by omega), fun _ => use1 (hsz _) ?_⟩
  (refine @goW _ ?_; refine goS ?_)
  refine use1 (sumP w0 _ _ hbd) ?_
  (refine @goW _ ?_; refine goS ?_)
  have hlow : r = false → lowR (sizesN n) = false := fun e => decide_eq_false (by rcases hr with h | h; · rw [e] at h; cases h
                                                                                  ·omega)
  refine ⟨fun h => absurd h (by omega), fun _ => ⟨fun hrf => use1 (hsz _) ?_, fun hrt => ?_⟩⟩
  ·(refine @goW _ ?_; refine goS ?_)
   refine use1 (lowP w0 _ _ hbd) ?_
   rw [hlow hrf]
   (refine @goW _ ?_; refine goS ?_)
   refine loopN [] 0 [3, 4, 8, 42, 43, 44] (fun k => [(8, dI 0), (44, dI k)]) (fun k => ⟨(b1.n, [dS lo, dS hi]) :: (b.n, [dI n.page, dB true, .sl 1 false (n.l.map fun c => dS c.key), .sl 2 false (n.l.map dV2), .sl 5 false []]) :: S.box, S.acc⟩) (fun _ => True) mx (by kernel_rfl) ?_ ?_
   ·(refine @goW _ ?_; exact goT)
   ·intro k hk' _
    (refine @goW _ ?_; exact goT)
  ·refine loopN [] 0 [3, 4, 8, 42, 43, 44] (fun k => [(8, dI 0), (44, dI k)]) (fun k => ⟨(b1.n, [dS lo, dS hi]) :: (b.n, [dI n.page, dB true, .sl 1 false (n.l.map fun c => dS c.key), .sl 2 false (n.l.map dV2), .sl 5 false []]) :: S.box, S.acc⟩) (fun _ => True) mx (by kernel_rfl) ?_ ?_
   ·(refine @goW _ ?_; exact goT)
   ·intro k hk' _
    (refine @goW _ ?_; exact goT)
 | succ d ih =>
  intro n lo hi r S hg ht hd hsum hr hne h2 hlo hhi
  have hn := good_nd hg
  have hlen := tot_len n
  have hlf := hg.1
  have hsm := nd_sm hn
  have hfk := fitK_good hg hlo hhi
  have hone := nd_one hn hlf
  rw [hlf] at hfk
  have hfit := fun S => fitsB w0 n lo hi S hlf hfk hone (by omega)
  have hsz := fun S => sizesP w0 n S hsm (by omega)
  have hbd := sizes_bd n hsm (by omega)
  have hpos := h2.resolve_left (by rw [hlf]; simp)
  have hkn := kids_nd hn
  have hres : eT n = .agg [dI n.page, dB false, .sl 1 false (n.l.map fun c => dS c.key), .sl 2 false [], .sl 5 false ((n.l.map kid0).map dT)] := by
   show DV.agg _ = _
   rw [hkn, hlf]; rfl
  rw [hres] at hfit hsz ⊢
  clear hres
  have hlow : r = false → lowR (sizesN n) = false := fun e => decide_eq_false (by rcases hr with h | h; · rw [e] at h; cases h
                                                                                  ·omega)
  have hB := hg.2.2
  have hkid : ∀ (k : Nat) c, n.l[k]? = some c → ∀ lo' hi', (if k = 0 then lo' = lo else lo' = c.key) → (match n.l[k + 1]? with
    | some c' => hi' = c'.key
    | none => hi' = hi) → ∀ T, ACall Tryz.prog w0 74 [eT (kid0 c), .agg [dS lo', dS hi'], dB false] T (fun e S' => e = dI d ∧ S' = T) := by
   intro k c hc lo' hi' hl' hh' T
   have hcm := List.mem_of_getElem? hc
   obtain ⟨s1, s2, kd, hkid, hkg, hkf⟩ := hB.cell c hcm
   rw [kid0_eq hkid]
   have htk := tot_kid hcm hkid
   have hin : ∀ x, x ∈ enN kd → x ∈ enN n := fun x hx => by rw [enN_eq, hlf]; exact List.mem_flatMap.2 ⟨c, hcm, by rw [enC_br hkid]; exact hx⟩
   refine ih kd lo' hi' false T hkg (by omega) (by omega) hkf.2 (.inr hkf.1) (fits_ne hkf) (fits_two hkg hkf) (fun x hx => ?_) fun hne' x hx => ?_
   ·split at hl'
    ·rw [hl']; exact hlo x (hin x hx)
    ·rw [hl']; exact s2 x (by rw [enC_br hkid]; exact hx)
   ·split at hh'
    ·rename_i c' hc'
     obtain ⟨q1, rfl⟩ := List.getElem?_eq_some_iff.1 hc
     obtain ⟨q2, rfl⟩ := List.getElem?_eq_some_iff.1 hc'
     rw [hh']
     exact (List.pairwise_iff_getElem.1 hB.pw k (k + 1) q1 q2 (by omega)).2 x (by rw [enC_br hkid]; exact hx)
    ·rw [hh'] at hne' ⊢; exact hhi hne' x (hin x hx)
  refine fnS [] mx Tryz.func74 rfl rfl (by kernel_rfl) ?_; (refine @goW _ ?_; refine goS1 @Tryz.ntmps74 ?_)
  intro b b1
  refine use1 (hfit _) ?_
  (refine @goW _ ?_; refine goS ?_)
  refine ⟨fun h => absurd h (by omega), fun _ => use1 (hsz _) ?_⟩
  (refine @goW _ ?_; refine goS ?_)
  refine use1 (sumP w0 _ _ hbd) ?_
  (refine @goW _ ?_; refine goS ?_)
  refine ⟨fun h => absurd h (by omega), fun _ => ⟨fun hrf => use1 (hsz _) ?_, fun hrt => ?_⟩⟩
  ·(refine @goW _ ?_; refine goS ?_)
   refine use1 (lowP w0 _ _ hbd) ?_
   rw [hlow hrf]
   (refine @goW _ ?_; refine goS ?_)
   refine loopN [] n.l.length [3, 4, 8, 42, 43, 44] (fun k => [(8, dI (if k = 0 then 0 else (d + 1 : Nat))), (44, dI k)]) (fun k => ⟨(b1.n, [dS lo, dS hi]) :: (b.n, [dI n.page, dB false, .sl 1 false (n.l.map fun c => dS c.key), .sl 2 false [], .sl 5 false ((n.l.map kid0).map dT)]) :: S.box, S.acc⟩) (fun _ => True) mx (by kernel_rfl) ?_ ?_
   ·(refine @goW _ ?_; exact goT)
   ·intro k hk' _
    (refine @goW _ ?_; refine goS ?_)
    refine ⟨fun hlt => ⟨hlt, fun c hc b2 b3 => ?_⟩, fun hge => ?_⟩
    ·have e1 : IntKind.i64.wrap ((d : Int) + 1) = ((d + 1 : Nat) : Int) := by rw [w64 (by omega) (by omega)]; omega
     have e2 : IntKind.i64.wrap ((k : Int) + 1) = ((k + 1 : Nat) : Int) := i_oneV k (by omega)
     have hk2 : ∀ lo', (if k = 0 then lo' = lo else lo' = c.key) → ¬ ((k + 1 : Nat) : Int) < n.l.length → ∀ T, ACall Tryz.prog w0 74 [eT (kid0 c), .agg [dS lo', dS hi], dB false] T (fun e S' => e = dI d ∧ S' = T) := fun lo' h1 h2 T => hkid k c hc lo' hi h1 (by rw [List.getElem?_eq_none (by omega)]) T
     have hk1 : ∀ lo' a, (if k = 0 then lo' = lo else lo' = c.key) → n.l[k + 1]? = some a → ∀ T, ACall Tryz.prog w0 74 [eT (kid0 c), .agg [dS lo', dS a.key], dB false] T (fun e S' => e = dI d ∧ S' = T) := fun lo' a h1 h2 T => hkid k c hc lo' a.key h1 (by rw [h2]) T
     rw [e2]
     refine ⟨fun hp => ⟨hlt, fun a ha => ?_⟩, fun hz => ?_⟩
     ·cases getE hc ha
      have hl0 : (if k = 0 then c.key = lo else c.key = c.key) := by rw [if_neg (by omega)]
      have hf : (if k = 0 then (0 : Int) else ((d + 1 : Nat) : Int)) = ((d + 1 : Nat) : Int) := if_neg (by omega)
      have hf2 : (if k + 1 = 0 then (0 : Int) else ((d + 1 : Nat) : Int)) = ((d + 1 : Nat) : Int) := if_neg (by omega)
      have z2 : ((k : Int) > 0) = True := eq_true hp
      refine ⟨fun h1 => ⟨by omega, h1, fun a ha => use1 (hk1 c.key a hl0 ha _) ?_⟩, fun h1 => use1 (hk2 c.key hl0 h1 _) ?_⟩
      ·(refine @goW _ ?_; refine goS6 @e1 @e2 @z2 @hf @hf2 @hlt ?_)
       exact fun h => absurd h (by omega)
      ·(refine @goW _ ?_; refine goS6 @e1 @e2 @z2 @hf @hf2 @hlt ?_)
       exact fun h => absurd h (by omega)
     ·have hl0 : (if k = 0 then lo = lo else lo = c.key) := by rw [if_pos (by omega)]
      have z2 : ((k : Int) > 0) = False := eq_false hz
      have hf2 : (if k + 1 = 0 then (0 : Int) else ((d + 1 : Nat) : Int)) = ((d + 1 : Nat) : Int) := if_neg (by omega)
      refine ⟨fun h1 => ⟨by omega, h1, fun a ha => use1 (hk1 lo a hl0 ha _) ?_⟩, fun h1 => use1 (hk2 lo hl0 h1 _) ?_⟩
      ·(refine @goW _ ?_; refine goS5 @e1 @e2 @z2 @hf2 @hlt ?_)
       exact fun h => absurd h (by omega)
      ·(refine @goW _ ?_; refine goS5 @e1 @e2 @z2 @hf2 @hlt ?_)
       exact fun h => absurd h (by omega)
    ·exact if_neg (by omega)
  ·refine loopN [] n.l.length [3, 4, 8, 42, 43, 44] (fun k => [(8, dI (if k = 0 then 0 else (d + 1 : Nat))), (44, dI k)]) (fun k => ⟨(b1.n, [dS lo, dS hi]) :: (b.n, [dI n.page, dB false, .sl 1 false (n.l.map fun c => dS c.key), .sl 2 false [], .sl 5 false ((n.l.map kid0).map dT)]) :: S.box, S.acc⟩) (fun _ => True) mx (by kernel_rfl) ?_ ?_
   ·(refine @goW _ ?_; exact goT)
   ·intro k hk' _
    (refine @goW _ ?_; refine goS ?_)
    refine ⟨fun hlt => ⟨hlt, fun c hc b2 b3 => ?_⟩, fun hge => ?_⟩
    ·have e1 : IntKind.i64.wrap ((d : Int) + 1) = ((d + 1 : Nat) : Int) := by rw [w64 (by omega) (by omega)]; omega
     have e2 : IntKind.i64.wrap ((k : Int) + 1) = ((k + 1 : Nat) : Int) := i_oneV k (by omega)
     have hk2 : ∀ lo', (if k = 0 then lo' = lo else lo' = c.key) → ¬ ((k + 1 : Nat) : Int) < n.l.length → ∀ T, ACall Tryz.prog w0 74 [eT (kid0 c), .agg [dS lo', dS hi], dB false] T (fun e S' => e = dI d ∧ S' = T) := fun lo' h1 h2 T => hkid k c hc lo' hi h1 (by rw [List.getElem?_eq_none (by omega)]) T
     have hk1 : ∀ lo' a, (if k = 0 then lo' = lo else lo' = c.key) → n.l[k + 1]? = some a → ∀ T, ACall Tryz.prog w0 74 [eT (kid0 c), .agg [dS lo', dS a.key], dB false] T (fun e S' => e = dI d ∧ S' = T) := fun lo' a h1 h2 T => hkid k c hc lo' a.key h1 (by rw [h2]) T
     rw [e2]
     refine ⟨fun hp => ⟨hlt, fun a ha => ?_⟩, fun hz => ?_⟩
     ·cases getE hc ha
      have hl0 : (if k = 0 then c.key = lo else c.key = c.key) := by rw [if_neg (by omega)]
      have hf : (if k = 0 then (0 : Int) else ((d + 1 : Nat) : Int)) = ((d + 1 : Nat) : Int) := if_neg (by omega)
      have hf2 : (if k + 1 = 0 then (0 : Int) else ((d + 1 : Nat) : Int)) = ((d + 1 : Nat) : Int) := if_neg (by omega)
      have z2 : ((k : Int) > 0) = True := eq_true hp
      refine ⟨fun h1 => ⟨by omega, h1, fun a ha => use1 (hk1 c.key a hl0 ha _) ?_⟩, fun h1 => use1 (hk2 c.key hl0 h1 _) ?_⟩
      ·(refine @goW _ ?_; refine goS6 @e1 @e2 @z2 @hf @hf2 @hlt ?_)
       exact fun h => absurd h (by omega)
      ·(refine @goW _ ?_; refine goS6 @e1 @e2 @z2 @hf @hf2 @hlt ?_)
       exact fun h => absurd h (by omega)
     ·have hl0 : (if k = 0 then lo = lo else lo = c.key) := by rw [if_pos (by omega)]
      have z2 : ((k : Int) > 0) = False := eq_false hz
      have hf2 : (if k + 1 = 0 then (0 : Int) else ((d + 1 : Nat) : Int)) = ((d + 1 : Nat) : Int) := if_neg (by omega)
      refine ⟨fun h1 => ⟨by omega, h1, fun a ha => use1 (hk1 lo a hl0 ha _) ?_⟩, fun h1 => use1 (hk2 lo hl0 h1 _) ?_⟩
      ·(refine @goW _ ?_; refine goS5 @e1 @e2 @z2 @hf2 @hlt ?_)
       exact fun h => absurd h (by omega)
      ·(refine @goW _ ?_; refine goS5 @e1 @e2 @z2 @hf2 @hlt ?_)
       exact fun h => absurd h (by omega)
    ·exact if_neg (by omega)
theorem checkW (w0 : W0) (n : N) (S : St) (h : RootG n) (hz : PZ n) (ht : ∀ d, Nd d n → totN n ≤ 131072 ∧ d ≤ 100000) : ACall Tryz.prog w0 42 [eT n] S (fun e S' => e = dB true ∧ S' = S) := by
 obtain ⟨d, hg, hsum, h2⟩ := h
 have hn := good_nd hg
 obtain ⟨ht1, ht2⟩ := ht d hn
 have hdep := fun (hne : n.l ≠ []) S => depthW w0 d n noS noS true S hg ht1 ht2 hsum (.inl rfl) hne h2 (fun x _ => noS_le _) (fun e => absurd rfl e)
 have hlen := tot_len n
 have hkl : n.leaf = false → n.l ≠ [] := fun e he => by
  have := h2.resolve_left (by rw [e]; simp)
  rw [he] at this; simp at this
 cases hlf : n.leaf with
 | true =>
  rw [eT_leaf hlf] at *
  refine fnS [] mx Tryz.func42 rfl rfl (by kernel_rfl) ?_; (refine @goW _ ?_; refine goS1 @Tryz.ntmps42 ?_)
  intro b
  have hfin : (n.page = 0 → ¬ n.l = []) → n.l ≠ [] := fun h e => h (hz e) e
  refine ⟨fun hp hw => ?_, fun hp => ?_⟩
  ·have hne : n.l ≠ [] := fun e => hw (by rw [e]; rfl)
   refine use1 (hdep hne _) ?_
   (refine @goW _ ?_; exact goT)
  ·refine use1 (hdep (fun e => hp (hz e)) _) ?_
   (refine @goW _ ?_; exact goT)
 | false =>
  refine fnS [] mx Tryz.func42 rfl rfl (by kernel_rfl) ?_; (refine @goW _ ?_; refine goS2 @Tryz.ntmps42 @hlf ?_)
  intro b
  refine use1 (hdep (hkl hlf) _) ?_ ⟨?_, .refl _, .refl _, trivial⟩
  ·(refine @goW _ ?_; exact goT)
  ·(refine @goW _ ?_; exact goT1 @hlf)
structure TreeL (n : N) : Prop where
 tl : TL n
 tot : totN n ≤ 131072
 dep : ∀ d, Nd d n → d ≤ 100000
def MayC (n : N) (at_ : List Int) : Prop := (at_ ++ alN n).Nodup ∧ (∀ p, p ∈ at_ ++ alN n → 2 ≤ p ∧ p ≤ 999) ∧ frT n ≤ at_.length
noncomputable def mayV (n : N) (at_ : List Int) : Bool := @decide (MayC n at_) (Classical.propDecidable _)
theorem mayV_t {n : N} {at_ : List Int} (h : MayC n at_) : mayV n at_ = true := @decide_eq_true _ (Classical.propDecidable _) h
theorem mayV_f {n : N} {at_ : List Int} (h : ¬ MayC n at_) : mayV n at_ = false := @decide_eq_false _ (Classical.propDecidable _) h
theorem MayL.of {n : N} {at_ : List Int} (h : TreeL n) (hl : at_.length ≤ 1024) (hm : MayC n at_) : MayL n at_ := ⟨h.tl, h.tot, h.dep, hl, hm.2.2, hm.1, hm.2.1⟩
theorem row_ok {L : List Int} (hs : L.Pairwise (· ≤ ·)) (h : ∀ (j : Nat) x, L[j]? = some x → (2 ≤ x ∧ x ≤ 999) ∧ ∀ y, 0 < j → L[j - 1]? = some y → x ≠ y) : L.Nodup ∧ ∀ p, p ∈ L → 2 ≤ p ∧ p ≤ 999 := by
 refine ⟨?_, fun p hp => ?_⟩
 ·have : L.Pairwise (· < ·) := by
   rw [List.pairwise_iff_getElem]
   intro i j hi hj hij
   have h1 := (h j _ (List.getElem?_eq_getElem hj)).2 L[j - 1] (by omega) (List.getElem?_eq_getElem (by omega))
   have h2 : L[j - 1] ≤ L[j] := List.pairwise_iff_getElem.1 hs _ _ (by omega) hj (by omega)
   have h3 : L[i] ≤ L[j - 1] := by
    by_cases e : i = j - 1
    ·subst e; exact Int.le_refl _
    ·exact List.pairwise_iff_getElem.1 hs _ _ hi (by omega) (by omega)
   omega
  exact this.imp fun {a b} h => by omega
 ·obtain ⟨j, hj⟩ := List.mem_iff_getElem?.1 hp
  exact (h j p hj).1
theorem row_len {l : List Int} (h : l.Nodup) (hr : ∀ p, p ∈ l → 2 ≤ p ∧ p ≤ 999) : l.length ≤ 998 := by
 have hp := srt_perm l
 have hs : (srt l).Pairwise (· < ·) := List.Pairwise.imp (R := fun x y => x ≤ y ∧ x ≠ y) (fun h => by omega) ((srt_up l).and (hp.nodup_iff.2 h))
 have hr2 : ∀ p, p ∈ srt l → 2 ≤ p ∧ p ≤ 999 := fun p hp' => hr p (hp.mem_iff.1 hp')
 rw [← hp.length_eq]
 generalize srt l = L at *
 have : ∀ i (hi : i < L.length), (2 + i : Int) ≤ L[i] := fun i => by
  induction i with
  | zero => intro hi; have := (hr2 L[0] (List.getElem_mem _)).1; omega
  | succ i ih =>
   intro hi
   have h1 := ih (by omega)
   have h2 := List.pairwise_iff_getElem.1 hs i (i + 1) (by omega) hi (by omega)
   omega
 rcases Nat.eq_zero_or_pos L.length with q | q
 ·omega
 ·have h1 := this (L.length - 1) (by omega)
  have h2 := (hr2 L[L.length - 1] (List.getElem_mem _)).2
  omega
theorem MayC.len {n : N} {at_ : List Int} (h : MayC n at_) : at_.length ≤ 998 := row_len (List.nodup_append.1 h.1).1 fun p hp => h.2.1 p (List.mem_append_left _ hp)
theorem mayGP (w0 : W0) (n : N) (at_ : List Int) (S : St) (h : TreeL n) (hln : at_.length ≤ 1100) : ACall Tryz.prog w0 25 [eT n, dL at_] S (fun d S' => d = dB (mayV n at_) ∧ S' = S) := by
 obtain ⟨d, hn⟩ := tl_nd h.tl
 have hfine : Fine n := ⟨d, hn, h.tot⟩
 have hpg := fun S => pagesQ w0 n S hfine
 rw [pgs_al hn] at hpg
 have hck := fun S => checkW w0 n S h.tl.root h.tl.pz fun d hd => ⟨h.tot, h.dep d hd⟩
 have hfs := fun S => freshQ w0 n S hfine
 have hal := al_len hn
 have ht := h.tot
 have hp : (at_ ++ srt (alN n)).Perm (at_ ++ alN n) := List.Perm.append_left _ (srt_perm _)
 have hfl : flat [at_, srt (alN n)] = at_ ++ srt (alN n) := by simp [flat]
 have hlen : (at_ ++ srt (alN n)).length = at_.length + (alN n).length := by rw [hp.length_eq, List.length_append]
 have hcc := fun S => concat w0 [at_, srt (alN n)] S (by simp) (by rw [hfl, hlen]; omega)
 rw [hfl] at hcc
 have hsp : (srt (at_ ++ srt (alN n))).Perm (at_ ++ alN n) := (srt_perm _).trans hp
 have hup := srt_up (at_ ++ srt (alN n))
 have hll : (srt (at_ ++ srt (alN n))).length = at_.length + (alN n).length := by rw [hsp.length_eq, List.length_append]
 have hso : ∀ (l : Nat) (S : St), lk S.acc l = some (.arr 1 ((at_ ++ srt (alN n)).map dI)) → ACall Tryz.prog w0 41 [.acc l (at_.length + (alN n).length)] S (fun d S' => d = .tup [] ∧ S' = ⟨S.box, up S.acc l (.arr 1 ((srt (at_ ++ srt (alN n))).map dI))⟩) := fun l S hl => by
  have := sort_int w0 hl (by rw [hlen]; omega)
  rw [hlen] at this
  exact this
 rw [hlen] at hcc
 generalize srt (at_ ++ srt (alN n)) = L at *
 generalize at_ ++ srt (alN n) = M at *
 generalize hA : srt (alN n) = A at *
 have hb1 : (∀ (j : Nat) x, L[j]? = some x → (2 ≤ x ∧ x ≤ 999) ∧ ∀ y, 0 < j → L[j - 1]? = some y → x ≠ y) → frT n ≤ at_.length → mayV n at_ = true := fun q1 q2 => mayV_t (by
  obtain ⟨z1, z2⟩ := row_ok hup q1
  exact ⟨hsp.nodup_iff.1 z1, fun p hp => z2 p (hsp.mem_iff.2 hp), q2⟩)
 have hb2 : ∀ x, x ∈ L → ¬ (2 ≤ x ∧ x ≤ 999) → mayV n at_ = false := fun x hx q => mayV_f fun c => q (c.2.1 x (hsp.mem_iff.1 hx))
 have hb3 : ∀ (j : Nat) x, 0 < j → L[j]? = some x → L[j - 1]? = some x → mayV n at_ = false := fun j x h0 h1 h2 => mayV_f fun c => by
  have := hsp.nodup_iff.2 c.1
  obtain ⟨u1, e1⟩ := List.getElem?_eq_some_iff.1 h1
  obtain ⟨u2, e2⟩ := List.getElem?_eq_some_iff.1 h2
  exact (List.pairwise_iff_getElem.1 this) (j - 1) j u2 u1 (by omega) (e2.trans e1.symm)
 have hb4 : ¬ frT n ≤ at_.length → mayV n at_ = false := fun q => mayV_f fun c => q c.2.2
 generalize mayV n at_ = R at *
 refine fnS [] mx Tryz.func25 rfl rfl (by kernel_rfl) ?_; (refine @goW _ ?_; refine goS1 @Tryz.ntmps25 ?_)
 intro b
 refine use1 (hpg _) ?_
 (refine @goW _ ?_; refine goS ?_)
 refine useK (hcc _) ?_ (.cons (Wk.full _ _ _) .nil)
 rintro _ _ ⟨la, rfl, rfl⟩
 (refine @goW _ ?_; refine goS ?_)
 refine .inl (useK (hso la.n ⟨_, (la.n, .arr 1 (M.map dI)) :: S.acc⟩ (by simp [lk])) ?_)
 rintro _ _ ⟨rfl, rfl⟩
 (refine @goW _ ?_; refine goS ?_)
 refine loopN [] L.length [1, 2, 5, 15, 16, 17] (fun k => [(17, dI k)]) (fun _ => ⟨(b.n, [dI n.page, dB n.leaf, .sl 1 false (n.l.map fun c => dS c.key), .sl 2 false ((if n.leaf then n.l else []).map dV2), .sl 5 false ((kidsOf n).map dT)]) :: S.box, (la.n, .arr 1 (L.map dI)) :: S.acc⟩) (fun k => ∀ (j : Nat) x, j < k → L[j]? = some x → (2 ≤ x ∧ x ≤ 999) ∧ ∀ y, 0 < j → L[j - 1]? = some y → x ≠ y) mx (by kernel_rfl) ?_ ?_
 ·(refine @goW _ ?_; refine goS1 @hll ?_)
  exact fun j x hj => absurd hj (by omega)
 ·intro k hk hinv
  have hstep : ∀ a, L[k]? = some a → ¬ a < 2 → ¬ a > 999 → (∀ y, 0 < k → L[k - 1]? = some y → a ≠ y) → ∀ (j : Nat) x, j < k + 1 → L[j]? = some x → (2 ≤ x ∧ x ≤ 999) ∧ ∀ y, 0 < j → L[j - 1]? = some y → x ≠ y := fun a ha q1 q2 q3 j x hj hx => by
   rcases Nat.lt_succ_iff_lt_or_eq.1 hj with q | q
   ·exact hinv j x q hx
   ·subst q
    cases getE ha hx
    exact ⟨by omega, q3⟩
  (refine @goW _ ?_; refine goS1 @hll ?_)
  refine ⟨fun hlt => ⟨hlt, hlt, fun a ha => ⟨fun q => ?_, fun q1 => ⟨fun q => ?_, fun q2 => ⟨fun hk0 => ?_, fun hk0 => ?_⟩⟩⟩⟩, fun hge => ?_⟩
  ·rw [hb2 a (List.mem_of_getElem? ha) (by omega)]
  ·rw [hb2 a (List.mem_of_getElem? ha) (by omega)]
  ·have ew : IntKind.i64.wrap ((k : Int) - 1) = ((k - 1 : Nat) : Int) := by rw [w64 (by omega) (by omega)]; omega
   rw [ew, Int.toNat_natCast]
   refine ⟨by omega, by omega, by omega, fun a2 ha2 => ⟨fun he => ?_, fun he => ⟨hlt, ?_, i_oneV k (by omega)⟩⟩⟩
   ·subst he
    rw [hb3 k a (by omega) ha ha2]
   ·exact hstep a ha q1 q2 fun y _ hy => by cases getE ha2 hy; exact he
  ·exact ⟨hlt, hstep a ha q1 q2 (fun y h0 => absurd h0 (by omega)), i_oneV k (by omega)⟩
  ·have hall := fun (j : Nat) x (hx : L[j]? = some x) => hinv j x (by have := (List.getElem?_eq_some_iff.1 hx).1; omega) hx
   refine use1 (hck _) ?_
   (refine @goW _ ?_; refine goS ?_)
   refine use1 (hfs _) ?_
   (refine @goW _ ?_; refine goS ?_)
   by_cases q : frT n ≤ at_.length
   ·rw [hb1 hall q, decide_eq_true q]
   ·rw [hb4 q, decide_eq_false q]
theorem cloneIQ (w0 : W0) (l : List Int) (S : St) (h : l.length ≤ 1048576) : ACall Tryz.prog w0 26 [dL l] S (fun d S' => d = dL l ∧ S' = S) := by
 refine acall_frzV (ACall.mono (cloneIA w0 l S h) ?_)
 rintro d S' ⟨b, rfl, rfl⟩
 (refine @goW _ ?_; exact goT)
noncomputable def layO (n : N) (at_ : List Int) : DV := if mayV n at_ then .tup [eT (layN n (at_, [])).1, .sl 2 false ((layN n (at_, [])).2.2.map dWb), dL (layN n (at_, [])).2.1, dB true] else .tup [eT n, .sl 0 true [], .sl 0 true [], dB false]
theorem LayG (w0 : W0) (hgl : GlobC w0) (n : N) (at_ : List Int) (S : St) (h : TreeL n) (hln : at_.length ≤ 1100) : ACall Tryz.prog w0 9 [eT n, dL at_] S (fun d S' => d = layO n at_ ∧ S' = S) := by
 have hmay := fun S => mayGP w0 n at_ S h hln
 have hcl := fun S => cloneIQ w0 at_ S (by omega)
 by_cases hm : MayC n at_
 ·have hL := MayL.of h (by have := hm.len; omega) hm
  obtain ⟨d, hg, hs, h2⟩ := h.tl.root
  have hfr := hL.fr
  have hln := hL.len
  have hnd := List.nodup_append.1 hL.nd
  have hlay := fun bs lw S (hI : LayP S bs lw at_ []) => layP w0 hgl bs lw d n (at_, []) S hg h.tl.laid hI h.tot hs h2 hfr hln hnd.1 (fun x hx => hL.rng x (List.mem_append_left _ hx)) (fun x hx => hL.rng x (List.mem_append_right _ hx)) (by show 0 + _ ≤ _; omega)
  have e : layO n at_ = .tup [eT (layN n (at_, [])).1, .sl 2 false ((layN n (at_, [])).2.2.map dWb), dL (layN n (at_, [])).2.1, dB true] := by unfold layO; rw [mayV_t hm]; rfl
  rw [e]
  rw [mayV_t hm] at hmay
  generalize layN n (at_, []) = R at *
  refine fnS [4, 5] mx Tryz.func9 rfl rfl (by kernel_rfl) ?_; (refine @goW _ ?_; refine goS1 @Tryz.ntmps9 ?_)
  intro b b1
  refine use1 (hmay _) ?_
  (refine @goW _ ?_; refine goS ?_)
  refine use1 (hcl _) ?_
  (refine @goW _ ?_; refine goS ?_)
  intro b2
  refine awp_growB b2.n 0 2 (by omega) (ds := [.sl 0 true [], .sl 1 false (at_.map dI)]) (by (refine @goW _ ?_; exact goT)) rfl fun lw => ?_
  (refine @goW _ ?_; refine goS ?_)
  refine shrK [5] [] mx (by kernel_rfl) ?_
  (refine @goW _ ?_; refine goS ?_)
  refine useK (hlay b2.n lw.n _ ⟨by (refine @goW _ ?_; exact goT), by (refine @goW _ ?_; exact goT)⟩) ?_
  rintro e S' ⟨rfl, rfl⟩
  simp (maxDischargeDepth := 12) (maxSteps := 1000000) -implicitDefEqProofs only [go_sem, Nat.reduceAdd, Nat.reduceSub, Nat.reduceMul, Nat.reduceLeDiff, Nat.reduceEqDiff, Nat.reduceGT, Nat.reduceBEq, reduceCtorEq, ↓reduceIte, Int.reduceToNat, Int.reduceLE, Int.reduceLT, Int.reduceNe, Int.reduceEq, layB]
  intro b9
  refine shrB b2.n 0 (l := lw.n) (s := 2) (xs := R.2.2.map dWb) (ds := [.acc lw.n R.2.2.length, .sl 1 false (R.2.1.map dI)]) (by (refine @goW _ ?_; exact goT)) (by simp) (by (refine @goW _ ?_; exact goT)) ?_
  (refine @goW _ ?_; refine goS ?_)
  refine Y.ordB [b1.n] [9] [] [1, 2, 3, 5, 6, 7, 0, 4, 8, 9, 10, 11, 12] mx (by kernel_rfl) ?_
  (refine @goW _ ?_; exact goT)
 ·have e : layO n at_ = .tup [eT n, .sl 0 true [], .sl 0 true [], dB false] := by unfold layO; rw [mayV_f hm]; rfl
  rw [e]
  rw [mayV_f hm] at hmay
  refine fnS [5] mx Tryz.func9 rfl rfl (by kernel_rfl) ?_; (refine @goW _ ?_; refine goS1 @Tryz.ntmps9 ?_)
  intro b b1
  refine use1 (hmay _) ?_
  (refine @goW _ ?_; refine goS ?_)
  trivial
theorem mayGR (w0 : W0) (n : N) (at_ : List Int) (S : St) (h : TreeL n) (hln : at_.length ≤ 1100) : ACall Tryz.prog w0 28 [eN n, dL at_] S (fun d S' => d = dB (mayV n at_) ∧ S' = S) := by
 obtain ⟨d, hn⟩ := tl_nd h.tl
 have hpg := fun S => refPagesW w0 d n S hn h.tot
 rw [pgs_al hn] at hpg
 have hck := fun S => rCheck w0 n S h.tl.root h.tl.pz fun d hd => ⟨h.tot, h.dep d hd⟩
 have hfs := fun S => freshR w0 d n S hn h.tot
 have hal := al_len hn
 have ht := h.tot
 have hp : (at_ ++ srt (alN n)).Perm (at_ ++ alN n) := List.Perm.append_left _ (srt_perm _)
 have hso := fun S => sortedR w0 (at_ ++ srt (alN n)) S (by rw [hp.length_eq, List.length_append]; omega)
 have hsp : (srt (at_ ++ srt (alN n))).Perm (at_ ++ alN n) := (srt_perm _).trans hp
 have hup := srt_up (at_ ++ srt (alN n))
 have hll : (srt (at_ ++ srt (alN n))).length ≤ 1048576 := by rw [hsp.length_eq, List.length_append]; omega
 generalize srt (at_ ++ srt (alN n)) = L at *
 generalize hA : srt (alN n) = A at *
 have hAl : A.length = (alN n).length := by rw [← hA]; exact srt_length _
 have hb1 : (∀ (j : Nat) x, L[j]? = some x → (2 ≤ x ∧ x ≤ 999) ∧ ∀ y, 0 < j → L[j - 1]? = some y → x ≠ y) → frT n ≤ at_.length → mayV n at_ = true := fun q1 q2 => mayV_t (by
  obtain ⟨z1, z2⟩ := row_ok hup q1
  exact ⟨hsp.nodup_iff.1 z1, fun p hp => z2 p (hsp.mem_iff.2 hp), q2⟩)
 have hb2 : ∀ x, x ∈ L → ¬ (2 ≤ x ∧ x ≤ 999) → mayV n at_ = false := fun x hx q => mayV_f fun c => q (c.2.1 x (hsp.mem_iff.1 hx))
 have hb3 : ∀ (j : Nat) x, 0 < j → L[j]? = some x → L[j - 1]? = some x → mayV n at_ = false := fun j x h0 h1 h2 => mayV_f fun c => by
  have := hsp.nodup_iff.2 c.1
  obtain ⟨u1, e1⟩ := List.getElem?_eq_some_iff.1 h1
  obtain ⟨u2, e2⟩ := List.getElem?_eq_some_iff.1 h2
  exact (List.pairwise_iff_getElem.1 this) (j - 1) j u2 u1 (by omega) (e2.trans e1.symm)
 have hb4 : ¬ frT n ≤ at_.length → mayV n at_ = false := fun q => mayV_f fun c => q c.2.2
 generalize mayV n at_ = R at *
 refine fnS [] mx Tryz.func28 rfl rfl (by kernel_rfl) ?_; (refine @goW _ ?_; refine goS1 @Tryz.ntmps28 ?_)
 intro b
 have hm8 : maxLen = 9223372036854775807 := rfl
 refine ⟨by omega, by omega, fun la => use1 (hpg _) ?_⟩
 (refine @goW _ ?_; refine goS ?_)
 refine ⟨by omega, by omega, ?_⟩
 refine .inr (use1 (hso _) ?_)
 (refine @goW _ ?_; refine goS ?_)
 refine loopN [] L.length [1, 2, 6, 7] (fun k => [(7, dI k)]) (fun _ => ⟨(b.n, [dI n.page, dB n.leaf, .sl 4 false (n.l.map dC)]) :: S.box, (la.n, .tl 1 ((at_ ++ A).map dI)) :: S.acc⟩) (fun k => ∀ (j : Nat) x, j < k → L[j]? = some x → (2 ≤ x ∧ x ≤ 999) ∧ ∀ y, 0 < j → L[j - 1]? = some y → x ≠ y) mx (by kernel_rfl) ?_ ?_
 ·(refine @goW _ ?_; refine goS ?_)
  exact fun j x hj => absurd hj (by omega)
 ·intro k hk hinv
  have hstep : ∀ a, L[k]? = some a → ¬ a < 2 → ¬ a > 999 → (∀ y, 0 < k → L[k - 1]? = some y → a ≠ y) → ∀ (j : Nat) x, j < k + 1 → L[j]? = some x → (2 ≤ x ∧ x ≤ 999) ∧ ∀ y, 0 < j → L[j - 1]? = some y → x ≠ y := fun a ha q1 q2 q3 j x hj hx => by
   rcases Nat.lt_succ_iff_lt_or_eq.1 hj with q | q
   ·exact hinv j x q hx
   ·subst q
    cases getE ha hx
    exact ⟨by omega, q3⟩
  (refine @goW _ ?_; refine goS ?_)
  refine ⟨fun hlt => ⟨hlt, fun a ha => ?_⟩, fun hge => ?_⟩
  ·have hm := List.mem_of_getElem? ha
   refine ⟨fun q => by rw [hb2 a hm (by omega)], fun q1 => ⟨hlt, fun a2 ha2 => ?_⟩⟩
   cases getE ha ha2
   refine ⟨fun q => by rw [hb2 a hm (by omega)], fun q2 => ⟨fun hk0 => ⟨hlt, fun a3 ha3 => ?_⟩, fun hk0 => ⟨hlt, hstep a ha q1 q2 (fun y h0 => absurd h0 (by omega)), i_oneV k (by omega)⟩⟩⟩
   cases getE ha ha3
   have ew : IntKind.i64.wrap ((k : Int) - 1) = ((k - 1 : Nat) : Int) := by rw [w64 (by omega) (by omega)]; omega
   rw [ew, Int.toNat_natCast]
   refine ⟨by omega, by omega, fun a4 ha4 => ⟨fun he => ?_, fun he => ⟨hlt, hstep a ha q1 q2 (fun y _ hy => by cases getE ha4 hy; exact he), i_oneV k (by omega)⟩⟩⟩
   subst he
   rw [hb3 k a (by omega) ha ha4]
  ·have hall := fun (j : Nat) x (hx : L[j]? = some x) => hinv j x (by have := (List.getElem?_eq_some_iff.1 hx).1; omega) hx
   refine use1 (hck _) ?_
   (refine @goW _ ?_; refine goS ?_)
   refine use1 (hfs _) ?_
   (refine @goW _ ?_; refine goS ?_)
   by_cases q : frT n ≤ at_.length
   ·rw [hb1 hall q, decide_eq_true q]
   ·rw [hb4 q, decide_eq_false q]
noncomputable def layRO (n : N) (at_ : List Int) : DV := if mayV n at_ then .tup [eN (layN n (at_, [])).1, .sl 2 false ((layN n (at_, [])).2.2.map dWr), dL (layN n (at_, [])).2.1, dB true] else .tup [eN n, .sl 0 true [], .sl 0 true [], dB false]
theorem LayRG (w0 : W0) (n : N) (at_ : List Int) (S : St) (h : TreeL n) (hln : at_.length ≤ 1100) : ACall Tryz.prog w0 11 [eN n, dL at_] S (fun d S' => d = layRO n at_ ∧ S' = S) := by
 have hmay := fun S => mayGR w0 n at_ S h hln
 by_cases hm : MayC n at_
 ·have hL := MayL.of h (by have := hm.len; omega) hm
  obtain ⟨d, hg, hs, h2⟩ := h.tl.root
  have hfr := hL.fr
  have hln := hL.len
  have hnd := List.nodup_append.1 hL.nd
  have hlay := fun bs lw S (hI : LayI S bs lw at_ []) => layR w0 bs lw d n (at_, []) S hg h.tl.laid hI h.tot hs h2 hfr hln hnd.1 (fun x hx => hL.rng x (List.mem_append_left _ hx)) (fun x hx => hL.rng x (List.mem_append_right _ hx)) (by show 0 + _ ≤ _; omega)
  have e : layRO n at_ = .tup [eN (layN n (at_, [])).1, .sl 2 false ((layN n (at_, [])).2.2.map dWr), dL (layN n (at_, [])).2.1, dB true] := by unfold layRO; rw [mayV_t hm]; rfl
  rw [e]
  rw [mayV_t hm] at hmay
  generalize layN n (at_, []) = R at *
  refine fnS [5, 6] mx Tryz.func11 rfl rfl (by kernel_rfl) ?_; (refine @goW _ ?_; refine goS1 @Tryz.ntmps11 ?_)
  intro b b1
  refine use1 (hmay _) ?_
  (refine @goW _ ?_; refine goS ?_)
  intro b2
  refine awp_growB b2.n 0 2 (by omega) (ds := [.sl 0 true [], .sl 1 false (at_.map dI)]) (by (refine @goW _ ?_; exact goT)) rfl fun lw => ?_
  (refine @goW _ ?_; refine goS ?_)
  refine shrK [6] [] mx (by kernel_rfl) ?_
  (refine @goW _ ?_; refine goS ?_)
  refine useK (hlay b2.n lw.n _ ⟨by (refine @goW _ ?_; exact goT), by (refine @goW _ ?_; exact goT)⟩) ?_
  rintro e S' ⟨rfl, rfl⟩
  simp (maxDischargeDepth := 12) (maxSteps := 1000000) -implicitDefEqProofs only [go_sem, Nat.reduceAdd, Nat.reduceSub, Nat.reduceMul, Nat.reduceLeDiff, Nat.reduceEqDiff, Nat.reduceGT, Nat.reduceBEq, reduceCtorEq, ↓reduceIte, Int.reduceToNat, Int.reduceLE, Int.reduceLT, Int.reduceNe, Int.reduceEq, layS]
  intro b3
  refine shrB b2.n 0 (l := lw.n) (s := 2) (xs := R.2.2.map dWr) (ds := [.acc lw.n R.2.2.length, .sl 1 false (R.2.1.map dI)]) (by (refine @goW _ ?_; exact goT)) (by simp) (by (refine @goW _ ?_; exact goT)) ?_
  (refine @goW _ ?_; refine goS ?_)
  refine Y.ordB [b1.n] [9] [] [1, 2, 3, 5, 6, 7, 0, 4, 8, 9, 10, 11, 12] mx (by kernel_rfl) ?_
  (refine @goW _ ?_; exact goT)
 ·have e : layRO n at_ = .tup [eN n, .sl 0 true [], .sl 0 true [], dB false] := by unfold layRO; rw [mayV_f hm]; rfl
  rw [e]
  rw [mayV_f hm] at hmay
  refine fnS [6] mx Tryz.func11 rfl rfl (by kernel_rfl) ?_; (refine @goW _ ?_; refine goS1 @Tryz.ntmps11 ?_)
  intro b b1
  refine use1 (hmay _) ?_
  (refine @goW _ ?_; refine goS ?_)
  trivial
theorem nodeL19 (w0 : W0) : ∀ (d : Nat) (n : N) (S : St), Nd d n → totN n ≤ 131072 → ACall Tryz.prog w0 10 [eN n] S (fun e S' => e = eT n ∧ S' = S) := by
 intro d
 induction d with
 | zero =>
  intro n S hn ht
  have hlf := hn.1
  have hl := tot_len n
  have hres : eT n = .agg [dI n.page, dB true, .sl 1 false (n.l.map fun c => dS c.key), .sl 2 false (n.l.map dV2), .sl 5 false []] := by
   show DV.agg _ = _
   rw [kidsOf_leaf hlf, hlf]; rfl
  rw [hres]
  refine fnS [] mx Tryz.func10 rfl rfl (by kernel_rfl) ?_; (refine @goW _ ?_; refine goS2 @Tryz.ntmps10 @hlf ?_)
  intro b b1 b2
  refine awp_growB b2.n 2 1 (by omega) (q_lk_same _ _ _) rfl fun lk1 => ?_
  (refine @goW _ ?_; refine goS ?_)
  refine awp_growB b2.n 3 2 (by omega) (q_lk_same _ _ _) rfl fun lv => ?_
  (refine @goW _ ?_; refine goS ?_)
  refine loopN [] n.l.length [1, 2, 3, 4] (fun k => [(4, dI k)]) (fun k => ⟨(b2.n, [dI n.page, dB true, .acc lk1.n k, .acc lv.n k, .sl 0 true []]) :: (b1.n, [dI 0, dB false, .sl 0 true [], .sl 0 true [], .sl 0 true []]) :: (b.n, [dI n.page, dB true, .sl 4 false (n.l.map dC)]) :: S.box, (lv.n, .arr 2 ((n.l.take k).map dV2)) :: (lk1.n, .arr 1 ((n.l.take k).map fun c => dS c.key)) :: S.acc⟩) (fun _ => True) mx (by kernel_rfl) ?_ ?_
  ·(refine @goW _ ?_; exact goT)
  ·intro k hk' _
   have hml : (n.l.take k).length = k := by rw [List.length_take]; omega
   have hm8 : maxLen = 9223372036854775807 := rfl
   (refine @goW _ ?_; refine goS1 @hml ?_)
   refine ⟨fun hlt => ⟨hlt, fun c hc => ⟨by omega, by omega, hlt, fun c2 hc2 => ⟨hlt, fun c3 hc3 => ⟨by omega, by omega, hlt, by rw [w64 (by omega) (by omega)]; omega, ?_⟩⟩⟩⟩, fun hge => ?_⟩
   ·rw [hc] at hc2 hc3
    cases hc2; cases hc3
    have ht1 : n.l.take (k + 1) = n.l.take k ++ [c] := by rw [List.take_add_one, hc]; rfl
    rw [ht1]
    simp (maxDischargeDepth := 12) (maxSteps := 1000000) -implicitDefEqProofs only [go_sem, Nat.reduceAdd, Nat.reduceSub, Nat.reduceMul, Nat.reduceLeDiff, Nat.reduceEqDiff, Nat.reduceGT, Nat.reduceBEq, reduceCtorEq, ↓reduceIte, Int.reduceToNat, Int.reduceLE, Int.reduceLT, Int.reduceNe, Int.reduceEq, List.map_append, List.map_cons, List.map_nil]
   ·rw [List.take_of_length_le (by omega)]
    exact .agg (.cons (.refl _) (.cons (.refl _) (.cons (.refl _) (.cons (.refl _) (.cons (.nil _ _ _) .nil)))))
 | succ d ih =>
  intro n S hn ht
  have hlf := hn.1
  have hl := tot_len n
  have hres : eT n = .agg [dI n.page, dB false, .sl 1 false (n.l.map fun c => dS c.key), .sl 2 false [], .sl 5 false ((n.l.flatMap fun c => c.kid.take 1).map dT)] := by
   show DV.agg _ = _
   rw [kidsOf_br hlf, hlf]; rfl
  rw [hres]
  refine fnS [] mx Tryz.func10 rfl rfl (by kernel_rfl) ?_; (refine @goW _ ?_; refine goS2 @Tryz.ntmps10 @hlf ?_)
  intro b b1 b2
  refine awp_growB b2.n 2 1 (by omega) (q_lk_same _ _ _) rfl fun lk1 => ?_
  (refine @goW _ ?_; refine goS ?_)
  refine awp_growB b2.n 4 5 (by omega) (q_lk_same _ _ _) rfl fun lv => ?_
  (refine @goW _ ?_; refine goS ?_)
  refine loopN [] n.l.length [1, 2, 3, 4] (fun k => [(4, dI k)]) (fun k => ⟨(b2.n, [dI n.page, dB false, .acc lk1.n k, .sl 0 true [], .acc lv.n k]) :: (b1.n, [dI 0, dB false, .sl 0 true [], .sl 0 true [], .sl 0 true []]) :: (b.n, [dI n.page, dB false, .sl 4 false (n.l.map dC)]) :: S.box, (lv.n, .arr 5 (((n.l.take k).flatMap fun c => c.kid.take 1).map dT)) :: (lk1.n, .arr 1 ((n.l.take k).map fun c => dS c.key)) :: S.acc⟩) (fun _ => True) mx (by kernel_rfl) ?_ ?_
  ·(refine @goW _ ?_; refine goS ?_)
   exact .refl _
  ·intro k hk' _
   have hml : (n.l.take k).length = k := by rw [List.length_take]; omega
   have hkl : ((n.l.take k).flatMap fun c => c.kid.take 1).length = k := by
    have : ∀ l : List C, (∀ c, c ∈ l → ∃ k, c.kid = [k]) → (l.flatMap fun c => c.kid.take 1).length = l.length := by
     intro l
     induction l with
     | nil => intro _; rfl
     | cons c l ih2 =>
      intro h
      obtain ⟨k, hk⟩ := h c List.mem_cons_self
      rw [List.flatMap_cons, List.length_append, ih2 fun c hc => h c (List.mem_cons_of_mem _ hc), hk]
      simp; omega
    rw [this _ fun c hc => by obtain ⟨_, kid, hkid, _⟩ := hn.2.2 c (List.mem_of_mem_take hc); exact ⟨kid, hkid⟩, hml]
   have hm8 : maxLen = 9223372036854775807 := rfl
   (refine @goW _ ?_; refine goS2 @hml @hkl ?_)
   refine ⟨fun hlt => ⟨hlt, fun c hc => ⟨by omega, by omega, hlt, fun c2 hc2 => ?_⟩⟩, fun hge => ?_⟩
   ·rw [hc] at hc2
    cases hc2
    obtain ⟨_, kid, hkid, hnd⟩ := hn.2.2 c (List.mem_of_getElem? hc)
    have htk := tot_kid (List.mem_of_getElem? hc) hkid
    have ht1 : n.l.take (k + 1) = n.l.take k ++ [c] := by rw [List.take_add_one, hc]; rfl
    rw [hkid]
    refine ⟨by simp, fun c4 hc4 => ?_⟩
    cases hc4
    refine useQ (ih kid _ hnd (by omega)) ?_
    (refine @goW _ ?_; refine goS2 @hkl (Nat.min_eq_left hk') ?_)
    refine ⟨by omega, by omega, hlt, by rw [w64 (by omega) (by omega)]; omega, ?_⟩
    rw [ht1, List.flatMap_append, List.flatMap_cons, List.flatMap_nil, hkid]
    simp (maxDischargeDepth := 12) (maxSteps := 1000000) -implicitDefEqProofs only [go_sem, Nat.reduceAdd, Nat.reduceSub, Nat.reduceMul, Nat.reduceLeDiff, Nat.reduceEqDiff, Nat.reduceGT, Nat.reduceBEq, reduceCtorEq, ↓reduceIte, Int.reduceToNat, Int.reduceLE, Int.reduceLT, Int.reduceNe, Int.reduceEq, List.map_append, List.map_cons, List.map_nil, List.append_nil, List.take_succ_cons, List.take_zero]
   ·rw [List.take_of_length_le (by omega)]
    exact .agg (.cons (.refl _) (.cons (.refl _) (.cons (.refl _) (.cons (.nil _ _ _) (.cons (.refl _) .nil)))))
def unuN (n : N) : List Int := ((List.range 998).map fun i : Nat => (i : Int) + 2).filter fun p => decide (p ∉ alN n)
def hasRow (l : List Int) : List DV := (List.range 1000).map fun i : Nat => dB (decide ((i : Int) ∈ l))
theorem hasRow_nil : hasRow [] = List.replicate 1000 (.v (.bool false)) := by
 unfold hasRow
 rw [List.eq_replicate_iff]
 refine ⟨by rw [List.length_map, List.length_range], fun x hx => ?_⟩
 obtain ⟨i, _, rfl⟩ := List.mem_map.1 hx
 simp [dB]
theorem ex_row (l : List Int) (i : Nat) (h : i < 1000) (F : DV → Prop) : exK (hasRow l) i F = F (dB (decide ((i : Int) ∈ l))) := by
 unfold exK hasRow
 rw [List.getElem?_map, List.getElem?_range h]
 exact propext ⟨fun ⟨d, e, _, h⟩ => by cases e; exact h, fun h => ⟨_, rfl, rfl, h⟩⟩
theorem hasRow_set (l : List Int) (x : Int) (h0 : 0 ≤ x) (h1 : x < 1000) : (hasRow l).set x.toNat (dB true) = hasRow (l ++ [x]) := by
 unfold hasRow
 apply List.ext_getElem?
 intro i
 rw [List.getElem?_set]
 simp only [List.getElem?_map, List.length_map, List.length_range]
 by_cases hi : i < 1000
 ·rw [List.getElem?_range hi]
  by_cases e : x.toNat = i
  ·have : (i : Int) = x := by omega
   simp [e, hi, this]
  ·have : ¬ (i : Int) = x := by omega
   simp [e, this]
 ·rw [List.getElem?_eq_none (by rw [List.length_range]; omega)]
  have : ¬ x.toNat = i := by omega
  simp [this]
def unuK (L : List Int) (m : Nat) : List Int := ((List.range m).map fun i : Nat => (i : Int) + 2).filter fun p => decide (p ∉ L)
theorem unuK_len (L : List Int) (m : Nat) : (unuK L m).length ≤ m := by
 unfold unuK
 refine Nat.le_trans (List.length_filter_le _ _) ?_
 rw [List.length_map, List.length_range]
 exact Nat.le_refl _
theorem unuK_in {L : List Int} {m : Nat} (h : (m : Int) + 2 ∈ L) : unuK L (m + 1) = unuK L m := by
 unfold unuK
 rw [List.range_succ, List.map_append, List.filter_append]
 simp [h]
theorem unuK_no {L : List Int} {m : Nat} (h : (m : Int) + 2 ∉ L) : unuK L (m + 1) = unuK L m ++ [(m : Int) + 2] := by
 unfold unuK
 rw [List.range_succ, List.map_append, List.filter_append]
 simp [h]
theorem unusedL19 (w0 : W0) (d : Nat) (n : N) (S : St) (hn : Nd d n) (ht : totN n ≤ 131072) (hr : ∀ p, p ∈ alN n → 2 ≤ p ∧ p ≤ 999) : ACall Tryz.prog w0 15 [eN n] S (fun e S' => e = dL (unuN n) ∧ S' = S) := by
 have hpg := fun S => refPagesW w0 d n S hn ht
 rw [pgs_al hn] at hpg
 have hsp := srt_perm (alN n)
 have hal := al_len hn
 have hrg : ∀ p, p ∈ srt (alN n) → 2 ≤ p ∧ p ≤ 999 := fun p hp => hr p (hsp.mem_iff.1 hp)
 have hll : (srt (alN n)).length = (alN n).length := srt_length _
 have hmem : ∀ p, p ∈ srt (alN n) ↔ p ∈ alN n := fun p => hsp.mem_iff
 have hu : unuN n = unuK (srt (alN n)) 998 := by
  unfold unuN unuK
  simp only [hmem]
 rw [hu]
 generalize srt (alN n) = L at *
 refine fnS [2] mx Tryz.func15 rfl rfl (by kernel_rfl) ?_; (refine @goW _ ?_; refine goS1 @Tryz.ntmps15 ?_)
 refine fun b => ⟨by decide, fun l => ?_⟩
 generalize hz : Ob.arr 1 _ = X
 have hX : X = .arr 1 (hasRow []) := by
  rw [hasRow_nil]
  simp only [List.reduceReplicate]
  exact hz.symm
 clear hz
 subst hX
 refine shrK [] [] mx (by kernel_rfl) ?_
 have hhl : ∀ l, (hasRow l).length = 1000 := fun l => by unfold hasRow; rw [List.length_map, List.length_range]
 (refine @goW _ ?_; refine goS ?_)
 refine use1 (hpg _) ?_
 (refine @goW _ ?_; refine goS ?_)
 refine loopN [] L.length [3, 4, 5] (fun k => [(5, dI k)]) (fun k => ⟨(b.n, [dI n.page, dB n.leaf, .sl 4 false (n.l.map dC)]) :: S.box, (l.n, .arr 1 (hasRow (L.take k))) :: S.acc⟩) (fun _ => True) mx (by kernel_rfl) ?_ ?_
 ·(refine @goW _ ?_; exact goT)
 ·intro k hk _
  (refine @goW _ ?_; refine goS1 @hhl ?_)
  refine ⟨fun hlt => ⟨hlt, fun a ha => ?_⟩, fun hge => ?_⟩
  ·have hra := hrg a (List.mem_of_getElem? ha)
   have hs := hasRow_set (L.take k) a (by omega) (by omega)
   have ht1 : L.take (k + 1) = L.take k ++ [a] := by rw [List.take_add_one, ha]; rfl
   refine ⟨by omega, by omega, ?_⟩
   rw [ex_row _ _ (by omega), ht1, ← hs]
   exact ⟨hlt, i_oneV k (by omega), .refl _⟩
  ·rw [List.take_of_length_le (by omega)]
   refine growK 6 1 rfl (by omega) fun lo => ?_
   (refine @goW _ ?_; refine goS ?_)
   refine loopN [] 998 [3, 6, 7] (fun m => [(6, .acc lo.n (unuK L m).length), (7, dI (m + 2 : Nat))]) (fun m => ⟨(b.n, [dI n.page, dB n.leaf, .sl 4 false (n.l.map dC)]) :: S.box, (lo.n, .arr 1 ((unuK L m).map dI)) :: (l.n, .arr 1 (hasRow L)) :: S.acc⟩) (fun _ => True) mx (by kernel_rfl) ?_ ?_
   ·(refine @goW _ ?_; refine goS ?_)
    exact ⟨.refl _, .refl _⟩
   ·intro m hm _
    have hul := unuK_len L m
    have hm8 : maxLen = 9223372036854775807 := rfl
    (refine @goW _ ?_; refine goS1 @hhl ?_)
    have ec : ((m + 2 : Nat) : Int) = (m : Int) + 2 := by omega
    have ew : IntKind.i64.wrap (((m + 2 : Nat) : Int) + 1) = ((m + 1 + 2 : Nat) : Int) := by rw [w64 (by omega) (by omega)]; omega
    refine ⟨fun hlt => ⟨hlt, ?_⟩, fun hge2 => ?_⟩
    ·rw [ex_row _ _ (by omega)]
     by_cases q : ((m + 2 : Nat) : Int) ∈ L
     ·have q2 : (m : Int) + 2 ∈ L := by rw [← ec]; exact q
      rw [decide_eq_true q, unuK_in q2]
      (refine @goW _ ?_; refine goS ?_)
      exact ⟨by omega, ew⟩
     ·have q2 : (m : Int) + 2 ∉ L := by rw [← ec]; exact q
      rw [decide_eq_false q, unuK_no q2, List.length_append, List.map_append]
      (refine @goW _ ?_; refine goS ?_)
      refine ⟨by omega, by omega, by omega, ew, ?_⟩
      rw [ec]
      exact .refl _
    ·have : m = 998 := by omega
     subst this
     exact .refl _
mutual
def plN : N → N
 | .mk p b l => .mk p b (plCs b l)
def plC (b : Bool) : C → C
 | .mk k d ps kid => if b then .mk k d ps [] else .mk k noS [] (plNs kid)
def plCs (b : Bool) : List C → List C
 | [] => []
 | c :: l => plC b c :: plCs b l
def plNs : List N → List N
 | [] => []
 | n :: _ => [plN n]
end
theorem plCs_map (b : Bool) : ∀ l, plCs b l = l.map (plC b)
 | [] => rfl
 | c :: l => by simp only [plCs, List.map_cons, plCs_map b l]
theorem plN_eq (n : N) : plN n = .mk n.page n.leaf (n.l.map (plC n.leaf)) := by
 cases n; simp only [plN, plCs_map]; rfl
theorem plC_leaf (c : C) : plC true c = .mk c.key c.data c.pages [] := by cases c; simp only [plC, if_true]; rfl
theorem plC_br {c : C} {k : N} (h : c.kid = [k]) : plC false c = .mk c.key noS [] [plN k] := by
 cases c with | mk ck cd cp cr =>
 simp only [C.kid] at h; subst h
 simp only [plC, Bool.false_eq_true, if_false, plNs]; rfl
theorem plainL19 (w0 : W0) : ∀ (d : Nat) (n : N) (S : St), Nd d n → totN n ≤ 131072 → ACall Tryz.prog w0 13 [eT n] S (fun e S' => e = eN (plN n) ∧ S' = S) := by
 intro d
 induction d with
 | zero =>
  intro n S hn ht
  have hlf := hn.1
  have hl := tot_len n
  rw [eT_leaf hlf, plN_eq, hlf]
  refine fnS [7] mx Tryz.func13 rfl rfl (by kernel_rfl) ?_; (refine @goW _ ?_; refine goS1 @Tryz.ntmps13 ?_)
  intro b b1 b2
  refine awp_growB b2.n 2 4 (by omega) (q_lk_same _ _ _) rfl fun lo => ?_
  refine shrK [7] [] mx (by kernel_rfl) ?_
  (refine @goW _ ?_; refine goS ?_)
  refine loopN [7] n.l.length [1, 2, 3, 4] (fun k => [(4, dI k)]) (fun k => ⟨(b2.n, [dI n.page, dB true, .acc lo.n k]) :: (b1.n, [dI 0, dB false, .sl 0 true []]) :: (b.n, [dI n.page, dB true, .sl 1 false (n.l.map fun c => dS c.key), .sl 2 false (n.l.map dV2), .sl 5 false []]) :: S.box, (lo.n, .arr 4 (((n.l.take k).map (plC true)).map dC)) :: S.acc⟩) (fun _ => True) mx (by kernel_rfl) ?_ ?_
  ·(refine @goW _ ?_; exact goT)
  ·intro k hk' _
   have hml : (n.l.take k).length = k := by rw [List.length_take]; omega
   have hm8 : maxLen = 9223372036854775807 := rfl
   (refine @goW _ ?_; refine goS1 @hml ?_)
   refine ⟨fun hlt => ⟨hlt, fun a ha b9 => ⟨fun _ => ?_, fun q => absurd hlt q⟩⟩, fun hge => ?_⟩
   ·refine wkBoxK b9.n [dS a.key, dS ByteArray.empty, .sl 0 true [], .sl 3 false []] (ds := [dS a.key, dS ByteArray.empty, .sl 0 true [], .sl 0 true []]) (by (refine @goW _ ?_; exact goT)) (.cons (.refl _) (.cons (.refl _) (.cons (.refl _) (.cons (.nil _ _ _) .nil)))) ?_
    refine Y.ordK [] [] [0, 2, 6, 8, 1, 3, 4, 5, 7, 9, 10, 11, 12, 13, 14] mx (by kernel_rfl) ?_
    have hno : ((k : Int) < 0) = False := eq_false (by omega)
    (refine @goW _ ?_; refine goS2 @hml @hno ?_)
    have htk : ((n.l.take (k + 1)).map (plC true)).map dC = ((n.l.take k).map (plC true)).map dC ++ [dC (.mk a.key a.data a.pages [])] := by
     rw [List.take_add_one, ha, Option.toList_some, List.map_append, List.map_append, List.map_cons, List.map_cons, plC_leaf]; rfl
    rw [htk]
    refine ⟨hlt, fun a1 h1 => ⟨hlt, fun a2 h2 => ?_⟩⟩
    cases getE ha h1
    cases getE ha h2
    rw [dC_eq]
    exact ⟨by omega, by omega, by omega, i_oneV k (by omega), .consB (.refl _)⟩
   ·rw [List.take_of_length_le (by omega)]
    exact .refl _
 | succ d ih =>
  intro n S hn ht
  have hlf := hn.1
  have hl := tot_len n
  have hkid := fun c hc => (hn.2.2 c hc).2.imp fun k h => h.1
  rw [eT_br hlf hkid, plN_eq, hlf]
  unfold brT
  refine fnS [7, 10] mx Tryz.func13 rfl rfl (by kernel_rfl) ?_; (refine @goW _ ?_; refine goS1 @Tryz.ntmps13 ?_)
  intro b b1 b2
  refine awp_growB b2.n 2 4 (by omega) (q_lk_same _ _ _) rfl fun lo => ?_
  refine shrK [7, 10] [] mx (by kernel_rfl) ?_
  (refine @goW _ ?_; refine goS ?_)
  refine loopN [7, 10] n.l.length [1, 2, 3, 4] (fun k => [(4, dI k)]) (fun k => ⟨(b2.n, [dI n.page, dB false, .acc lo.n k]) :: (b1.n, [dI 0, dB false, .sl 0 true []]) :: (b.n, [dI n.page, dB false, .sl 1 false (n.l.map fun c => dS c.key), .sl 2 false [], .sl 5 false (dK n.l)]) :: S.box, (lo.n, .arr 4 (((n.l.take k).map (plC false)).map dC)) :: S.acc⟩) (fun _ => True) mx (by kernel_rfl) ?_ ?_
  ·(refine @goW _ ?_; exact goT)
  ·intro k hk' _
   have hml : (n.l.take k).length = k := by rw [List.length_take]; omega
   have hm8 : maxLen = 9223372036854775807 := rfl
   have hno : ((k : Int) < 0) = False := eq_false (by omega)
   (refine @goW _ ?_; refine goS2 @hml @hno ?_)
   refine ⟨fun hlt => ⟨hlt, fun a ha b9 => ⟨fun _ => ⟨hlt, fun c hc => ?_⟩, fun q => absurd hlt q⟩⟩, fun hge => ?_⟩
   ·cases getE ha hc
    obtain ⟨_, kid, hkid, hnd⟩ := hn.2.2 a (List.mem_of_getElem? ha)
    have htk2 := tot_kid (List.mem_of_getElem? ha) hkid
    have htk : ((n.l.take (k + 1)).map (plC false)).map dC = ((n.l.take k).map (plC false)).map dC ++ [dC (.mk a.key noS [] [plN kid])] := by
     rw [List.take_add_one, ha, Option.toList_some, List.map_append, List.map_append, List.map_cons, List.map_cons, plC_br hkid]; rfl
    rw [htk, kid0_eq hkid]
    have hkc := fun S => ih kid S hnd (by omega)
    generalize plN kid = K at *
    refine use1 (hkc _) ?_
    (refine @goW _ ?_; refine goS ?_)
    refine wkBoxK b9.n [dS a.key, dS ByteArray.empty, .sl 1 false [], .sl 3 false [dN K]] (ds := [dS a.key, dS ByteArray.empty, .sl 0 true [], .sl 3 true [eN K]]) (by (refine @goW _ ?_; exact goT)) (by rw [dN_eq]; exact .cons (.refl _) (.cons (.refl _) (.cons (.nil _ _ _) (.cons (.full _ _ _) .nil)))) ?_
    (refine @goW _ ?_; refine goS ?_)
    refine shrK [] [] mx (by kernel_rfl) ?_
    (refine @goW _ ?_; refine goS1 @hml ?_)
    exact ⟨by omega, by omega, hlt, i_oneV k (by omega), .consB (.refl _)⟩
   ·rw [List.take_of_length_le (by omega)]
    exact .refl _
theorem sameStep (w0 : W0) (n : N) (S : St) (ht : n.l.length ≤ 1048576) (hp : ∀ c, c ∈ n.l → c.pages.length ≤ 1048576) (hk : ∀ c, c ∈ n.l → c.kid = [] ∨ ∃ k, c.kid = [k] ∧ ∀ S, ACall Tryz.prog w0 12 [eN k, eN k] S (fun e S' => e = dB true ∧ S' = S)) :
  ACall Tryz.prog w0 12 [eN n, eN n] S (fun e S' => e = dB true ∧ S' = S) := by
 refine fnS [] mx Tryz.func12 rfl rfl (by kernel_rfl) ?_; (refine @goW _ ?_; refine goS1 @Tryz.ntmps12 ?_)
 intro b b2
 refine loopN [] n.l.length [2, 3, 5] (fun k => [(5, dI k)]) (fun k => ⟨(b2.n, [dI n.page, dB n.leaf, .sl 4 false (n.l.map dC)]) :: (b.n, [dI n.page, dB n.leaf, .sl 4 false (n.l.map dC)]) :: S.box, S.acc⟩) (fun _ => True) mx (by kernel_rfl) ?_ ?_
 ·(refine @goW _ ?_; exact goT)
 ·intro k hk' _
  (refine @goW _ ?_; refine goS ?_)
  refine fun hlt => ⟨hlt, fun c hc b3 => ⟨hlt, fun c2 hc2 b4 => ?_⟩⟩
  cases getE hc hc2
  have hpc := hp c (List.mem_of_getElem? hc)
  refine ⟨fun h => (by rw [eqS_self] at h; cases h), fun _ => ⟨fun h => (by rw [eqS_self] at h; cases h), fun _ => ⟨fun h => h rfl, fun _ => ⟨fun h => h rfl, fun _ => ?_⟩⟩⟩⟩
  refine loopN [] c.pages.length [2, 3, 5, 6, 7, 8] (fun j => [(8, dI j)]) (fun _ => ⟨(b4.n, [dS c.key, dS c.data, .sl 1 false (c.pages.map dI), .sl 3 false (c.kid.map dN)]) :: (b3.n, [dS c.key, dS c.data, .sl 1 false (c.pages.map dI), .sl 3 false (c.kid.map dN)]) :: (b2.n, [dI n.page, dB n.leaf, .sl 4 false (n.l.map dC)]) :: (b.n, [dI n.page, dB n.leaf, .sl 4 false (n.l.map dC)]) :: S.box, S.acc⟩) (fun _ => True) mx (by kernel_rfl) ?_ ?_
  ·(refine @goW _ ?_; exact goT)
  ·intro j hj _
   rcases hk c (List.mem_of_getElem? hc) with hkid | ⟨kd, hkid, hsk⟩
   ·(refine @goW _ ?_; refine goS1 @hkid ?_)
    exact ⟨fun h => ⟨h, fun x hx => ⟨h, fun y hy => (by cases getE hx hy; exact ⟨fun e => e rfl, fun _ => ⟨h, i_oneV j (by omega)⟩⟩)⟩⟩, fun _ => ⟨fun h => absurd h (by omega), fun _ => ⟨hlt, i_oneV k (by omega)⟩⟩⟩
   ·(refine @goW _ ?_; refine goS1 @hkid ?_)
    refine ⟨fun h => ⟨h, fun x hx => ⟨h, fun y hy => (by cases getE hx hy; exact ⟨fun e => e rfl, fun _ => ⟨h, i_oneV j (by omega)⟩⟩)⟩⟩, fun _ => ⟨fun _ => useQ (hsk _) ?_, fun h => absurd (by omega) h⟩⟩
    (refine @goW _ ?_; refine goS ?_)
    exact ⟨hlt, i_oneV k (by omega)⟩
theorem sameR (w0 : W0) : ∀ (d : Nat) (n : N) (S : St), Nd d n → totN n ≤ 131072 → ACall Tryz.prog w0 12 [eN n, eN n] S (fun e S' => e = dB true ∧ S' = S) := by
 intro d
 induction d with
 | zero =>
  intro n S hn ht
  have hlen := tot_len n
  exact sameStep w0 n S (by omega) (fun c hc => by have h1 : c.pages.length ≤ 4 := (hn.2 c hc).1.2.2; omega) fun c hc => .inl (hn.2 c hc).2
 | succ d ih =>
  intro n S hn ht
  have hlen := tot_len n
  refine sameStep w0 n S (by omega) (fun c hc => by have h1 : c.pages.length ≤ 0 := (hn.2.2 c hc).1.2.2; omega) fun c hc => .inr ?_
  obtain ⟨_, k, hk, hkn⟩ := hn.2.2 c hc
  have hkt := tot_kid hc hk
  exact ⟨k, hk, fun S => ih k S hkn (by omega)⟩
theorem tbPutR (w0 : W0) {k : Nat} {n : N} {key val : ByteArray} (h : TB k n) (hk : k ≤ 200) (h1 : key.size ≤ 16) (h2 : val.size ≤ 400) (S : St) : ACall Tryz.prog w0 24 [eN n, dS key, dS val] S (fun e S' => e = eN (Put key val n) ∧ S' = S) := by
 obtain ⟨hr, d, hg, hd, ht⟩ := h
 exact PutW w0 key val h1 h2 d n S (good_nd hg) (by omega)
theorem tbDelR (w0 : W0) {k : Nat} {n : N} {key : ByteArray} (h : TB k n) (hk : k ≤ 200) (S : St) : ACall Tryz.prog w0 23 [eN n, dS key] S (fun e S' => e = .tup [eN (Del key n), dB (findN key n).isSome] ∧ S' = S) := by
 obtain ⟨hr, d, hg, hd, ht⟩ := h
 exact DelW w0 key d n S (good_nd hg) (by omega)
theorem rEm (w0 : W0) (S : St) : ACall Tryz.prog w0 22 [] S (fun e S' => e = eN emN ∧ S' = S) := by
 refine fnS [] mx Tryz.func22 rfl rfl (by kernel_rfl) ?_; (refine @goW _ ?_; refine goS1 @Tryz.ntmps22 ?_)
 intro b
 exact .agg (.cons (.refl _) (.cons (.refl _) (.cons (.nil _ _ _) .nil)))
theorem pl_good : ∀ {d : Nat} {n : N}, Good d n → plN n = n
 | 0, n, h => by
  rw [plN_eq, h.1]
  have : n.l.map (plC true) = n.l := by
   refine (List.map_congr_left fun c hc => ?_).trans (List.map_id _)
   have hk := (h.2.2 c hc).2.2.2.2.2
   rw [plC_leaf, ← hk]; cases c; rfl
  rw [this]
  have := h.1
  cases n with | mk p b l => simp only [N.leaf] at this; subst this; rfl
 | d + 1, n, h => by
  rw [plN_eq, h.1]
  have : n.l.map (plC false) = n.l := by
   refine (List.map_congr_left fun c hc => ?_).trans (List.map_id _)
   obtain ⟨hs, _, k, hk, hg, _⟩ := h.2.2.cell c hc
   rw [plC_br hk, pl_good hg]
   cases c with | mk ck cd cp cr =>
   have h1 : cd = noS := hs.2.1
   have h2 : cp = [] := hs.2.2
   have h3 : cr = [k] := hk
   subst h1; subst h2; subst h3; rfl
  rw [this]
  have := h.1
  cases n with | mk p b l => simp only [N.leaf] at this; subst this; rfl
structure BT (k : Nat) (n : N) : Prop where
 tb : TB k n
 tl : TL n
 nd : (alN n).Nodup
 rng : ∀ p, p ∈ alN n → 2 ≤ p ∧ p ≤ 999
theorem bt_treeL {k : Nat} {n : N} (h : BT k n) (hk : k ≤ 116) : TreeL n := by
 obtain ⟨hr, d, hg, hd, ht⟩ := h.tb
 exact ⟨h.tl, by omega, fun e he => by have := nd_inj he (good_nd hg); omega⟩
theorem bt_em : BT 0 emN := ⟨tb_em 0, ⟨em_root, laid_empty, pz_em⟩, List.nodup_nil, fun p hp => (by cases hp)⟩
theorem nodup_count {l m : List Int} (h : ∀ p, m.count p ≤ l.count p) (hl : l.Nodup) : m.Nodup := List.nodup_iff_count.2 fun p => Nat.le_trans (h p) (List.nodup_iff_count.1 hl p)
theorem mem_count {l m : List Int} (h : ∀ p, m.count p ≤ l.count p) {p : Int} (hp : p ∈ m) : p ∈ l := List.count_pos_iff.1 (Nat.lt_of_lt_of_le (List.count_pos_iff.2 hp) (h p))
theorem bt_put {k : Nat} {n : N} {key val : ByteArray} (h : BT k n) (hk : k ≤ 116) (h0 : key ≠ noS) (h1 : key.size ≤ 16) (h2 : val.size ≤ 400) : BT (k + 1) (Put key val n) :=
 have hc := ct_put (val := val) h.tl h1 h2
 ⟨tb_put h.tb hk h0 h1 h2, tl_put h.tl h0 h1 h2, nodup_count hc h.nd, fun p hp => h.rng p (mem_count hc hp)⟩
theorem bt_del {k : Nat} {n : N} {key : ByteArray} (h : BT k n) (hk : k ≤ 116) : BT (k + 1) (Del key n) :=
 have hc := ct_del (key := key) h.tl
 ⟨tb_del h.tb hk, tl_del h.tl, nodup_count hc h.nd, fun p hp => h.rng p (mem_count hc hp)⟩
theorem bt_lay {k : Nat} {n : N} {at_ : List Int} (h : BT k n) (hm : MayC n at_) : BT k (layN n (at_, [])).1 := by
 obtain ⟨hr, d, hg, hd, ht⟩ := h.tb
 have hn := good_nd hg
 have hz : ∀ p, p ∈ at_ → p ≠ 0 := fun p hp => by have := hm.2.1 p (List.mem_append_left _ hp); omega
 have hfull := lay_full (q := (at_, [])) hn h.tl.laid hm.2.2 hz
 have hal := lay_al (q := (at_, [])) hn hm.2.2 hz
 have hsub : (at_.take (frT n) ++ alN n).Sublist (at_ ++ alN n) := (List.take_sublist _ _).append (List.Sublist.refl _)
 refine ⟨⟨root_lay _ hr, d, good_lay _ hg, hd, by rw [tot_lay _ hn]; exact ht⟩, ⟨root_lay _ hr, full_laid (nd_lay _ hn) hfull, fun e => Classical.not_not.1 fun z => (full_page (nd_lay _ hn) hfull).1 z e⟩, ?_, fun p hp => ?_⟩
 ·exact (hal.trans List.perm_append_comm).nodup_iff.2 (hm.1.sublist hsub)
 ·exact hm.2.1 p (hsub.subset ((hal.trans List.perm_append_comm).mem_iff.1 hp))
structure S19 where
 key : ByteArray
 size : Int
 lay : Bool
@[go_sem] def dS19 (s : S19) : DV := .agg [dS s.key, dI s.size, dB s.lay]
noncomputable def layU (n : N) : N := if mayV n (unuN n) then (layN n (unuN n, [])).1 else n
theorem unuN_len (n : N) : (unuN n).length ≤ 998 := by
 unfold unuN
 refine Nat.le_trans (List.length_filter_le _ _) ?_
 rw [List.length_map, List.length_range]
 exact Nat.le_refl _
theorem layRO_U (n : N) : ∃ x y z, layRO n (unuN n) = .tup [eN (layU n), x, y, dB z] := by
 unfold layRO layU
 split
 ·exact ⟨_, _, _, rfl⟩
 ·exact ⟨_, _, _, rfl⟩
theorem bt_layU {k : Nat} {n : N} (h : BT k n) : BT k (layU n) := by
 unfold layU
 split
 ·rename_i q
  refine bt_lay h (Classical.byContradiction fun c => ?_)
  rw [mayV_f c] at q
  cases q
 ·exact h
theorem bt_mono {k m : Nat} {n : N} (h : BT k n) (hm : k ≤ m) : BT m n := ⟨tb_mono h.tb hm, h.tl, h.nd, h.rng⟩
theorem built19 (w0 : W0) (l : List S19) (S : St) (hl : l.length ≤ 1048576) : ACall Tryz.prog w0 8 [.sl 3 false (l.map dS19)] S (fun d S' => ∃ (n : N) (b : Bool), d = .tup [eN n, dB b] ∧ BT 100 n ∧ S' = S) := by
 refine fnP [8, 11, 13] mx Tryz.func8 rfl rfl (by kernel_rfl) ?_; (refine @goW _ ?_; refine goS1 @Tryz.ntmps8 ?_)
 intro b
 refine use1 (rEm w0 _) ?_
 (refine @goW _ ?_; refine goS ?_)
 intro b2
 refine loopK [8, 11, 13] [0, 2, 4, 5] (fun s : N × Nat => [(5, dI s.2)]) (fun s => ⟨(b2.n, [dI s.1.page, dB s.1.leaf, .sl 4 false (s.1.l.map dC)]) :: (b.n, [dI 0, dB false, .sl 0 true []]) :: S.box, S.acc⟩) (fun s => s.2 ≤ l.length ∧ s.2 ≤ 100 ∧ BT s.2 s.1) (fun s => l.length - s.2) (emN, 0) mx (by kernel_rfl) ?_ ?_
 ·(refine @goW _ ?_; refine goS ?_)
  exact ⟨Nat.zero_le _, bt_em⟩
 ·rintro ⟨n, k⟩ ⟨h1, h2, h3⟩
  simp only at h1 h2 h3
  have fin : ∀ (n : N) (b : Bool) (S S' : St), BT 100 n → Aml.Sub S S' → ∃ d' S'', Wk (.tup [eN n, dB b]) d' ∧ Aml.Sub S'' S' ∧ ∃ (n : N) (b : Bool), d' = .tup [eN n, dB b] ∧ BT 100 n ∧ S'' = S := fun n b S S' h1 h2 => ⟨_, _, .refl _, h2, n, b, rfl, h1, rfl⟩
  (refine @goW _ ?_; refine goS ?_)
  refine ⟨fun hlt => ⟨hlt, fun a ha => ⟨fun e1 => ?_, fun e1 => ⟨hlt, fun a2 ha2 => ?_⟩⟩⟩, fun hge => ?_⟩
  ·exact fin n false S _ (bt_mono h3 h2) (.consB (.consB (.refl _)))
  ·cases getE ha ha2
   refine ⟨fun e2 => ?_, fun e2 => ⟨hlt, fun a3 ha3 => ?_⟩⟩
   ·exact fin n false S _ (bt_mono h3 h2) (.consB (.consB (.refl _)))
   ·cases getE ha ha3
    refine ⟨fun e3 => ?_, fun e3 => ⟨fun e4 => ?_, fun e4 => ?_⟩⟩
    ·exact fin n false S _ (bt_mono h3 h2) (.consB (.consB (.refl _)))
    ·exact fin n false S _ (bt_mono h3 h2) (.consB (.consB (.refl _)))
    ·refine ⟨hlt, fun a4 ha4 => ?_⟩
     cases getE ha ha4
     refine ⟨fun e5 => ?_, fun e5 => ?_⟩
     ·refine Y.ordK [] [] [0, 1, 2, 3, 4, 5, 6, 7, 8, 9, 10, 11, 12, 13] mx (by kernel_rfl) ?_
      (refine @goW _ ?_; refine goS ?_)
      obtain ⟨hr, d, hg, hd, ht⟩ := h3.tb
      have wun := fun T => unusedL19 w0 d n T (good_nd hg) (by omega) h3.rng
      have wlay := fun T => LayRG w0 n (unuN n) T (bt_treeL h3 (by omega)) (by have := unuN_len n; omega)
      have hM := bt_layU h3
      obtain ⟨x, y, z, hR⟩ := layRO_U n
      rw [hR] at wlay
      generalize layU n = M at *
      refine Y.useO (fun T _ => wun T) ?_
      (refine @goW _ ?_; refine goS ?_)
      refine Y.useO (fun T _ => wlay T) ?_
      (refine @goW _ ?_; refine goS ?_)
      intro b8
      refine ⟨hlt, fun a5 ha5 => ?_⟩
      cases getE ha ha5
      refine ⟨fun e6 => ?_, fun e6 => ?_⟩
      ·refine Y.ordK [] [] [1, 2, 3, 4, 0, 5, 6, 7, 8, 9, 10, 11, 12] mx (by kernel_rfl) ?_
       (refine @goW _ ?_; refine goS ?_)
       refine ⟨hlt, fun a6 ha6 => ?_⟩
       cases getE ha ha6
       refine Y.useO (fun T _ => tbDelR w0 hM.tb (by omega) T) ?_
       (refine @goW _ ?_; refine goS ?_)
       exact fun b9 => ⟨(Del a.key M, k + 1), ⟨hlt, by show k + 1 ≤ 100; omega, bt_del hM (by omega)⟩, by show l.length - (k + 1) < l.length - k; omega, i_oneV k (by omega), .consB (.consB (.refl _))⟩
      ·refine Y.ordK [13] [14] [1, 2, 3, 4, 6, 7, 8, 9, 0, 5, 10, 11, 12, 13, 14] mx (by kernel_rfl) ?_
       (refine @goW _ ?_; refine goS ?_)
       refine ⟨hlt, fun a6 ha6 => ⟨hlt, fun a7 ha7 => ?_⟩⟩
       cases getE ha ha6
       cases getE ha ha7
       have hk0 : a.key ≠ noS := fun e => by rw [e] at e1; exact absurd e1 (by decide)
       have hv0 : (strOfNums (List.replicate a.size.toNat 0)).size ≤ 400 := by rw [strOfNums_size, List.length_replicate]; omega
       refine ⟨by omega, by omega, by omega, use1 (tbPutR w0 (key := a.key) (val := strOfNums (List.replicate a.size.toNat 0)) hM.tb (by omega) (by omega) hv0 _) ?_⟩
       (refine @goW _ ?_; refine goS ?_)
       exact ⟨(Put a.key (strOfNums (List.replicate a.size.toNat 0)) M, k + 1), ⟨hlt, by show k + 1 ≤ 100; omega, bt_put hM (by omega) hk0 (by omega) hv0⟩, by show l.length - (k + 1) < l.length - k; omega, i_oneV k (by omega), .consB (.refl _)⟩
     ·refine ⟨hlt, fun a5 ha5 => ?_⟩
      cases getE ha ha5
      refine ⟨fun e6 => ?_, fun e6 => ?_⟩
      ·refine Y.ordK [] [] [1, 2, 3, 4, 0, 5, 6, 7, 8, 9, 10, 11, 12] mx (by kernel_rfl) ?_
       (refine @goW _ ?_; refine goS ?_)
       refine ⟨hlt, fun a6 ha6 => ?_⟩
       cases getE ha ha6
       refine Y.useO (fun T _ => tbDelR w0 h3.tb (by omega) T) ?_
       (refine @goW _ ?_; refine goS ?_)
       exact fun b9 => ⟨(Del a.key n, k + 1), ⟨hlt, by show k + 1 ≤ 100; omega, bt_del h3 (by omega)⟩, by show l.length - (k + 1) < l.length - k; omega, i_oneV k (by omega), .consB (.refl _)⟩
      ·refine Y.ordK [13] [14] [1, 2, 3, 4, 6, 7, 8, 9, 0, 5, 10, 11, 12, 13, 14] mx (by kernel_rfl) ?_
       (refine @goW _ ?_; refine goS ?_)
       refine ⟨hlt, fun a6 ha6 => ⟨hlt, fun a7 ha7 => ?_⟩⟩
       cases getE ha ha6
       cases getE ha ha7
       have hk0 : a.key ≠ noS := fun e => by rw [e] at e1; exact absurd e1 (by decide)
       have hv0 : (strOfNums (List.replicate a.size.toNat 0)).size ≤ 400 := by rw [strOfNums_size, List.length_replicate]; omega
       refine ⟨by omega, by omega, by omega, use1 (tbPutR w0 (key := a.key) (val := strOfNums (List.replicate a.size.toNat 0)) h3.tb (by omega) (by omega) hv0 _) ?_⟩
       (refine @goW _ ?_; refine goS ?_)
       exact ⟨(Put a.key (strOfNums (List.replicate a.size.toNat 0)) n, k + 1), ⟨hlt, by show k + 1 ≤ 100; omega, bt_put h3 (by omega) hk0 (by omega) hv0⟩, by show l.length - (k + 1) < l.length - k; omega, i_oneV k (by omega), .refl _⟩
  ·exact fin n true S _ (bt_mono h3 h2) (.consB (.consB (.refl _)))
def aK : ByteArray := ⟨#[107]⟩
def aV : ByteArray := ⟨#[118]⟩
theorem aw_put : Put aK aV emN = .mk 0 true [.mk aK aV [] []] := by kernel_rfl
theorem aw_bt : BT 1 (Put aK aV emN) := bt_put bt_em (by omega) (by decide) (by decide) (by decide)
theorem aw_al : alN (.mk 0 true [.mk aK aV [] []]) = [] := by kernel_rfl
theorem aw_fr : frT (.mk 0 true [.mk aK aV [] []]) = 1 := by kernel_rfl
theorem aw_may : mayV (.mk 0 true [.mk aK aV [] []]) [5, 6] = true := mayV_t (by
 unfold MayC
 rw [aw_al, aw_fr]
 decide)
theorem aw_no : mayV (.mk 0 true [.mk aK aV [] []]) [] = false := mayV_f (by
 unfold MayC
 rw [aw_al, aw_fr]
 decide)
theorem aw_lay : layN (.mk 0 true [.mk aK aV [] []]) ([5, 6], []) = (.mk 5 true [.mk aK aV [] []], ([6], [(5, pageS true [.mk aK aV [] []])])) := by kernel_rfl
theorem awake19 (w0 : W0) (hgl : GlobC w0) (S : St) : ACall Tryz.prog w0 7 [] S (fun d S' => d = dB true ∧ S' = S) := by
 have wput := fun S => tbPut w0 (key := aK) (val := aV) (tb_em 0) (by omega) (by decide) (by decide) S
 have hbt := aw_bt
 rw [aw_put] at hbt wput
 have hL := fun S => LayG w0 hgl (.mk 0 true [.mk aK aV [] []]) [5, 6] S (bt_treeL hbt (by omega)) (by decide)
 have hN := fun S => LayG w0 hgl (.mk 0 true [.mk aK aV [] []]) [] S (bt_treeL hbt (by omega)) (by decide)
 unfold layO at hL hN
 rw [aw_may, aw_lay] at hL
 rw [aw_no] at hN
 have hsz : (pageS true [C.mk aK aV [] []]).size = 128 := by kernel_rfl
 generalize pageS true [C.mk aK aV [] []] = PG at *
 simp only [if_true, Bool.false_eq_true, if_false] at hL hN
 have hpl : (bY PG).length = 128 := by rw [bY_len]; exact hsz
 unfold aK aV at *
 refine fnS [] mx Tryz.func7 rfl rfl (by kernel_rfl) ?_; (refine @goW _ ?_; refine goS1 @Tryz.ntmps7 ?_)
 refine use1 (emP w0 _) ?_
 (refine @goW _ ?_; refine goS ?_)
 refine use1 (wput _) ?_
 (refine @goW _ ?_; refine goS ?_)
 intro b1
 refine use1 (hL _) ?_ (.cons (.refl _) (.cons (Wk.full _ _ _) .nil))
 (refine @goW _ ?_; refine goS ?_)
 intro b2
 refine use1 (hN _) ?_ (.cons (.refl _) (.cons (Wk.nil _ _ _) .nil))
 (refine @goW _ ?_; refine goS1 @hpl ?_)
 intro b3
 refine use1 (ints3 w0 [6] [6] _ (by decide)) ?_ (.cons (.refl _) (.cons (Wk.full _ _ _) .nil))
 (refine @goW _ ?_; refine goS ?_)
 trivial
def WrO (k : Nat) (q q' : LS) : Prop := q'.1 = q.1.drop k ∧ ∃ w : List (Int × ByteArray), q'.2 = q.2 ++ w ∧ w.map (·.1) = q.1.take k ∧ ∀ x, x ∈ w → x.2.size = 128
theorem WrO.none (q : LS) : WrO 0 q q := ⟨by simp, [], by simp, by simp, fun x hx => by cases hx⟩
theorem WrO.trans {k m : Nat} {q q1 q2 : LS} (h : WrO k q q1) (h' : WrO m q1 q2) : WrO (k + m) q q2 := by
 obtain ⟨a1, w, a2, a3, a4⟩ := h
 obtain ⟨b1, v, b2, b3, b4⟩ := h'
 exact ⟨by rw [b1, a1, List.drop_drop], w ++ v, by rw [b2, a2, List.append_assoc], by rw [List.map_append, a3, b3, a1, List.take_add], fun x hx => (List.mem_append.1 hx).elim (a4 x) (b4 x)⟩
theorem WrO.page {q : LS} {b : ByteArray} (hq : 1 ≤ q.1.length) (hb : b.size = 128) : WrO 1 q (q.1.tail, q.2 ++ [(q.1.headD 0, b)]) := by
 obtain ⟨l, w⟩ := q
 cases l with
 | nil => simp at hq
 | cons a l => exact ⟨rfl, [(a, b)], rfl, rfl, fun x hx => by rw [List.mem_singleton.1 hx]; exact hb⟩
theorem need_lt {z i : Nat} (h : i < need (z : Int)) : 119 * i < z := by
 unfold need at h
 split at h <;> omega
theorem WrO.value (d : ByteArray) (ps : List Int) (q : LS) (hq : (if ps = [] then need (d.size : Int) else 0) ≤ q.1.length) : WrO (if ps = [] then need (d.size : Int) else 0) q (layV d ps q).2 := by
 unfold layV
 by_cases h : need (d.size : Int) = 0 ∨ ps ≠ []
 ·rw [if_pos h]
  have : (if ps = [] then need (d.size : Int) else 0) = 0 := by
   by_cases e : ps = []
   ·rw [if_pos e]; exact h.resolve_right fun f => f e
   ·rw [if_neg e]
  rw [this]; exact .none q
 ·rw [if_neg h]
  have hp : ps = [] := Classical.not_not.1 fun e => h (.inr e)
  rw [if_pos hp] at hq ⊢
  have hl : (q.1.take (need (d.size : Int))).length = need (d.size : Int) := by rw [List.length_take]; omega
  refine ⟨rfl, _, rfl, ?_, fun x hx => ?_⟩
  ·refine List.map_fst_zip ?_
   unfold chainS; rw [List.length_map, List.length_range]; exact Nat.le_refl _
  ·have hx2 := (List.of_mem_zip (a := x.1) (b := x.2) hx).2
   unfold chainS at hx2
   rw [hl] at hx2
   obtain ⟨i, hi, e⟩ := List.mem_map.1 hx2
   rw [← e]
   refine pack_size 3 ?_
   have h1 := chCell_size (v := d) (at_ := q.1.take (need (d.size : Int))) (need_lt (List.mem_range.1 hi))
   unfold sizS
   rw [List.map_cons, List.map_nil, List.sum_cons, List.sum_nil, h1]
   unfold partI
   omega
theorem layCs_wrO {b : Bool} : ∀ {l : List C} {q : LS}, (∀ c, c ∈ l → ∀ q' : LS, rfC b c ≤ q'.1.length → (∀ x, x ∈ q'.1 → x ∈ q.1) → WrO (rfC b c) q' (layC b c q').2) → rfS b l ≤ q.1.length → WrO (rfS b l) q (layCs b l q).2
 | [], q, _, _ => by simp only [layCs, rfS, List.map_nil, List.sum_nil]; exact .none q
 | c :: l, q, h, hq => by
  have e : rfS b (c :: l) = rfC b c + rfS b l := by unfold rfS; rw [List.map_cons, List.sum_cons]
  rw [e] at hq ⊢
  have h1 := h c List.mem_cons_self q (by omega) fun x hx => hx
  have hd := h1.1
  simp only [layCs]
  refine h1.trans (layCs_wrO (fun c hc q' h2 h3 => h c (List.mem_cons_of_mem _ hc) q' h2 fun x hx => ?_) (by rw [hd, List.length_drop]; omega))
  have := h3 x hx
  rw [hd] at this
  exact List.mem_of_mem_drop this
theorem kid_two : ∀ {d : Nat} {kid : N}, Good d kid → Fits kid → kid.leaf = true ∨ 2 ≤ kid.l.length
 | 0, kid, hkg, _ => .inl hkg.1
 | d + 1, kid, hkg, hkf => by
  refine .inr ?_
  have h30 := hkf.1
  have hsz := good_sizes hkg
  unfold sizesN at h30 hsz
  match hm : kid.l with
  | [] => rw [hm] at h30; simp at h30
  | [x] =>
   rw [hm] at h30 hsz
   have := hsz _ (List.mem_map_of_mem List.mem_cons_self)
   simp only [List.map_cons, List.map_nil, List.sum_cons, List.sum_nil] at h30 this
   rw [if_neg (by omega)] at this
   omega
  | x :: y :: r => simp
theorem layN_wrO : ∀ (d : Nat) {n : N} {q : LS}, Good d n → LaidP n → (sizesN n).sum ≤ 122 → (n.leaf = true ∨ 2 ≤ n.l.length) → frT n ≤ q.1.length → (∀ x, x ∈ q.1 → 2 ≤ x ∧ x ≤ 999) → (∀ p, p ∈ alN n → 2 ≤ p ∧ p ≤ 999) → WrO (frT n) q (layN n q).2 := by
 have fin : ∀ (d : Nat) {n : N} {q : LS}, Good d n → LaidP n → (sizesN n).sum ≤ 122 → (n.leaf = true ∨ 2 ≤ n.l.length) → frT n ≤ q.1.length → (∀ x, x ∈ q.1 → 2 ≤ x ∧ x ≤ 999) → (∀ p, p ∈ alN n → 2 ≤ p ∧ p ≤ 999) →
   (∀ c, c ∈ n.l → ∀ q' : LS, rfC n.leaf c ≤ q'.1.length → (∀ x, x ∈ q'.1 → x ∈ q.1) → WrO (rfC n.leaf c) q' (layC n.leaf c q').2) → WrO (frT n) q (layN n q).2 := by
  intro d n q hg hla hs h2 hf hr hp h
  have hn := good_nd hg
  have h8 := lay_put8 (q := q) hg hla hs h2 hf hr hp
  rw [frT_eq hn] at hf
  rw [layN_eq, frT_eq hn]
  by_cases hz0 : n.page ≠ 0
  ·rw [if_pos hz0, if_pos (show n.page ≠ 0 ∨ (n.leaf = true ∧ n.l = []) from .inl hz0)]; exact .none q
  ·rw [if_neg hz0] at hf
   rw [if_neg hz0]
   by_cases hz : n.leaf = true ∧ n.l = []
   ·rw [if_pos hz, if_pos (show n.page ≠ 0 ∨ (n.leaf = true ∧ n.l = []) from .inr hz)]; exact .none q
   ·rw [if_neg hz] at hf
    rw [if_neg hz, if_neg (show ¬ (n.page ≠ 0 ∨ (n.leaf = true ∧ n.l = [])) from fun e => e.elim hz0 hz), Nat.add_comm]
    have hw := layCs_wrO (q := q) h (by omega)
    refine hw.trans (WrO.page (by rw [hw.1, List.length_drop]; omega) ?_)
    exact pack_size _ (h8 fun e => e.elim hz0 hz).fits
 intro d
 induction d with
 | zero =>
  intro n q hg hla hs h2 hf hr hp
  refine fin 0 hg hla hs h2 hf hr hp fun c hc q' hq' _ => ?_
  rw [hg.1] at hq' ⊢
  rw [layC_leaf]
  exact WrO.value c.data c.pages q' hq'
 | succ d ih =>
  intro n q hg hla hs h2 hf hr hp
  refine fin (d + 1) hg hla hs h2 hf hr hp fun c hc q' hq' hsub => ?_
  obtain ⟨hsh, _, kid, hkid, hkg, hkf⟩ := hg.2.2.cell c hc
  have hrc : rfC false c = frT kid := by rw [← kid0_eq hkid]; rfl
  have hal : ∀ p, p ∈ alN kid → p ∈ alN n := fun p hp => by
   rw [alN_eq n, hg.1]
   exact List.mem_append_right _ (List.mem_flatMap.2 ⟨c, hc, by rw [alC_br hkid]; exact List.mem_append_right _ hp⟩)
  rw [hg.1] at hq' ⊢
  rw [hrc] at hq' ⊢
  rw [layC_br hkid]
  refine ih hkg ?_ hkf.2 (kid_two hkg hkf) hq' (fun x hx => hr x (hsub x hx)) fun p h => hp p (hal p h)
  cases hla with | mk _ _ _ h3 => exact h3 hg.1 c hc kid hkid
theorem bt_wr {k : Nat} {n : N} {at_ : List Int} (h : BT k n) (hm : MayC n at_) : (layN n (at_, [])).2.1 = at_.drop (frT n) ∧ (layN n (at_, [])).2.2.map (·.1) = at_.take (frT n) ∧ ∀ x, x ∈ (layN n (at_, [])).2.2 → x.2.size = 128 := by
 obtain ⟨d, hg, hs, h2⟩ := h.tl.root
 obtain ⟨a1, w, a2, a3, a4⟩ := layN_wrO d (q := (at_, [])) hg h.tl.laid hs h2 hm.2.2 (fun x hx => hm.2.1 x (List.mem_append_left _ hx)) fun x hx => hm.2.1 x (List.mem_append_right _ hx)
 rw [List.nil_append] at a2
 rw [a2]
 exact ⟨a1, a3, a4⟩
theorem unu_mem {n : N} {p : Int} (h : p ∈ unuN n) : (2 ≤ p ∧ p ≤ 999) ∧ p ∉ alN n := by
 unfold unuN at h
 obtain ⟨h1, h2⟩ := List.mem_filter.1 h
 obtain ⟨i, hi, rfl⟩ := List.mem_map.1 h1
 have := List.mem_range.1 hi
 exact ⟨by omega, of_decide_eq_true h2⟩
theorem unu_nodup (n : N) : (unuN n).Nodup := by
 unfold unuN
 refine List.Pairwise.sublist List.filter_sublist ?_
 rw [List.pairwise_map]
 refine List.Pairwise.imp (fun {a b} h e => h ?_) List.nodup_range
 omega
theorem unu_may {k : Nat} {n : N} (h : BT k n) {m : Nat} (hm : frT n ≤ m) (hl : frT n ≤ (unuN n).length) : MayC n ((unuN n).take m) := by
 refine ⟨List.nodup_append.2 ⟨(unu_nodup n).sublist (List.take_sublist _ _), h.nd, fun a ha b hb e => ?_⟩, fun p hp => ?_, by rw [List.length_take]; omega⟩
 ·subst e
  exact (unu_mem (List.mem_of_mem_take ha)).2 hb
 ·rcases List.mem_append.1 hp with hp | hp
  ·exact (unu_mem (List.mem_of_mem_take hp)).1
  ·exact h.rng p hp
theorem unu_may0 {k : Nat} {n : N} (h : BT k n) (hl : frT n ≤ (unuN n).length) : MayC n (unuN n) := by
 have := unu_may h (m := (unuN n).length) hl hl
 rwa [List.take_length] at this
end Go.Proofs.YtpcmnebpnpgcmaaGreatDoor
