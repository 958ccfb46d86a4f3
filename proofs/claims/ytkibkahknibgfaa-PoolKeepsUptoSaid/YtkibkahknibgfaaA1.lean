/-
  A small logic over the library's walk: abstract values, the relation to the machine's values, a store of exclusive objects, and the rules for control. By an AI agent.
-/
import Derived.WalkKit
namespace Aml
open Go Go.RowKit
set_option linter.unusedVariables false
set_option linter.unusedSimpArgs false

/-- Abstract values: what a temporary holds, without addresses of immutable data. -/
inductive DV where
  | v (u : Value)
  | sl (s : Nat) (full : Bool) (xs : List DV)
  | agg (ds : List DV)
  | tup (ds : List DV)
  | ifc (t : TypeId) (d : DV)
  | acc (l n : Nat)
  | ip (ds : List DV)
  | ap (l n s i o : Nat)
  | any
  deriving Inhabited

def ud : DV := .tup []
/-- May it lie in memory? -/
def okE : DV → Bool
  | .any => false
  | .tup _ => false
  | _ => true
def cd : DV → List DV
  | .agg ds => ds
  | d => [d]

/-- What is known for good: immutable cells; what a named growing slice was at each length. -/
structure Gh where
  imm : Nat → Nat → Option Value
  acc : Nat → Nat → Option Value

structure Gh.le (g h : Gh) : Prop where
  imm : ∀ b i u, g.imm b i = some u → h.imm b i = some u
  acc : ∀ l n u, g.acc l n = some u → h.acc l n = some u

theorem Gh.le.refl (g : Gh) : g.le g := ⟨fun _ _ _ h => h, fun _ _ _ h => h⟩
theorem Gh.le.trans {a b c : Gh} (h : a.le b) (k : b.le c) : a.le c := ⟨fun _ _ _ x => k.imm _ _ _ (h.imm _ _ _ x), fun _ _ _ x => k.acc _ _ _ (h.acc _ _ _ x)⟩

inductive Rep (g : Gh) : DV → Value → Prop
  | v (u : Value) (h : u.oneCell' = true) : Rep g (.v u) u
  | nil (s : Nat) (f : Bool) (o : Option Addr) (c : Nat) (hc : f = true → c = 0) : Rep g (.sl s f []) (.slice o 0 c)
  | sl (s : Nat) (f : Bool) (xs : List DV) (b o c : Nat) (us : List Value) (hl : xs.length = us.length) (hf : f = true → c = us.length) (hc : us.length ≤ c) (hm : c ≤ maxLen)
      (hr : ∀ (i : Nat) (d : DV) (u : Value), xs[i]? = some d → us[i]? = some u → Rep g d u) (hz : ∀ (i : Nat) (u : Value), us[i]? = some u → u.cells.size = s) (h1 : ∀ (u : Value), u ∈ us → ∀ x, x ∈ u.cells.toList → x.oneCell' = true)
      (hi : ∀ (i : Nat) (u : Value) (j : Nat) (x : Value), us[i]? = some u → u.cells[j]? = some x → g.imm b (o + i * s + j) = some x) : Rep g (.sl s f xs) (.slice (some ⟨b, o, none⟩) us.length c)
  | agg (ds : List DV) (us : List Value) (hl : ds.length = us.length) (hr : ∀ (i : Nat) (d : DV) (u : Value), ds[i]? = some d → us[i]? = some u → Rep g d u) (h1 : ∀ u, u ∈ us → u.oneCell' = true) : Rep g (.agg ds) (.agg us.toArray)
  | tup (ds : List DV) (us : List Value) (hl : ds.length = us.length) (hr : ∀ (i : Nat) (d : DV) (u : Value), ds[i]? = some d → us[i]? = some u → Rep g d u) : Rep g (.tup ds) (.tuple us.toArray)
  | ifc (t : TypeId) (d : DV) (u : Value) (h : Rep g d u) : Rep g (.ifc t d) (.iface t u)
  | acc (l n : Nat) (o : Option Addr) (c : Nat) (h : g.acc l n = some (.slice o n c)) : Rep g (.acc l n) (.slice o n c)
  | ip (ds : List DV) (b o : Nat) (us : List Value) (hl : ds.length = us.length) (hr : ∀ (i : Nat) (d : DV) (u : Value), ds[i]? = some d → us[i]? = some u → Rep g d u) (h1 : ∀ u, u ∈ us → u.oneCell' = true)
      (hi : ∀ (j : Nat) (x : Value), us[j]? = some x → g.imm b (o + j) = some x) : Rep g (.ip ds) (.pointer (some ⟨b, o, none⟩))
  | ap (l n s i o b q c : Nat) (h : g.acc l n = some (.slice (some ⟨b, q, none⟩) n c)) : Rep g (.ap l n s i o) (.pointer (some ⟨b, q + i * s + o, none⟩))
  | any (u : Value) : Rep g .any u

theorem rep_any (g : Gh) (u : Value) : Rep g .any u := .any u
theorem Rep.mono {g h : Gh} (k : g.le h) {d : DV} {u : Value} (r : Rep g d u) : Rep h d u := by
  induction r with
  | v u h => exact .v u h
  | nil s f o c hc => exact .nil s f o c hc
  | sl s f xs b o c us hl hf hc hm hr hz h1 hi ih => exact .sl s f xs b o c us hl hf hc hm ih hz h1 fun i u j x h1 h2 => k.imm _ _ _ (hi i u j x h1 h2)
  | agg ds us hl hr h1 ih => exact .agg ds us hl ih h1
  | tup ds us hl hr ih => exact .tup ds us hl ih
  | ifc t d u _ ih => exact .ifc t d u ih
  | acc l n o c h => exact .acc l n o c (k.acc _ _ _ h)
  | ip ds b o us hl hr h1 hi ih => exact .ip ds b o us hl ih h1 fun j x h => k.imm _ _ _ (hi j x h)
  | ap l n s i o b q c h => exact .ap l n s i o b q c (k.acc _ _ _ h)
  | any u => exact .any u

theorem rep_ud (g : Gh) : Rep g ud undef := Rep.tup (g := g) [] [] rfl (by intro i d u h; simp at h)

/-- Pointwise. -/
structure RepL (g : Gh) (ds : List DV) (us : List Value) : Prop where
  len : ds.length = us.length
  at_ : ∀ (i : Nat) (d : DV) (u : Value), ds[i]? = some d → us[i]? = some u → Rep g d u

theorem RepL.mono {g h : Gh} (k : g.le h) {ds : List DV} {us : List Value} (r : RepL g ds us) : RepL h ds us := ⟨r.len, fun i d u h1 h2 => (r.at_ i d u h1 h2).mono k⟩
theorem RepL.nil (g : Gh) : RepL g [] [] := ⟨rfl, fun i d u h => by simp at h⟩
theorem RepL.cons {g : Gh} {d : DV} {u : Value} {ds : List DV} {us : List Value} (h : Rep g d u) (r : RepL g ds us) : RepL g (d :: ds) (u :: us) :=
  ⟨by simp [r.len], fun i e x h1 h2 => by
    cases i with
    | zero => simp at h1 h2; subst h1; subst h2; exact h
    | succ i => simp at h1 h2; exact r.at_ i e x h1 h2⟩
theorem RepL.uncons {g : Gh} {d : DV} {ds : List DV} {us : List Value} (r : RepL g (d :: ds) us) : ∃ u us', us = u :: us' ∧ Rep g d u ∧ RepL g ds us' := by
  cases us with
  | nil => have := r.len; simp at this
  | cons u us => exact ⟨u, us, rfl, r.at_ 0 d u (by simp) (by simp), by have := r.len; simpa using this, fun i e x h1 h2 => r.at_ (i + 1) e x (by simpa using h1) (by simpa using h2)⟩
theorem RepL.append {g : Gh} {ds es : List DV} {us vs : List Value} (r : RepL g ds us) (q : RepL g es vs) : RepL g (ds ++ es) (us ++ vs) := by
  refine ⟨by simp [r.len, q.len], fun i d u h1 h2 => ?_⟩
  by_cases h : i < ds.length
  · rw [List.getElem?_append_left h] at h1
    rw [List.getElem?_append_left (by rw [← r.len]; exact h)] at h2
    exact r.at_ i d u h1 h2
  · rw [List.getElem?_append_right (by omega)] at h1
    rw [List.getElem?_append_right (by rw [← r.len]; omega), ← r.len] at h2
    exact q.at_ _ d u h1 h2
theorem RepL.set {g : Gh} {ds : List DV} {us : List Value} (r : RepL g ds us) (i : Nat) {d : DV} {u : Value} (h : Rep g d u) : RepL g (ds.set i d) (us.set i u) := by
  refine ⟨by simp [r.len], fun j e x h1 h2 => ?_⟩
  rw [List.getElem?_set] at h1 h2
  split at h1
  · rename_i hij
    split at h1
    · rw [if_pos hij] at h2
      split at h2
      · simp only [Option.some.injEq] at h1 h2; subst h1; subst h2; exact h
      · cases h2
    · cases h1
  · rename_i hij
    rw [if_neg hij] at h2
    exact r.at_ j e x h1 h2
theorem RepL.getD {g : Gh} {ds : List DV} {us : List Value} (r : RepL g ds us) (i : Nat) : Rep g (ds.getD i ud) (us.getD i undef) := by
  simp only [List.getD_eq_getElem?_getD]
  by_cases h : i < ds.length
  · have h' : i < us.length := by rw [← r.len]; exact h
    simp only [List.getElem?_eq_getElem h, List.getElem?_eq_getElem h', Option.getD_some]
    exact r.at_ i _ _ (List.getElem?_eq_getElem h) (List.getElem?_eq_getElem h')
  · rw [List.getElem?_eq_none (by omega), List.getElem?_eq_none (by rw [← r.len]; omega)]
    exact rep_ud g
theorem RepL.take {g : Gh} {ds : List DV} {us : List Value} (r : RepL g ds us) (n : Nat) : RepL g (ds.take n) (us.take n) :=
  ⟨by simp [r.len], fun i d u h1 h2 => by
    rw [List.getElem?_take] at h1 h2
    split at h1
    · rename_i h; rw [if_pos h] at h2; exact r.at_ i d u h1 h2
    · cases h1⟩
theorem RepL.drop {g : Gh} {ds : List DV} {us : List Value} (r : RepL g ds us) (n : Nat) : RepL g (ds.drop n) (us.drop n) :=
  ⟨by simp [r.len], fun i d u h1 h2 => by rw [List.getElem?_drop] at h1 h2; exact r.at_ _ d u h1 h2⟩
theorem RepL.replicate (g : Gh) (n : Nat) : RepL g (List.replicate n ud) (List.replicate n undef) :=
  ⟨by simp, fun i d u h1 h2 => by
    rw [List.getElem?_replicate] at h1 h2
    split at h1
    · rename_i h; rw [if_pos h] at h2; simp only [Option.some.injEq] at h1 h2; subst h1; subst h2; exact rep_ud g
    · cases h1⟩

/-- The cells of a value. -/
theorem Rep.cells {g : Gh} {d : DV} {u : Value} (r : Rep g d u) (hd : okE d = true) : RepL g (cd d) u.cells.toList := by
  cases r with
  | agg ds us hl hr h1 => exact ⟨by simpa [cd, Value.cells] using hl, by simpa [cd, Value.cells] using hr⟩
  | v u h =>
    have e : u.cells = #[u] := by cases u <;> simp_all [Value.cells, Value.oneCell']
    rw [e]; exact RepL.cons (.v u h) (RepL.nil g)
  | nil s f o c hc => exact RepL.cons (.nil s f o c hc) (RepL.nil g)
  | sl s f xs b o c us hl hf hc hm hr hz h1 hi => exact RepL.cons (.sl s f xs b o c us hl hf hc hm hr hz h1 hi) (RepL.nil g)
  | tup ds us hl hr => cases hd
  | ifc t d u h => exact RepL.cons (.ifc t d u h) (RepL.nil g)
  | acc l n o c h => exact RepL.cons (.acc l n o c h) (RepL.nil g)
  | ip ds b o us hl hr h1 hi => exact RepL.cons (.ip ds b o us hl hr h1 hi) (RepL.nil g)
  | ap l n s i o b q c h => exact RepL.cons (.ap l n s i o b q c h) (RepL.nil g)
  | any u => cases hd

theorem Rep.one {g : Gh} {d : DV} {u : Value} (r : Rep g d u) (hd : okE d = true) : ∀ x, x ∈ u.cells.toList → x.oneCell' = true := by
  cases r with
  | agg ds us hl hr h1 => simpa [Value.cells] using h1
  | tup ds us hl hr => cases hd
  | any u => cases hd
  | v u h =>
    intro x hx
    have e : u.cells = #[u] := by cases u <;> simp_all [Value.cells, Value.oneCell']
    rw [e] at hx; simp at hx; rw [hx]; exact h
  | nil s f o c hc => intro x hx; simp [Value.cells] at hx; rw [hx]; rfl
  | sl s f xs b o c us hl hf hc hm hr hz h1 hi => intro x hx; simp [Value.cells] at hx; rw [hx]; rfl
  | ifc t d u h => intro x hx; simp [Value.cells] at hx; rw [hx]; rfl
  | acc l n o c h => intro x hx; simp [Value.cells] at hx; rw [hx]; rfl
  | ip ds b o us hl hr h1 hi => intro x hx; simp [Value.cells] at hx; rw [hx]; rfl
  | ap l n s i o b q c h => intro x hx; simp [Value.cells] at hx; rw [hx]; rfl

/-- Objects that are nobody else's: boxes by their block, growing slices by their name. -/
inductive Ob where
  | arr (s : Nat) (xs : List DV)
  | tl (s : Nat) (xs : List DV)

def Ob.len : Ob → Nat
  | .arr _ xs => xs.length
  | .tl _ xs => xs.length

structure St where
  box : List (Nat × List DV)
  acc : List (Nat × Ob)

inductive Key where
  | b (n : Nat)
  | a (n : Nat)
  deriving DecidableEq

def lk {α : Type} : List (Nat × α) → Nat → Option α
  | [], _ => none
  | (k, x) :: t, n => if k = n then some x else lk t n
def up {α : Type} : List (Nat × α) → Nat → α → List (Nat × α)
  | [], _, _ => []
  | (k, x) :: t, n, y => if k = n then (k, y) :: t else (k, x) :: up t n y

theorem lk_mem {α : Type} {l : List (Nat × α)} {n : Nat} {x : α} (h : lk l n = some x) : (n, x) ∈ l := by
  induction l with
  | nil => cases h
  | cons p t ih =>
    obtain ⟨k, y⟩ := p
    simp only [lk] at h
    split at h
    · rename_i e; subst e; simp at h; subst h; exact List.mem_cons_self
    · exact List.mem_cons_of_mem _ (ih h)
theorem map_up {α : Type} (l : List (Nat × α)) (n : Nat) (y : α) : (up l n y).map (·.1) = l.map (·.1) := by
  induction l with
  | nil => rfl
  | cons p t ih => obtain ⟨k, x⟩ := p; simp only [up]; split <;> simp_all
theorem mem_up {α : Type} {l : List (Nat × α)} {n : Nat} {y : α} (hn : (l.map (·.1)).Nodup) {p : Nat × α} (h : p ∈ up l n y) : (p = (n, y)) ∨ (p ∈ l ∧ p.1 ≠ n) := by
  induction l with
  | nil => cases h
  | cons q t ih =>
    obtain ⟨k, x⟩ := q
    simp only [List.map_cons, List.nodup_cons] at hn
    simp only [up] at h
    split at h
    · rename_i e
      subst e
      rcases List.mem_cons.1 h with rfl | h
      · exact .inl rfl
      · refine .inr ⟨List.mem_cons_of_mem _ h, fun e => hn.1 ?_⟩
        rw [← e]; exact List.mem_map_of_mem h
    · rename_i e
      rcases List.mem_cons.1 h with rfl | h
      · exact .inr ⟨List.mem_cons_self, e⟩
      · rcases ih hn.2 h with h | h
        · exact .inl h
        · exact .inr ⟨List.mem_cons_of_mem _ h.1, h.2⟩

def AccOk (ow : Nat → Option Key) (B : Nat) (g : Gh) (w : World) (l : Nat) : Ob → Prop
  | .arr s xs => 0 < s ∧ ((xs = [] ∧ ∃ o, g.acc l 0 = some (.slice o 0 0)) ∨
      ∃ b c cs e, g.acc l xs.length = some (.slice (some ⟨b, 0, none⟩) xs.length c) ∧ ow b = some (.a l) ∧ B ≤ b ∧ (∀ i, g.imm b i = none) ∧ w.heap[b]? = some (.cells cs e (0, 0)) ∧ cs.size = c * s ∧ xs.length ≤ c ∧ c ≤ maxLen ∧
        ∃ us : List Value, RepL g xs us ∧ (∀ (i : Nat) (u : Value), us[i]? = some u → u.cells.size = s) ∧ (∀ (u : Value), u ∈ us → ∀ x, x ∈ u.cells.toList → x.oneCell' = true) ∧ (∀ (i : Nat) (u : Value) (j : Nat) (x : Value), us[i]? = some u → u.cells[j]? = some x → cs[i * s + j]? = some x))
  | .tl s xs => 0 < s ∧ ((∃ u, g.acc l xs.length = some u ∧ Rep g (.sl s true xs) u) ∨
      ∃ b c cs e, g.acc l xs.length = some (.slice (some ⟨b, 0, none⟩) xs.length c) ∧ ow b = some (.a l) ∧ B ≤ b ∧ (∀ i, xs.length * s ≤ i → g.imm b i = none) ∧ w.heap[b]? = some (.cells cs e (0, 0)) ∧ cs.size = c * s ∧ xs.length ≤ c ∧ c ≤ maxLen ∧
        Rep g (.sl s false xs) (.slice (some ⟨b, 0, none⟩) xs.length c))

/-- The world holds what is known, and the store. -/
structure Rel (w0 : World) (g : Gh) (S : St) (w : World) : Prop where
  below : Below w0.heap.size w0 w
  imm : ∀ b i u, g.imm b i = some u → w.cell? ⟨b, i, none⟩ = some u
  nb : (S.box.map (·.1)).Nodup
  na : (S.acc.map (·.1)).Nodup
  accw : ∀ l n u, g.acc l n = some u → ∃ o c, u = .slice o n c ∧ (n = 0 ∨ ∃ b q, o = some ⟨b, q, none⟩)
  fresh : ∃ m, ∀ l n, m ≤ l → g.acc l n = none
  top : ∀ l o, (l, o) ∈ S.acc → ∀ k, o.len < k → g.acc l k = none
  own : ∃ ow : Nat → Option Key,
    (∀ b ds, (b, ds) ∈ S.box → ow b = some (.b b) ∧ w0.heap.size ≤ b ∧ (∀ i, g.imm b i = none) ∧ ∃ us e, w.heap[b]? = some (.cells us e (0, 0)) ∧ RepL g ds us.toList ∧ ∀ u, u ∈ us.toList → u.oneCell' = true) ∧
    (∀ l o, (l, o) ∈ S.acc → AccOk ow w0.heap.size g w l o)

end Aml
