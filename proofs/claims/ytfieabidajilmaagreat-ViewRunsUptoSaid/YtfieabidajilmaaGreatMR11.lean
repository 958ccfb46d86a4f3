/-
  ViewApart: what the program computes; From an argument that reads as a datum to an abstract value; from a walked call to the row's own words; ViewApart. By an AI agent.
-/
import Derived.Test.YtfieabidajilmaaGreatMR10
import Derived.Test.YtfieabidajilmaaGreatRows
import Derived.Test.YtfieabidajilmaaGreatMR4
import Derived.ProofKit
import Derived.OpenShut
import Derived.JoinedCond
import Derived.Carry
namespace Go.Proofs.YtfieabidajilmaaGreat
open Aml Go
set_option linter.unusedVariables false
set_option linter.unusedSimpArgs false
set_option maxRecDepth 100000
/-- A step on a view. -/
def stV (s : Sv) (q : N × List C) : (N × List C) × Int :=
  if s.op = 0 then mkV s.name q.1 q.2 else if s.op = 1 then drV s.name q.1 q.2 else if s.op = 2 then puV s.name s.key (vaS s) q.1 q.2 else if s.op = 3 then deV s.name s.key q.1 q.2 else (q, 0)
theorem vi_st {k : Nat} {q : N × List C} (h : VI k q.1 q.2) (hk : k ≤ 116) (s : Sv) : VI (k + 1) (stV s q).1.1 (stV s q).1.2 := by
  unfold stV
  split
  · exact vi_mk h hk _
  · split
    · exact vi_dr h hk _
    · split
      · exact vi_pu h hk _ _ _
      · split
        · exact vi_de h hk _ _
        · exact vi_mono h (by omega)
theorem st0 {s : Sv} {q : N × List C} (h : s.op = 0) : mkV s.name q.1 q.2 = stV s q := by unfold stV; rw [if_pos h]
theorem st1 {s : Sv} {q : N × List C} (h : s.op = 1) : drV s.name q.1 q.2 = stV s q := by unfold stV; rw [if_neg (by omega), if_pos h]
theorem st2 {s : Sv} {q : N × List C} (h : s.op = 2) : puV s.name s.key (vaS s) q.1 q.2 = stV s q := by unfold stV; rw [if_neg (by omega), if_neg (by omega), if_pos h]
theorem st3 {s : Sv} {q : N × List C} (h : s.op = 3) : deV s.name s.key q.1 q.2 = stV s q := by unfold stV; rw [if_neg (by omega), if_neg (by omega), if_neg (by omega), if_pos h]
theorem st4 {s : Sv} {q : N × List C} (h0 : ¬ s.op = 0) (h1 : ¬ s.op = 1) (h2 : ¬ s.op = 2) (h3 : ¬ s.op = 3) : stV s q = (q, 0) := by unfold stV; rw [if_neg h0, if_neg h1, if_neg h2, if_neg h3]
@[go_sem] def cV (q : N × List C) : List DV := [dI q.1.page, dB q.1.leaf, .sl 1 false (q.1.l.map fun c => dS c.key), .sl 2 false ((if q.1.leaf then q.1.l else []).map dV2), .sl 5 false ((kidsOf q.1).map dT), .sl 6 false (q.2.map dBk)]
end Go.Proofs.YtfieabidajilmaaGreat

namespace Go.Proofs.YtfieabidajilmaaGreat
open Aml Go Go.RowKit Go.ChangeShapes
set_option linter.unusedVariables false
set_option linter.unusedSimpArgs false

/-- All that is there at the start stays. -/
def gW (W : World) : Gh := ⟨fun b i => W.cell? ⟨b, i, none⟩, fun _ _ => none, fun _ => none⟩
theorem rel_start (W : World) : Rel W (gW W) ⟨[], []⟩ W :=
  ⟨⟨Below.refl _ _, fun _ _ h => (by cases h), ⟨fun _ _ _ h => (by cases h), fun _ _ _ h => (by cases h), fun _ _ h => (by cases h)⟩⟩, fun _ _ _ h => h, by simp, by simp, fun _ _ _ h => (by cases h), ⟨0, fun _ _ _ => rfl⟩, fun _ _ h => (by cases h), fun _ => none, fun _ _ h => (by cases h), fun _ _ h => (by cases h)⟩

/-- A type's data, read as a Lean type. -/
def Rd (P : Program) (W : World) (t : TypeId) {α : Type} (en : α → List DV) (sz : α → Nat) (ok : α → Prop) : Prop :=
  ∀ (H : Type) (enc : TypeId × Value → H) (n : Nat) (cs : List Value) (x : DataW H × List MemPlace), DataW.trod enc P W 0 (fun _ => true) true n t cs = some x →
    ∃ a, ok a ∧ sz a ≤ Rows.uptoBulk x.1 ∧ RepL (gW W) (en a) cs ∧ ∀ u, u ∈ cs → u.oneCell' = true

section
variable {P : Program} {W : World}
theorem Rd.conv {t : TypeId} {α β : Type} {en : α → List DV} {sz : α → Nat} {ok : α → Prop} {en' : β → List DV} {sz' : β → Nat} {ok' : β → Prop} (h : Rd P W t en sz ok) (f : α → β) (he : ∀ a, en a = en' (f a)) (hs : ∀ a, sz' (f a) ≤ sz a) (ho : ∀ a, ok a → ok' (f a)) : Rd P W t en' sz' ok' :=
  fun H enc n cs x hx => let ⟨a, h1, h2, h3, h4⟩ := h H enc n cs x hx; ⟨f a, ho a h1, Nat.le_trans (hs a) h2, by rw [← he]; exact h3, h4⟩
theorem rd_int {t : TypeId} (k : IntKind) (ht : P.underlying t = some (.int k)) : Rd P W t (fun n : Int => [.v (.int k n)]) (fun _ => 1) (fun n => (Lit.int k n).wf = true) := by
  intro H enc n cs x hx
  obtain ⟨m, rfl, rfl, hw⟩ := DataW.trod_int ht hx
  exact ⟨m, hw, by simp [Rows.uptoBulk], RepL.cons (.v _ rfl) (RepL.nil _), by simp [Value.oneCell']⟩
theorem rd_i64 {t : TypeId} (ht : P.underlying t = some (.int .i64)) : Rd P W t (fun n : Int => [dI n]) (fun _ => 1) (fun n => -9223372036854775808 ≤ n ∧ n ≤ 9223372036854775807) :=
  (rd_int .i64 ht).conv id (fun _ => rfl) (fun _ => Nat.le_refl _) fun _ h => bounds_i64 h
theorem rd_u8 {t : TypeId} (ht : P.underlying t = some (.int .u8)) : Rd P W t (fun n : Int => [dY n]) (fun _ => 1) (fun n => 0 ≤ n ∧ n ≤ 255) :=
  (rd_int .u8 ht).conv id (fun _ => rfl) (fun _ => Nat.le_refl _) fun _ h => bounds_u8 h
theorem rd_str {t : TypeId} (ht : P.underlying t = some .string) : Rd P W t (fun s : ByteArray => [dS s]) (fun s => s.size + 1) (fun _ => True) := by
  intro H enc n cs x hx
  obtain ⟨s, rfl, rfl, hs⟩ := DataW.trod_string ht hx
  exact ⟨s, trivial, (show s.size + 1 ≤ s.data.toList.length + 1 by rw [Array.length_toList]; exact Nat.le_refl _), RepL.cons (.v _ rfl) (RepL.nil _), by simp [Value.oneCell']⟩

theorem pick_list {α : Type} {Q : Nat → α → Prop} : ∀ (n : Nat), (∀ i, i < n → ∃ a, Q i a) → ∃ l : List α, l.length = n ∧ ∀ (i : Nat) (a : α), l[i]? = some a → Q i a
  | 0, _ => ⟨[], rfl, by simp⟩
  | n + 1, h => by
    obtain ⟨l, h1, h2⟩ := pick_list n fun i hi => h i (by omega)
    obtain ⟨a, ha⟩ := h n (by omega)
    refine ⟨l ++ [a], by simp [h1], fun i b hb => ?_⟩
    by_cases hi : i < n
    · rw [List.getElem?_append_left (by omega)] at hb; exact h2 i b hb
    · have hlt : i < (l ++ [a]).length := (List.getElem?_eq_some_iff.1 hb).1
      have : i = n := by simp at hlt; omega
      subst this
      rw [List.getElem?_append_right (by omega), h1] at hb
      simp at hb; subst hb; exact ha
theorem bulk_sum {H α : Type} {sz : α → Nat} : ∀ {l : List α} {es : List (DataW H)}, l.length = es.length → (∀ (i : Nat) (a : α) (e : DataW H), l[i]? = some a → es[i]? = some e → sz a ≤ Rows.uptoBulk e) → (l.map sz).sum ≤ Rows.uptoBulkAll es
  | [], [], _, _ => by simp [Rows.uptoBulkAll]
  | [], _ :: _, h, _ => by simp at h
  | _ :: _, [], h, _ => by simp at h
  | a :: l, e :: es, h, hs => by
    have h1 := hs 0 a e rfl rfl
    have h2 := bulk_sum (l := l) (es := es) (by simpa using h) fun i a e x y => hs (i + 1) a e (by simpa using x) (by simpa using y)
    simp only [List.map_cons, List.sum_cons, Rows.uptoBulkAll]
    omega
theorem cells_read {a : Addr} {k : Nat} {cs : List Value} (h : W.cells? 0 a k = some cs) : cs.length = k ∧ ∀ j, j < k → W.cell? (a.add j) = cs[j]? := by
  unfold World.cells? at h
  rw [if_pos (Nat.zero_le _)] at h
  exact ⟨by simpa using mapM_some_length h, fun j hj => mapM_some_get h j j (by simp [hj])⟩

theorem rd_sliceG {t e : TypeId} {α : Type} {en : α → List DV} {sz : α → Nat} {ok : α → Prop} (h : Rd P W e en sz ok) (ht : P.underlying t = some (.slice e)) {k : Nat} (hk : P.cellsOf e = k) (hk0 : 0 < k) (enE : α → DV) (mk : List Value → Value)
    (hmk : ∀ a cs, RepL (gW W) (en a) cs → (∀ u, u ∈ cs → u.oneCell' = true) → cs.length = k → Rep (gW W) (enE a) (mk cs) ∧ (mk cs).cells.toList = cs) :
    Rd P W t (fun l : List α => [.sl k false (l.map enE)]) (fun l => (l.map sz).sum + 1) (fun l => ∀ a, a ∈ l → ok a) := by
  intro H enc n cs x hx
  rcases DataW.trod_slice ht hx with ⟨rfl, rfl⟩ | ⟨a, len, cap, elems, rest, n', rfl, rfl, rfl, -, hlc, hcm, hel, hget, -, -⟩
  · exact ⟨[], by simp, by simp [Rows.uptoBulk], RepL.cons (.nil _ _ _ _ (by simp)) (RepL.nil _), by simp [Value.oneCell']⟩
  · have hq : ∀ i, i < len → ∃ p : α × List Value, ok p.1 ∧ (∀ y, elems[i]? = some y → sz p.1 ≤ Rows.uptoBulk y.1) ∧ W.cells? 0 (a.add (i * k)) k = some p.2 ∧ RepL (gW W) (en p.1) p.2 ∧ ∀ u, u ∈ p.2 → u.oneCell' = true := by
      intro i hi
      have h1 := hget i hi
      rw [hk] at h1
      have h2 : elems[i]? = some elems[i] := List.getElem?_eq_getElem (by omega)
      rw [h2, Option.bind_eq_some_iff] at h1
      obtain ⟨ci, hc, htr⟩ := h1
      obtain ⟨b, b1, b2, b3, b4⟩ := h H enc n' ci _ htr
      exact ⟨(b, ci), b1, fun y hy => by rw [h2] at hy; cases hy; exact b2, hc, b3, b4⟩
    obtain ⟨ps, hpl, hps⟩ := pick_list len hq
    refine ⟨ps.map (·.1), fun b hb => ?_, ?_, ?_, by simp [Value.oneCell']⟩
    · obtain ⟨p, hp, rfl⟩ := List.mem_map.1 hb
      obtain ⟨i, hi⟩ := List.getElem?_of_mem hp
      exact (hps i p hi).1
    · have := bulk_sum (sz := sz) (l := ps.map (·.1)) (es := elems.map (·.1)) (by simp [hpl, hel]) fun i b e x y => by
        rw [List.getElem?_map, Option.map_eq_some_iff] at x y
        obtain ⟨p, hp, rfl⟩ := x
        obtain ⟨y, hy, rfl⟩ := y
        exact (hps i p hp).2.1 y hy
      simp only [Rows.uptoBulk]
      omega
    · refine RepL.cons ?_ (RepL.nil _)
      by_cases h0 : len = 0
      · subst h0
        have : ps = [] := List.eq_nil_of_length_eq_zero hpl
        subst this
        exact .nil _ _ _ _ (by simp)
      · have hspot : a.spot = none := by
          obtain ⟨p, hp⟩ : ∃ p, ps[0]? = some p := ⟨_, List.getElem?_eq_getElem (by omega)⟩
          obtain ⟨hl, hc⟩ := cells_read (hps 0 p hp).2.2.1
          have := hc 0 (by omega)
          rw [List.getElem?_eq_getElem (by omega)] at this
          simp only [Nat.zero_mul, Addr.add, if_true] at this
          unfold World.cell? at this
          split at this
          · split at this
            · cases this
            · rename_i hs; simpa using hs
          · cases this
        obtain ⟨b, o, sp⟩ := a
        simp only at hspot
        subst hspot
        have hus : (ps.map fun p => mk p.2).length = len := by simp [hpl]
        have hmk' : ∀ (i : Nat) (p : α × List Value), ps[i]? = some p → Rep (gW W) (enE p.1) (mk p.2) ∧ (mk p.2).cells.toList = p.2 ∧ p.2.length = k := fun i p hp => by
          have hc := (cells_read (hps i p hp).2.2.1).1
          have := hmk p.1 p.2 (hps i p hp).2.2.2.1 (hps i p hp).2.2.2.2 hc
          exact ⟨this.1, this.2, hc⟩
        have := Rep.sl (g := gW W) k false ((ps.map (·.1)).map enE) b o cap (ps.map fun p => mk p.2) (by simp) (by simp) (by rw [hus]; exact hlc) hcm
          (fun i d u hd hu => by
            simp only [List.map_map, List.getElem?_map, Option.map_eq_some_iff] at hd hu
            obtain ⟨p, hp, rfl⟩ := hd
            obtain ⟨q, hq, rfl⟩ := hu
            rw [hp] at hq; cases hq
            exact (hmk' i p hp).1)
          (fun i u hu => by
            rw [List.getElem?_map, Option.map_eq_some_iff] at hu
            obtain ⟨p, hp, rfl⟩ := hu
            have := hmk' i p hp
            rw [← Array.length_toList, this.2.1, this.2.2])
          (fun u hu x hx => by
            obtain ⟨p, hp, rfl⟩ := List.mem_map.1 hu
            obtain ⟨i, hi⟩ := List.getElem?_of_mem hp
            rw [(hmk' i p hi).2.1] at hx
            exact (hps i p hi).2.2.2.2 x hx)
          (fun i u j x hu hx => by
            rw [List.getElem?_map, Option.map_eq_some_iff] at hu
            obtain ⟨p, hp, rfl⟩ := hu
            have hm := hmk' i p hp
            have hc := (cells_read (hps i p hp).2.2.1).2
            rw [← Array.getElem?_toList, hm.2.1] at hx
            have hj : j < k := by rw [← hm.2.2]; exact (List.getElem?_eq_some_iff.1 hx).1
            have := hc j hj
            rw [hx] at this
            show W.cell? ⟨b, o + i * k + j, none⟩ = some x
            have e : (Addr.add ⟨b, o, none⟩ (i * k)).add j = ⟨b, o + i * k + j, none⟩ := by
              unfold Addr.add
              split <;> split <;> simp_all
            rw [← e]; exact this)
        rw [hus] at this
        exact this
theorem rd_sliceA {t e : TypeId} {α : Type} {en : α → List DV} {sz : α → Nat} {ok : α → Prop} (h : Rd P W e en sz ok) (ht : P.underlying t = some (.slice e)) {k : Nat} (hk : P.cellsOf e = k) (hk0 : 0 < k) :
    Rd P W t (fun l : List α => [.sl k false (l.map fun a => .agg (en a))]) (fun l => (l.map sz).sum + 1) (fun l => ∀ a, a ∈ l → ok a) :=
  rd_sliceG h ht hk hk0 (fun a => .agg (en a)) (fun cs => .agg cs.toArray) fun a cs hr h1 hl => ⟨.agg _ _ hr.len hr.at_ h1, rfl⟩

/-- The fields from one on. -/
def RdF (P : Program) (W : World) (total off : Nat) (fs : List Field) {α : Type} (en : α → List DV) (sz : α → Nat) (ok : α → Prop) : Prop :=
  ∀ (H : Type) (enc : TypeId × Value → H) (n : Nat) (cs : List Value) (xs : List (DataW H × List MemPlace)), cs.length = total → xs.length = fs.length →
    (∀ (i : Nat) (f : Field), fs[i]? = some f → DataW.trod enc P W 0 (fun _ => true) true n f.type ((cs.drop f.offset).take (P.cellsOf f.type)) = xs[i]?) →
    ∃ a, ok a ∧ sz a ≤ Rows.uptoBulkAll (xs.map (·.1)) ∧ RepL (gW W) (en a) (cs.drop off) ∧ ∀ u, u ∈ cs.drop off → u.oneCell' = true
theorem rdF_nil {total : Nat} : RdF P W total total [] (fun _ : Unit => []) (fun _ => 0) (fun _ => True) := by
  intro H enc n cs xs hc hx hg
  refine ⟨(), trivial, Nat.zero_le _, ?_, ?_⟩
  · rw [List.drop_eq_nil_of_le (by omega)]; exact RepL.nil _
  · rw [List.drop_eq_nil_of_le (by omega)]; simp
theorem rdF_cons {total off k : Nat} {f : Field} {fs : List Field} {α β : Type} {en : α → List DV} {sz : α → Nat} {ok : α → Prop} {en' : β → List DV} {sz' : β → Nat} {ok' : β → Prop} (h : Rd P W f.type en sz ok) (hf : f.offset = off) (hk : P.cellsOf f.type = k) (h' : RdF P W total (off + k) fs en' sz' ok') :
    RdF P W total off (f :: fs) (fun p : α × β => en p.1 ++ en' p.2) (fun p => sz p.1 + sz' p.2) (fun p => ok p.1 ∧ ok' p.2) := by
  intro H enc n cs xs hc hx hg
  cases xs with
  | nil => simp at hx
  | cons x xs =>
    have h0 := hg 0 f rfl
    rw [hf, hk] at h0
    obtain ⟨a, a1, a2, a3, a4⟩ := h H enc n _ x h0
    obtain ⟨b, b1, b2, b3, b4⟩ := h' H enc n cs xs hc (by simpa using hx) fun i f hf => by have := hg (i + 1) f (by simpa using hf); simpa using this
    have e : cs.drop off = (cs.drop off).take k ++ cs.drop (off + k) := by rw [← List.drop_drop, List.take_append_drop]
    refine ⟨(a, b), ⟨a1, b1⟩, ?_, ?_, ?_⟩
    · simp only [List.map_cons, Rows.uptoBulkAll]; omega
    · rw [e]; exact a3.append b3
    · intro u hu
      rw [e, List.mem_append] at hu
      exact hu.elim (a4 u) (b4 u)
theorem rd_struct {t : TypeId} {fs : Array Field} {α : Type} {en : α → List DV} {sz : α → Nat} {ok : α → Prop} (ht : P.underlying t = some (.struct fs)) {total : Nat} (hc : P.cellsOf t = total) {fl : List Field} (hfl : fs.toList = fl) (h : RdF P W total 0 fl en sz ok) :
    Rd P W t en (fun a => sz a + 1) ok := by
  intro H enc n cs x hx
  subst hfl
  obtain ⟨xs, n', rfl, rfl, h1, h2, h3⟩ := DataW.trod_struct ht hx
  obtain ⟨a, a1, a2, a3, a4⟩ := h H enc n' cs xs (by rw [h1, hc]) (by simpa using h2) fun i f hf => h3 i f (by simpa using hf)
  exact ⟨a, a1, by simp only [Rows.uptoBulk]; omega, by simpa using a3, by simpa using a4⟩

/-- Arguments, one by one. -/
def RdA (P : Program) (W : World) (ts : List TypeId) {α : Type} (en : α → List DV) (sz : α → Nat) (ok : α → Prop) : Prop :=
  ∀ (H : Type) (enc : TypeId × Value → H) (base : Nat) (vs : List Value) (ds : List (DataW H)) (p : List MemPlace), (∀ (j : Nat) t v, ts[j]? = some t → vs[j]? = some v → Value.okWide P W .any base t v) → DataW.TrodAll enc P W 0 (fun _ => true) true ts vs ds p →
    ∃ a, ok a ∧ sz a ≤ Rows.uptoBulkAll ds ∧ RepL (gW W) (en a) vs
theorem rdA_nil : RdA P W [] (fun _ : Unit => []) (fun _ => 0) (fun _ => True) := by
  intro H enc base vs ds p hv h
  obtain ⟨rfl, rfl, rfl⟩ := trodAll_nil h
  exact ⟨(), trivial, Nat.zero_le _, RepL.nil _⟩
def oneT (P : Program) (t : TypeId) : Bool := match P.underlying t with
  | some .bool | some .string | some (.int _) | some (.slice _) => true
  | _ => false
theorem okWide_one {t : TypeId} (ht : oneT P t = true) {base : Nat} {v : Value} (h : Value.okWide P W .any base t v) : v.cells = #[v] ∧ v.oneCell' = true := by
  unfold oneT at ht
  unfold Value.okWide Cell.okWide Cell.ok at h
  split at ht
  · rename_i hu; rw [hu] at h; cases v <;> simp_all [Value.cells, Value.oneCell']
  · rename_i hu; rw [hu] at h; cases v <;> simp_all [Value.cells, Value.oneCell']
  · rename_i hu; rw [hu] at h; cases v <;> simp_all [Value.cells, Value.oneCell']
  · rename_i hu; rw [hu] at h; cases v <;> simp_all [Value.cells, Value.oneCell']
  · cases ht
theorem rdA_one {t : TypeId} {ts : List TypeId} {α β : Type} {en : α → DV} {sz : α → Nat} {ok : α → Prop} {en' : β → List DV} {sz' : β → Nat} {ok' : β → Prop} (h : Rd P W t (fun a => [en a]) sz ok) (ht : oneT P t = true) (h' : RdA P W ts en' sz' ok') :
    RdA P W (t :: ts) (fun p : α × β => en p.1 :: en' p.2) (fun p => sz p.1 + sz' p.2) (fun p => ok p.1 ∧ ok' p.2) := by
  intro H enc base vs ds p hv hA
  obtain ⟨v, vs', d, ds', p1, q1, rfl, rfl, rfl, h1, h2⟩ := trodAll_cons hA
  obtain ⟨b, b1, b2, b3⟩ := h' H enc base vs' ds' q1 (fun j t v x y => hv (j + 1) t v (by simpa using x) (by simpa using y)) h2
  obtain ⟨n, hn⟩ := h1
  obtain ⟨a, a1, a2, a3, a4⟩ := h H enc n _ _ hn
  obtain ⟨hc, ho⟩ := okWide_one ht (hv 0 t v rfl rfl)
  rw [hc] at a3
  refine ⟨(a, b), ⟨a1, b1⟩, by simp only [Rows.uptoBulkAll]; simp only at a2; omega, RepL.cons ?_ b3⟩
  obtain ⟨u, us, he, r1, r2⟩ := a3.uncons
  simp only [List.cons.injEq] at he
  rw [he.1]; exact r1
/-- Behind the call each argument reads as it did. -/
theorem trodAll_stays {H : Type} {enc : TypeId × Value → H} (hl : laidOutB P = true) {W' : World} (hb : Below W.heap.size W W') {sp : Nat → Bool} : ∀ {ts : List TypeId} {vs : List Value} {ds : List (DataW H)} {ps : List MemPlace}, (∀ t, t ∈ ts → P.readableRec t = true ∧ t < P.types.size) →
    DataW.TrodAll enc P W 0 (fun _ => true) true ts vs ds ps → (∀ p, p ∈ ps → p.block < W.heap.size ∧ sp p.block = true) → DataW.TrodAll enc P W' 0 sp true ts vs ds ps
  | [], vs, ds, ps, _, h, _ => by
    obtain ⟨rfl, rfl, rfl⟩ := trodAll_nil h
    exact rfl
  | t :: ts, vs, ds, ps, ht, h, hp => by
    obtain ⟨v, vs', d, ds', p1, q1, rfl, rfl, rfl, h1, h2⟩ := trodAll_cons h
    exact ⟨p1, q1, WideElems.Trod_stays hl (ht t List.mem_cons_self).1 (ht t List.mem_cons_self).2 h1 (fun x hx => hb.same (hp x (List.mem_append_left _ hx)).1) (fun x hx => (hp x (List.mem_append_left _ hx)).2),
      trodAll_stays hl hb (fun t' ht' => ht t' (List.mem_cons_of_mem _ ht')) h2 fun x hx => hp x (List.mem_append_right _ hx), rfl⟩

/-- THE LAW's CONTRACT, out of a walked call. -/
theorem law_contract {H : Type} (enc : TypeId × Value → H) {f : FuncId} {fn : Func} {s : ChangeSpec} {ts : List TypeId} {α : Type} {en : α → List DV} {sz : α → Nat} {ok : α → Prop} {tb : TypeId} (hr : RdA P W ts en sz ok) (hts : fn.params = ts.toArray) (hres : fn.resultTypes = #[tb]) (htb : P.underlying tb = some .bool) (hvars : s.vars = [])
    (hl : laidOutB P = true) (hT : ∀ t, t ∈ ts → P.readableRec t = true ∧ t < P.types.size) (hspec : ∀ ds : List (DataW H), ds.length = ts.length → s.fn H ds = { results := [.lit (.bool true)], args := ds })
    (hcall : ∀ a, ok a → sz a ≤ 1048576 → ACall P W f (en a) ⟨[], []⟩ fun d _ => d = dB true)
    (base : Nat) (args : Array Value) (ds gs : List (DataW H)) (before : List MemPlace) (hval : ∀ (j : Nat) t v, fn.params[j]? = some t → args[j]? = some v → Value.okWide P W .any base t v)
    (hW : DataW.Whole enc P fn.params.toList s.vars false W args.toList ds gs before) (hk : Rows.uptoBulkAll (ds ++ gs) ≤ 1048576) :
    Calls P f args W fun e W' => ∃ v, e = .returned v ∧ s.post enc P fn false true false false W args v W' := by
  have hW' := hW
  obtain ⟨p, q, hA, hV, rfl, hfz, hnd⟩ := hW
  rw [hvars] at hV
  have hgs : gs = [] ∧ q = [] := by
    cases gs with
    | nil => exact ⟨rfl, hV⟩
    | cons g gs => exact hV.elim
  obtain ⟨rfl, rfl⟩ := hgs
  rw [hts] at hA
  simp only [List.append_nil] at hk
  obtain ⟨a, a1, a2, a3⟩ := hr H enc base args.toList ds p (fun j t v x y => hval j t v (by rw [hts]; simpa using x) (by simpa using y)) (by simpa using hA)
  have hc := hcall a a1 (Nat.le_trans a2 hk) (gW W) args W (rel_start W) a3
  refine hc.mono ?_
  rintro e W' ⟨r, g', d, S', rfl, hle, hR, hd, rfl⟩
  have hb := hR.below.base
  have hrv : r = .bool true := rep_bool hd
  subst hrv
  have hlen : ds.length = ts.length := by
    have : ∀ {ts : List TypeId} {vs : List Value} {ds : List (DataW H)} {ps : List MemPlace}, DataW.TrodAll enc P W 0 (fun _ => true) true ts vs ds ps → ds.length = ts.length := by
      intro ts
      induction ts with
      | nil => intro vs ds ps h; obtain ⟨rfl, rfl, rfl⟩ := trodAll_nil h; rfl
      | cons t ts ih =>
        intro vs ds ps h
        obtain ⟨v, vs', d, ds', p1, q1, rfl, rfl, rfl, h1, h2⟩ := trodAll_cons h
        simp [ih h2]
    exact this (by simpa using hA)
  have hsp := hspec ds hlen
  have hold : ∀ x, x ∈ p → x.block < W.heap.size := fun x hx => hW'.lt x (by simpa using hx)
  have hres' : ∀ (b : Nat) (sp : Nat → Bool) (hd : Bool), DataW.TrodAll enc P W' b sp hd fn.resultTypes.toList ((Value.bool true).resultList fn.resultTypes.size) (s.fn H (ds ++ [])).results [] := by
    intro b sp hd
    rw [List.append_nil, hsp, hres]
    exact trodAll_cons_mk (shut_bool htb _) trodAll_mk0
  have hargs' : ∀ sp : Nat → Bool, (∀ x, x ∈ p → sp x.block = true) → DataW.TrodAll enc P W' 0 sp true fn.params.toList args.toList (s.fn H (ds ++ [])).args p := by
    intro sp hs
    rw [List.append_nil, hsp, hts]
    exact trodAll_stays hl hb hT (by simpa using hA) fun x hx => ⟨hold x hx, hs x hx⟩
  have hvars' : ∀ sp : Nat → Bool, DataW.TrodVars enc P W' sp s.vars (s.fn H (ds ++ [])).vars [] := by
    intro sp
    rw [List.append_nil, hsp, hvars]
    exact rfl
  refine ⟨.bool true, rfl, ds, [], p ++ [], [], p, [], hW', hres' _ _ _, hargs' _ (fun x hx => by simpa using hold x hx), hvars' _, World.keptBut_mono (fun x hx => ⟨hx, .inr (by simpa using hx)⟩) (hb.frame _), fun _ => ?_⟩
  refine ⟨?_, _, _, ([] ++ p) ++ [], ⟨[] ++ p, [], trodAll_append (hargs' _ (fun _ _ => rfl)) (hres' _ _ _), hvars' _, rfl, ?_, ?_⟩, ?_⟩
  · exact ok_one hres rfl (okWide_bool_mk htb _)
  · intro b off hp
    have hp : MemPlace.cell b off ∈ p := by simpa using hp
    rw [hb.frozen (hold _ hp)]
    exact hfz b off (by simpa using hp)
  · intro ha; cases ha
  · intro x hx _
    simpa using hx
end
end Go.Proofs.YtfieabidajilmaaGreat

namespace Go.Proofs.YtfieabidajilmaaGreat
open Aml Go Go.RowKit Go.ChangeShapes
set_option linter.unusedVariables false
set_option linter.unusedSimpArgs false
set_option maxRecDepth 100000
theorem sum_oneV {α : Type} (l : List α) : (l.map fun _ => 1).sum = l.length := by
  induction l with
  | nil => rfl
  | cons a l ih => simp only [List.map_cons, List.sum_cons, List.length_cons, ih]; omega
theorem rdSv {W : World} : Rd Tryz.prog W 42 (fun s : Sv => [dI s.op, dS s.name, dS s.key, .v (.int .u8 s.byte), dI s.size]) (fun s => 1) (fun s => True) := by
  have h := rd_struct (W := W) Tryz.underlying42 (total := 5) (by kernel_rfl) rfl (rdF_cons (k := 1) (rd_i64 Tryz.underlying3) rfl (by kernel_rfl) (rdF_cons (k := 1) (rd_str Tryz.underlying9) rfl (by kernel_rfl) (rdF_cons (k := 1) (rd_str Tryz.underlying9) rfl (by kernel_rfl) (rdF_cons (k := 1) (rd_u8 Tryz.underlying5) rfl (by kernel_rfl) (rdF_cons (k := 1) (rd_i64 Tryz.underlying3) rfl (by kernel_rfl) rdF_nil)))))
  exact h.conv (fun a => ⟨a.1, a.2.1, a.2.2.1, a.2.2.2.1, a.2.2.2.2.1⟩) (fun _ => rfl) (fun a => by omega) fun _ _ => trivial
theorem rdSvs {W : World} : Rd Tryz.prog W 22 (fun l : List Sv => [.sl 5 false (l.map dSv)]) (fun l => l.length) (fun l => True) :=
  (rd_sliceA rdSv Tryz.underlying22 (k := 5) (by kernel_rfl) (by omega)).conv id (fun _ => rfl) (fun l => by simp only [id, sum_oneV]; omega) fun _ _ => trivial

end Go.Proofs.YtfieabidajilmaaGreat
