/-
  The library's sort of ints, as the walk speaks. By an AI agent.
-/
import Derived.Test.YtkibkahknibgfaaSh
import Derived.Test.YtkibkahknibgfaaTy
import Derived.Test.YtkibkahknibgfaaA24
import Derived.Sort.Grow
namespace Go.Proofs.Ytkibkahknibgfaa
open Aml Go
set_option linter.unusedVariables false
set_option linter.unusedSimpArgs false
set_option maxRecDepth 100000
@[go_sem] def dL (l : List Int) : DV := .sl 1 false (l.map dI)
/-- Numbers, rising. -/
def srt (l : List Int) : List Int := l.mergeSort fun x y => decide (x ≤ y)
theorem srt_length (l : List Int) : (srt l).length = l.length := List.length_mergeSort l

theorem get_bang {l : List Int} {j : Nat} {a : Int} (h : l[j]? = some a) : l.toArray[j]! = a := by
  obtain ⟨hlt, rfl⟩ := List.getElem?_eq_some_iff.1 h
  rw [getElem!_pos l.toArray j (by simpa using hlt)]
  simp
theorem sorted_heap {w : World} {n b e : Nat} {cs : Array Value} {zs : List Int} {os : Array Obj} (hb : w.heap[b]? = some (.cells cs e (0, 0))) (hn : zs.length ≤ cs.size) :
    ∃ cs', (Go.Sort.grow (Go.Sort.putRow (Value.int .i64) (Go.Sort.ahead w n) b 0 zs.toArray) os).heap[b]? = some (.cells cs' e (0, 0)) ∧ cs'.size = cs.size ∧ ∀ (i : Nat) (a : Int), zs[i]? = some a → cs'[i]? = some (.int .i64 a) := by
  refine ⟨Go.Sort.putCells (Value.int .i64) 0 zs.toArray cs, ?_, by simp [Go.Sort.putCells], fun i a hi => ?_⟩
  · rw [Go.Sort.heap_grow_old _ _ (by have := (Array.getElem?_eq_some_iff.1 hb).1; simpa using this)]
    simp only [Go.Sort.putRow, Go.Sort.mapBlock, Go.Sort.heap_ahead, Array.getElem?_modify, if_true, hb, Option.map_some, Go.Sort.onCells]
  · have hlt : i < zs.length := (List.getElem?_eq_some_iff.1 hi).1
    have hc : cs[i]? = some cs[i] := Array.getElem?_eq_getElem (by omega)
    simp only [Go.Sort.putCells, Array.getElem?_mapIdx, hc, Option.map_some]
    rw [if_pos (by simp; omega)]
    simp only [Nat.sub_zero]
    rw [get_bang hi]

set_option maxHeartbeats 400000 in
/-- slices.Sort at []int, of a growing slice. -/
theorem sort_int (w0 : World) {l : Nat} {zs : List Int} {S : St} (hl : lk S.acc l = some (.arr 1 (zs.map dI))) (hsz : zs.length < 4611686018427387904) :
    ACall Try.prog w0 66 [.acc l zs.length] S (fun d S' => d = .tup [] ∧ S' = ⟨S.box, up S.acc l (.arr 1 ((srt zs).map dI))⟩) := by
  intro g vs w h1 h2
  obtain ⟨u, us, hvs, hr, h3⟩ := h2.uncons
  have hus : us = [] := List.eq_nil_of_length_eq_zero (by have := h3.len; simpa using this.symm)
  subst hus
  have hvs' : vs = #[u] := by rw [← Array.toArray_toList (xs := vs), hvs]
  subst hvs'
  obtain ⟨o, c, hv, ha⟩ := rep_acc hr
  subst hv
  by_cases hz : zs = []
  · subst hz
    refine (Try.slices_Sort_int_none o c w).mono ?_
    rintro e w' ⟨rfl, rfl⟩
    refine ⟨_, g, .tup [], _, rfl, .refl g, ?_, .tup [] [] rfl (by intro i d u h; simp at h), rfl, rfl⟩
    have : srt [] = [] := by simp [srt]
    rw [this, up_self hl]
    exact h1
  · have hpos : 0 < zs.length := List.length_pos_iff.2 hz
    obtain ⟨ow, hO⟩ := h1.open_
    obtain ⟨hs, ⟨he, o2, _⟩ | ⟨b, c2, cs, e, q1, q2, q3, q4, q5, q6, q7, q8, us, q9, q10, q11, q12⟩⟩ := hO.acc l _ (lk_mem hl)
    · exact absurd (by simpa using he) hz
    · rw [List.length_map] at q1 q7
      have q1' := q1
      rw [ha] at q1
      simp only [Option.some.injEq, Value.slice.injEq, true_and] at q1
      obtain ⟨rfl, rfl⟩ := q1
      rw [Nat.mul_one] at q6
      have hul : us.length = zs.length := by have := q9.len; simpa using this.symm
      have hus : ∀ (i : Nat) (a : Int), zs[i]? = some a → us[i]? = some (.int .i64 a) := by
        intro i a hi
        have hlt : i < us.length := by rw [hul]; exact (List.getElem?_eq_some_iff.1 hi).1
        have hu : us[i]? = some us[i] := List.getElem?_eq_getElem hlt
        have := q9.at_ i (dI a) _ (by simp [hi]) hu
        have := rep_v this
        rw [hu, this]
      have hcs : ∀ (i : Nat) (a : Int), zs[i]? = some a → cs[i]? = some (.int .i64 a) := by
        intro i a hi
        have := q12 i _ 0 _ (hus i a hi) (show (Value.int IntKind.i64 a).cells[0]? = some (.int .i64 a) by rfl)
        simpa using this
      have hH : Go.Sort.Holds (Value.int .i64) w b 0 zs.toArray := by
        intro j hj
        have hj' : j < zs.length := by simpa using hj
        have hi : zs[j]? = some zs[j] := List.getElem?_eq_getElem hj'
        constructor
        · rw [cells_at q5, Nat.zero_add, hcs j _ hi, get_bang hi]
        · simp [World.frozen?, q5]
      refine (Try.slices_Sort_int b 0 c zs w hH (lt_of_heap q5) hsz).mono ?_
      rintro ex w' ⟨rfl, n, os, rfl⟩
      obtain ⟨cs', h5, h6, h7⟩ := sorted_heap (n := n) (os := os) (zs := srt zs) q5 (by rw [srt_length]; omega)
      refine ⟨_, g, .tup [], _, rfl, .refl g, ?_, .tup [] [] rfl (by intro i d u h; simp at h), rfl, rfl⟩
      refine h1.rearr (us := (srt zs).map fun a => Value.int .i64 a) (b := b) (c := c) (e := e) (cs := cs') hl (by rw [List.length_map]; exact ha) (by simp [srt_length]) (by omega) h5 (by omega) ?_ (by simp) ?_ ?_ ?_ ?_ ?_
      · refine h1.below.trans ⟨rfl, rfl, rfl, by simp, fun k hk => ?_⟩
        rw [Go.Sort.heap_grow_old _ _ (by simp; exact Nat.lt_of_lt_of_le hk h1.below.size)]
        have : b ≠ k := by omega
        simp [Go.Sort.putRow, Go.Sort.mapBlock, Array.getElem?_modify, this]
      · intro k hk hne
        rw [Go.Sort.heap_grow_old _ _ (by simp; exact hk)]
        have : b ≠ k := fun e => hne e.symm
        simp [Go.Sort.putRow, Go.Sort.mapBlock, Array.getElem?_modify, this]
      · exact ⟨by simp, fun i d u a1 a2 => by
          simp only [List.getElem?_map, Option.map_eq_some_iff] at a1 a2
          obtain ⟨x, hx, rfl⟩ := a1
          obtain ⟨y, hy, rfl⟩ := a2
          rw [hx] at hy; cases hy
          exact .v _ rfl⟩
      · intro i u hi
        simp only [List.getElem?_map, Option.map_eq_some_iff] at hi
        obtain ⟨x, _, rfl⟩ := hi; rfl
      · intro u hu x hx
        obtain ⟨a, _, rfl⟩ := List.mem_map.1 hu
        simp [Value.cells] at hx
        subst hx; rfl
      · intro i u j x hi hj
        simp only [List.getElem?_map, Option.map_eq_some_iff] at hi
        obtain ⟨a, ha', rfl⟩ := hi
        have hj0 : j = 0 := by have := (Array.getElem?_eq_some_iff.1 hj).1; simp [Value.cells] at this; exact this
        subst hj0
        simp [Value.cells] at hj
        subst hj
        simpa using h7 i a ha'
end Go.Proofs.Ytkibkahknibgfaa
