/-
  A text that is being built (strings.Builder): what its methods do, with all that stays; A text that is being built: its methods, walked once for whatever program bears them. By an AI agent.
-/
import Derived.Shelf.Strings.BuilderRune
set_option linter.unusedVariables false
set_option linter.unusedSimpArgs false
set_option maxRecDepth 100000
set_option maxHeartbeats 16000000
namespace Aml
open Go Go.RowKit
structure Stp (w w' : World) (v v' : Value) : Prop where
 os : w'.os = w.os
 tape : w'.tape = w.tape
 output : w'.output = w.output
 size : w.heap.size ≤ w'.heap.size
 drawn : w.drawn ≤ w'.drawn
 block : ∀ k, k < w.heap.size → v.ownBlock ≠ some k → w'.heap[k]? = w.heap[k]?
 place : v'.ownBlock = v.ownBlock ∨ ∃ r, v'.ownBlock = some r ∧ w.heap.size ≤ r
theorem Stp.alloc {w w' : World} {v v' : Value} {o : Obj} (h : Stp (w.alloc o) w' v v') : Stp w w' v v' where
 os := h.os
 tape := h.tape
 output := h.output
 size := Nat.le_trans (by simp) h.size
 drawn := h.drawn
 block := fun k hk hne => (h.block k (Nat.lt_of_lt_of_le hk (by simp)) hne).trans (heap_alloc_old w o hk)
 place := h.place.imp id fun ⟨r, a, b⟩ => ⟨r, a, Nat.le_trans (by simp) b⟩
theorem Stp.refl (w : World) (v : Value) : Stp w w v v := ⟨rfl, rfl, rfl, Nat.le_refl _, Nat.le_refl _, fun _ _ _ => rfl, .inl rfl⟩
theorem stp_row (w : World) (g n c n' c' : Nat) (cs : Array Value) : Stp w (w.setRow g cs) (.slice (some ⟨g, 0, none⟩) n c) (.slice (some ⟨g, 0, none⟩) n' c') :=
 ⟨rfl, rfl, rfl, by simp, Nat.le_refl _, fun k _ hk => setRow_other w g k _ (fun e => hk (by simp [Value.ownBlock, e])), .inl rfl⟩
theorem stp_new (w : World) (v : Value) (n c : Nat) (o : Obj) : Stp w (w.drew.alloc o) v (.slice (some ⟨w.heap.size, 0, none⟩) n c) :=
 ⟨rfl, rfl, rfl, by simp, Nat.le_succ _, fun k hk _ => heap_alloc_old w.drew o hk, .inr ⟨_, rfl, Nat.le_refl _⟩⟩
section
variable {P : Program}
theorem app_row (w : World) (t ty e : TypeId) (i : TypeInfo) (ht : P.underlying t = some (.slice e)) (hi : P.info? e = some i) (hz : i.zero = some (.int .u8 0)) (hsize : i.size = 1) (hby : i.bytes = 1)
  (v : Value) (n : Nat) (xs : List Value) (hown : w.ownsRowF 0 e 1 v n xs) (a : Addr) (m c : Nat) (news : List Value) (hm : 0 < m) (hl : news.length = m) (hnews : ∀ j u, news[j]? = some u → w.cell? (a.add j) = some u) (h1 : ∀ u ∈ news, u.oneCell' = true)
  (hlen : n + m ≤ 140737488355328) : ∃ v' w', (Builtin.append_ #[t, t] ty #[v, .slice (some a) m c]).run P w = .ok v' w' ∧ w'.ownsRowF 0 e 1 v' (n + m) (xs ++ news) ∧ Stp w w' v v' := by
 have h63 : n + m ≤ maxLen := by unfold maxLen; omega
 have hl' : news.length = m * i.size := by rw [hsize]; omega
 rcases hown.2 with ⟨rfl, rfl⟩ | ⟨g, cap, cur, fz, rfl, hbg, hg, hfz, hnc, hcm, hcs, htake⟩
 ·have hx : xs = [] := List.eq_nil_of_length_eq_zero (by simpa using hown.1)
  subst hx
  have hr := run_append_nil (P := P) w t ty e i (.int .u8 0) ht hi hz a m c news hl' hnews hm (by omega) (by rw [hby]; omega)
  have hge := grownCap_ge w m 0 e
  have hcm := grownCap_le_maxLen w m 0 e (by omega)
  refine ⟨_, _, hr, ?_, stp_new w _ _ _ _⟩
  rw [Nat.zero_add, List.nil_append]
  refine ⟨by omega, .inr ⟨w.heap.size, _, _, (0, 0), rfl, Nat.zero_le _, heap_alloc_new w.drew _, Nat.zero_le _, hge, hcm, ?_, ?_⟩⟩
  ·have hz1 : (Value.int IntKind.u8 0).cells.size = 1 := rfl
   simp only [Array.size_append, List.size_toArray, size_zeroCells, hz1, hl]
   omega
  ·simp only [Array.toList_append, Nat.mul_one, ← hl]
   exact List.take_left
 ·have hsmall : n + m ≤ 9223372036854775807 := by omega
  have hxl : xs.length = n := by simpa using hown.1
  have hll : (xs ++ news).length = (n + m) * 1 := by rw [List.length_append, hxl, hl, Nat.mul_one]
  by_cases hroom : n + m ≤ cap
  ·have hfit : n * i.size + news.length ≤ cur.size := by rw [hsize, hl, hcs]; omega
   have hr := run_append_roomF (P := P) w t ty e i ht hi g n cap cur fz hg (by rw [hsize]; exact hfz) a m c news hl' hnews h1 hroom hfit
   refine ⟨_, _, hr, ⟨hll, .inr ⟨g, cap, _, fz, rfl, hbg, setRow_heap w g cur _ e _ hg, by omega, hroom, hcm, ?_, ?_⟩⟩, stp_row w g _ _ _ _ _⟩
   ·simp only [List.size_toArray, List.length_append, List.length_take, List.length_drop, Array.length_toList]
    omega
   ·rw [hsize, htake, ← hll]
    exact List.take_left
  ·have holds : ∀ j u, xs[j]? = some u → w.cell? ((⟨g, 0, none⟩ : Addr).add j) = some u := hown.cells (g := g) rfl
   have hr := run_append_grow (P := P) w t ty e i (.int .u8 0) ht hi hz ⟨g, 0, none⟩ n cap xs (by rw [hsize]; simpa using hxl) holds a m c news hl' hnews (by omega) (by omega) (growslice_fits (by omega) (by rw [hby]; omega))
   have hge := grownCap_ge w (n + m) cap e
   have hcm2 := grownCap_le_maxLen w (n + m) cap e h63
   refine ⟨_, _, hr, ⟨hll, .inr ⟨w.heap.size, _, _, (0, 0), rfl, Nat.zero_le _, heap_alloc_new w.drew _, Nat.zero_le _, hge, hcm2, ?_, ?_⟩⟩, stp_new w _ _ _ _⟩
   ·have hz1 : (Value.int IntKind.u8 0).cells.size = 1 := rfl
    simp only [Array.size_append, List.size_toArray, size_zeroCells, hz1, hxl, hl]
    omega
   ·simp only [Array.toList_append, List.append_assoc]
    rw [← List.append_assoc, ← hll]
    exact List.take_left
theorem app_text (w : World) (t u ty e : TypeId) (i : TypeInfo) (ht : P.underlying t = some (.slice e)) (hu : P.underlying u = some .string) (hi : P.info? e = some i) (hz : i.zero = some (.int .u8 0)) (hsize : i.size = 1) (hby : i.bytes = 1)
  (v : Value) (n : Nat) (xs : List Value) (hown : w.ownsRowF 0 e 1 v n xs) (s : ByteArray) (hlen : n + s.size ≤ 140737488355328) :
  ∃ v' w', (Builtin.append_ #[t, u] ty #[v, .string s]).run P w = .ok v' w' ∧ w'.ownsRowF 0 e 1 v' (n + s.size) (xs ++ Lib.strCells s) ∧ Stp w w' v v' := by
 have h63 : n + s.size ≤ maxLen := by unfold maxLen; omega
 have hz1 : (Value.int IntKind.u8 0).cells.size = 1 := rfl
 rcases hown.2 with ⟨rfl, rfl⟩ | ⟨g, cap, cur, fz, rfl, hbg, hg, hfz, hnc, hcm, hcs, htake⟩
 ·have hx : xs = [] := List.eq_nil_of_length_eq_zero (by simpa using hown.1)
  subst hx
  by_cases hm : s.size = 0
  ·have hn : Lib.strCells s = [] := List.eq_nil_of_length_eq_zero (by rw [Lib.strCells_length]; exact hm)
   have hf := Lib.run_firstCells_string (P := P) w 1 s
   rw [hm] at hf
   refine ⟨.slice none 0 0, w, ?_, by rw [hm, hn]; exact World.ownsRowF_nil w 0 e 1, Stp.refl w _⟩
   simp [Builtin.append_, run_underlying ht, run_underlying hu, Go.sizeOf, typeInfo, hi, hsize, Builtin.lenOf, hm, hf]
  ·have hr := run_append_nil_string (P := P) w t u ty e i (.int .u8 0) ht hu hi hz s (by omega) (by omega) (by rw [hby]; omega)
   have e1 : (s.data.map fun b => Value.int .u8 b.toNat) = (Lib.strCells s).toArray := by
    apply Array.ext'
    simp [Lib.strCells]
   rw [e1] at hr
   have hge := grownCap_ge w s.size 0 e
   have hcm := grownCap_le_maxLen w s.size 0 e (by omega)
   refine ⟨_, _, hr, ?_, stp_new w _ _ _ _⟩
   rw [Nat.zero_add, List.nil_append]
   refine ⟨by rw [Lib.strCells_length]; omega, .inr ⟨w.heap.size, _, _, (0, 0), rfl, Nat.zero_le _, heap_alloc_new w.drew _, Nat.zero_le _, hge, hcm, ?_, ?_⟩⟩
   ·simp only [Array.size_append, List.size_toArray, size_zeroCells, hz1, Lib.strCells_length]
    omega
   ·simp only [Array.toList_append, Nat.mul_one, ← Lib.strCells_length]
    exact List.take_left
 ·have hxl : xs.length = n := by simpa using hown.1
  have hll : (xs ++ Lib.strCells s).length = (n + s.size) * 1 := by rw [List.length_append, hxl, Lib.strCells_length, Nat.mul_one]
  by_cases hroom : n + s.size ≤ cap
  ·have hcs' : cur.size = cap := by simpa using hcs
   have hr := Lib.run_append_room_stringF (P := P) w t u ty e i ht hu hi hsize g n cap cur fz hg (by simpa using hfz) s hroom (by omega)
   refine ⟨_, _, hr, ⟨hll, .inr ⟨g, cap, _, fz, rfl, hbg, setRow_heap w g cur _ e _ hg, by omega, hroom, hcm, ?_, ?_⟩⟩, stp_row w g _ _ _ _ _⟩
   ·simp only [List.size_toArray, List.length_append, List.length_take, List.length_drop, Array.length_toList, Lib.strCells_length]
    omega
   ·have ht' : cur.toList.take n = xs := by simpa using htake
    rw [ht', ← hll]
    exact List.take_left
  ·have holds : ∀ j u, xs[j]? = some u → w.cell? ((⟨g, 0, none⟩ : Addr).add j) = some u := hown.cells (g := g) rfl
   have hr := Lib.run_append_grow_string (P := P) w t u ty e i (.int .u8 0) ht hu hi hz ⟨g, 0, none⟩ n cap xs (by rw [hsize]; simpa using hxl) holds s (by omega) (by omega) (by rw [hby]; exact growslice_fits (by omega) (by omega))
   have hge := grownCap_ge w (n + s.size) cap e
   have hcm2 := grownCap_le_maxLen w (n + s.size) cap e h63
   refine ⟨_, _, hr, ⟨hll, .inr ⟨w.heap.size, _, _, (0, 0), rfl, Nat.zero_le _, heap_alloc_new w.drew _, Nat.zero_le _, hge, hcm2, ?_, ?_⟩⟩, stp_new w _ _ _ _⟩
   ·simp only [Array.size_append, List.size_toArray, size_zeroCells, hz1, hxl, Lib.strCells_length]
    omega
   ·simp only [Array.toList_append, List.append_assoc]
    rw [← List.append_assoc, ← hll]
    exact List.take_left
theorem wp_app_row {w : World} {ops : Array Oper} {rest : List Oper} {o : Oper} {a : Act} {Q : Exit → Act → World → Prop} (hgd : o.guard = none) (s x : Operand) (t : TypeId) (ho : o.op = .call { callee := .builtin .append, args := #[s, x], argTypes := #[t, t] })
  (e : TypeId) (i : TypeInfo) (ht : P.underlying t = some (.slice e)) (hi : P.info? e = some i) (hz : i.zero = some (.int .u8 0)) (hsize : i.size = 1) (hby : i.bytes = 1)
  (v : Value) (n : Nat) (xs : List Value) (hs : a.eval s = v) (hown : w.ownsRowF 0 e 1 v n xs) (ad : Addr) (m c : Nat) (news : List Value) (hx : a.eval x = .slice (some ad) m c) (hm : 0 < m) (hl : news.length = m) (hnews : ∀ j u, news[j]? = some u → w.cell? (ad.add j) = some u) (h1 : ∀ u ∈ news, u.oneCell' = true)
  (hlen : n + m ≤ 140737488355328) (h : ∀ v' w', w'.ownsRowF 0 e 1 v' (n + m) (xs ++ news) → Stp w w' v v' → wpList P ops Q rest (a.put o.dst v') w') : wpList P ops Q (o :: rest) a w := by
 refine wpList_plain hgd fun K hK => ?_
 obtain ⟨v', w', hr, h2, h3⟩ := app_row (P := P) w t o.type e i ht hi hz hsize hby v n xs hown ad m c news hm hl hnews h1 hlen
 unfold Oper.wp execOp
 simp only [ho, resolve, invoke, builtin, Sem.run_bind, Sem.run_pure, Result.andThen_ok, List.map_toArray, List.map_cons, List.map_nil, hs, hx, hr]
 exact hK _ _ (h v' w' h2 h3)
theorem wp_app_text {w : World} {ops : Array Oper} {rest : List Oper} {o : Oper} {a : Act} {Q : Exit → Act → World → Prop} (hgd : o.guard = none) (sl x : Operand) (t u : TypeId) (ho : o.op = .call { callee := .builtin .append, args := #[sl, x], argTypes := #[t, u] })
  (e : TypeId) (i : TypeInfo) (ht : P.underlying t = some (.slice e)) (hu : P.underlying u = some .string) (hi : P.info? e = some i) (hz : i.zero = some (.int .u8 0)) (hsize : i.size = 1) (hby : i.bytes = 1)
  (v : Value) (n : Nat) (xs : List Value) (hs : a.eval sl = v) (hown : w.ownsRowF 0 e 1 v n xs) (s : ByteArray) (hx : a.eval x = .string s) (hlen : n + s.size ≤ 140737488355328)
  (h : ∀ v' w', w'.ownsRowF 0 e 1 v' (n + s.size) (xs ++ Lib.strCells s) → Stp w w' v v' → wpList P ops Q rest (a.put o.dst v') w') : wpList P ops Q (o :: rest) a w := by
 refine wpList_plain hgd fun K hK => ?_
 obtain ⟨v', w', hr, h2, h3⟩ := app_text (P := P) w t u o.type e i ht hu hi hz hsize hby v n xs hown s hlen
 unfold Oper.wp execOp
 simp only [ho, resolve, invoke, builtin, Sem.run_bind, Sem.run_pure, Result.andThen_ok, List.map_toArray, List.map_cons, List.map_nil, hs, hx, hr]
 exact hK _ _ (h v' w' h2 h3)
end
structure SbP (T e b : Nat) (v : Value) (xs : List Value) (w w' : World) : Prop where
 os : w'.os = w.os
 tape : w'.tape = w.tape
 output : w'.output = w.output
 size : w.heap.size ≤ w'.heap.size
 drawn : w.drawn ≤ w'.drawn
 block : ∀ k, k < w.heap.size → k ≠ b → v.ownBlock ≠ some k → w'.heap[k]? = w.heap[k]?
 at_ : ∃ p v', w'.heap[b]? = some (.cells #[p, v'] T (0, 0)) ∧ (p = .pointer none ∨ p = .pointer (some ⟨b, 0, none⟩)) ∧ w'.ownsRowF 0 e 1 v' xs.length xs ∧ v'.ownBlock ≠ some b ∧ (v'.ownBlock = v.ownBlock ∨ ∃ r, v'.ownBlock = some r ∧ w.heap.size ≤ r)
structure SbW (T e b : Nat) (p v : Value) (xs : List Value) (w : World) : Prop where
 at_ : w.heap[b]? = some (.cells #[p, v] T (0, 0))
 own : p = .pointer none ∨ p = .pointer (some ⟨b, 0, none⟩)
 row : w.ownsRowF 0 e 1 v xs.length xs
 ne : v.ownBlock ≠ some b
theorem SbW.lt {T e b : Nat} {p v : Value} {xs : List Value} {w : World} (h : SbW T e b p v xs w) : b < w.heap.size := (Array.getElem?_eq_some_iff.1 h.at_).1
theorem SbP.put {T e b : Nat} {p v v' q : Value} {xs ys : List Value} {w w1 w2 : World} (h : SbW T e b p v xs w) (hq : q = .pointer none ∨ q = .pointer (some ⟨b, 0, none⟩)) (h1 : w1.heap[b]? = some (.cells #[q, v] T (0, 0))) (hf : ∀ k, k ≠ b → w1.heap[k]? = w.heap[k]?) (hz : w.heap.size ≤ w1.heap.size) (ho : w1.os = w.os ∧ w1.tape = w.tape ∧ w1.output = w.output ∧ w.drawn ≤ w1.drawn)
  (hs : Stp w1 w2 v v') (hr : w2.ownsRowF 0 e 1 v' ys.length ys) : SbP T e b v ys w (w2.setCell ⟨b, 1, none⟩ v') := by
 have hlt := h.lt
 have hb2 : w2.heap[b]? = some (.cells #[q, v] T (0, 0)) := by rw [hs.block b (by omega) h.ne]; exact h1
 have hne : v'.ownBlock ≠ some b := by
  rcases hs.place with hp | ⟨r, hp, hr⟩
  ·rw [hp]; exact h.ne
  ·rw [hp]; rintro e; cases e; omega
 refine ⟨hs.os.trans ho.1, hs.tape.trans ho.2.1, hs.output.trans ho.2.2.1, ?_, Nat.le_trans ho.2.2.2 hs.drawn, fun k hk hkb hkv => ?_, q, v', ?_, hq, ?_, hne, ?_⟩
 ·have := hs.size
  simp only [World.setCell, Array.size_modify]
  omega
 ·rw [Below.heap_setCell _ _ _ _ (fun e => hkb e), hs.block k (by omega) hkv, hf k hkb]
 ·simp [World.setCell, Array.getElem?_modify, hb2]
 ·exact hr.kept (row := some b) ⟨rfl, rfl, rfl, by simp [World.setCell], fun k _ hk => Below.heap_setCell _ _ _ _ (fun e => hk (by simp [e]))⟩ (Or.inr hne)
 ·rcases hs.place with hp | ⟨r, hp, hr⟩
  ·exact .inl hp
  ·exact .inr ⟨r, hp, by omega⟩
end Aml
namespace Aml
open Go Go.RowKit Go.Shelf Go.Proofs
set_option maxHeartbeats 4000000
variable {P : Program} {ρ : Ren}
theorem sbCheck (L : Lays.n240 P ρ) (X : Builder.X72 P ρ) {e b : Nat} {p v : Value} {xs : List Value} {w : World} (h : SbW (ρ.t 72) e b p v xs w) :
  Calls P (ρ.f 240) #[.pointer (some ⟨b, 0, none⟩)] w fun x w' => x = .returned (.tuple #[]) ∧ w'.heap[b]? = some (.cells #[.pointer (some ⟨b, 0, none⟩), v] (ρ.t 72) (0, 0)) ∧ (∀ k, k ≠ b → w'.heap[k]? = w.heap[k]?) ∧ w.heap.size ≤ w'.heap.size ∧ w'.os = w.os ∧ w'.tape = w.tape ∧ w'.output = w.output ∧ w.drawn ≤ w'.drawn := by
 have hat := h.at_
 rcases h.own with rfl | rfl
 ·refine (Any.Builder_copyCheck_fresh L X b w (by rw [Lib.cell_of_heap hat]; rfl) (by simp [World.shape?, hat]) (Lib.frozen_of_heap hat 0)).mono ?_
  rintro x w' ⟨rfl, rfl⟩
  exact ⟨rfl, by simp [World.setCell, Array.getElem?_modify, hat], fun k hk => Below.heap_setCell _ _ _ _ (fun e => hk e), by simp [World.setCell], rfl, rfl, rfl, Nat.le_refl _⟩
 ·refine (Any.Builder_copyCheck_used L X b w (by rw [Lib.cell_of_heap hat]; rfl)).mono ?_
  rintro x w' ⟨rfl, rfl⟩
  exact ⟨rfl, hat, fun _ _ => rfl, Nat.le_refl _, rfl, rfl, rfl, Nat.le_refl _⟩
theorem row_kept {w w' : World} {b : Nat} {e : TypeId} {v : Value} {n : Nat} {xs : List Value} (h : w.ownsRowF 0 e 1 v n xs) (hne : v.ownBlock ≠ some b) (hs : ∀ k, k ≠ b → w'.heap[k]? = w.heap[k]?) : w'.ownsRowF 0 e 1 v n xs := by
 refine ⟨h.1, ?_⟩
 rcases h.2 with h | ⟨g, cap, cur, fz, rfl, h1, h2, h3⟩
 ·exact .inl h
 ·exact .inr ⟨g, cap, cur, fz, rfl, h1, (hs g (fun e => hne (by simp [Value.ownBlock, e]))).trans h2, h3⟩
theorem row_slice {w : World} {e : TypeId} {v : Value} {n : Nat} {xs : List Value} (h : w.ownsRowF 0 e 1 v n xs) : ∃ a c, v = .slice a n c := by
 rcases h.2 with ⟨hv, h0⟩ | ⟨g, cap, cur, fz, hv, _⟩
 ·exact ⟨none, 0, by rw [hv, h0]⟩
 ·exact ⟨_, _, hv⟩
theorem sbByte (L : Lays.n167 P ρ) (X : Builder.Extra P ρ) {b : Nat} {p v : Value} {xs : List Value} {w : World} (h : SbW (ρ.t 72) (ρ.t 5) b p v xs w) (c : Int) (hlen : xs.length + 1 ≤ 140737488355328) :
  Calls P (ρ.f 167) #[.pointer (some ⟨b, 0, none⟩), .int .u8 c] w fun x w' => x = .returned .nilIface ∧ SbP (ρ.t 72) (ρ.t 5) b v (xs ++ [.int .u8 c]) w w' := by
 obtain ⟨i0, hi, hz0, hz1, hz2⟩ := info_parts X.infoByte
 have mixed := L.mixed
 have t72 := L.t72; have a72 := L.a72; have z72 := L.z72; have v72 := L.v72; have u72 := run_underlying L.t72
 have t70 := L.t70; have a70 := L.a70; have z70 := L.z70; have v70 := L.v70; have u70 := run_underlying L.t70
 have t5 := L.t5; have a5 := L.a5; have z5 := L.z5; have v5 := L.v5; have u5 := run_underlying L.t5
 have t37 := L.t37; have a37 := L.a37; have z37 := L.z37; have v37 := L.v37; have u37 := run_underlying L.t37
 have t9 := L.t9; have a9 := L.a9; have z9 := L.z9; have v9 := L.v9; have u9 := run_underlying L.t9
 have t4 := L.t4; have a4 := L.a4; have z4 := L.z4; have v4 := L.v4; have u4 := run_underlying L.t4
 have t164 := L.t164; have a164 := L.a164; have z164 := L.z164; have v164 := L.v164; have u164 := run_underlying L.t164
 have e240 : ∀ args w, (callFunc (ρ.f 240) args).run P w = .ok (.enter (ρ.f 240) args) w := enters_of L.f240 (by kernel_rfl) rfl
 obtain ⟨ao, cap, rfl⟩ := row_slice h.row
 go_enter L.f167, Body.n167_ntmps ρ
 go_wp2_with (go_at_fn (ρ.f 240); refine (sbCheck { L with } X.toX72 h).mono ?_)
 rintro x w1 ⟨rfl, hb1, hf, hz, ho⟩
 have c0 : w1.cell? ⟨b, 0, none⟩ = some (.pointer (some ⟨b, 0, none⟩)) := by rw [Lib.cell_of_heap hb1]; rfl
 have c1 : w1.cell? ⟨b, 1, none⟩ = some (.slice ao xs.length cap) := by rw [Lib.cell_of_heap hb1]; rfl
 have hrow := row_kept h.row h.ne hf
 go_wp2_with (at_builtin; refine wp_app_row rfl _ _ (ρ.t 37) rfl (ρ.t 5) i0 L.t37 hi hz0 hz1 hz2 _ _ _ rfl (hrow.alloc _) ⟨w1.heap.size, 0, none⟩ 1 1 [.int .u8 c] rfl (by decide) rfl ?c1 ?c2 ?c4 ?_)
 case c1 =>
  intro j u hj
  match j, hj with
  | 0, hj => simp at hj; subst hj; simp [Addr.add]
  | (j + 1), hj => simp at hj
 case c2 =>
  intro u hu; simp at hu; subst hu; rfl
 case c4 => omega
 intro v' w2 hr hs
 replace hs := hs.alloc
 have hb2 : w2.heap[b]? = some (.cells #[.pointer (some ⟨b, 0, none⟩), .slice ao xs.length cap] (ρ.t 72) (0, 0)) := by
  rw [hs.block b (by have := h.lt; omega) h.ne]; exact hb1
 have d0 : w2.cell? ⟨b, 0, none⟩ = some (.pointer (some ⟨b, 0, none⟩)) := by rw [Lib.cell_of_heap hb2]; rfl
 have d1 : w2.cell? ⟨b, 1, none⟩ = some (.slice ao xs.length cap) := by rw [Lib.cell_of_heap hb2]; rfl
 have f1 : w2.frozen? ⟨b, 1, none⟩ = false := Lib.frozen_of_heap hb2 1
 obtain ⟨ao', cap', rfl⟩ := row_slice hr
 go_wp2
 go_ret
 exact ⟨rfl, SbP.put h (.inr rfl) hb1 hf hz ho hs (by simpa using hr)⟩
theorem sbText (L : Lays.n166 P ρ) (X : Builder.Extra P ρ) {b : Nat} {p v : Value} {xs : List Value} {w : World} (h : SbW (ρ.t 72) (ρ.t 5) b p v xs w) (s : ByteArray) (hlen : xs.length + s.size ≤ 140737488355328) :
  Calls P (ρ.f 166) #[.pointer (some ⟨b, 0, none⟩), .string s] w fun x w' => x = .returned (.tuple #[.int .i64 s.size, .nilIface]) ∧ SbP (ρ.t 72) (ρ.t 5) b v (xs ++ Lib.strCells s) w w' := by
 obtain ⟨i0, hi, hz0, hz1, hz2⟩ := info_parts X.infoByte
 have mixed := L.mixed
 have t72 := L.t72; have a72 := L.a72; have z72 := L.z72; have v72 := L.v72; have u72 := run_underlying L.t72
 have t70 := L.t70; have a70 := L.a70; have z70 := L.z70; have v70 := L.v70; have u70 := run_underlying L.t70
 have t37 := L.t37; have a37 := L.a37; have z37 := L.z37; have v37 := L.v37; have u37 := run_underlying L.t37
 have t3 := L.t3; have a3 := L.a3; have z3 := L.z3; have v3 := L.v3; have u3 := run_underlying L.t3
 have t9 := L.t9; have a9 := L.a9; have z9 := L.z9; have v9 := L.v9; have u9 := run_underlying L.t9
 have t4 := L.t4; have a4 := L.a4; have z4 := L.z4; have v4 := L.v4; have u4 := run_underlying L.t4
 have t164 := L.t164; have a164 := L.a164; have z164 := L.z164; have v164 := L.v164; have u164 := run_underlying L.t164
 have t5 := X.t5; have a5 := X.a5; have z5 := X.z5; have v5 := X.v5; have u5 := run_underlying X.t5
 have e240 : ∀ args w, (callFunc (ρ.f 240) args).run P w = .ok (.enter (ρ.f 240) args) w := enters_of L.f240 (by kernel_rfl) rfl
 obtain ⟨ao, cap, rfl⟩ := row_slice h.row
 go_enter L.f166, Body.n166_ntmps ρ
 go_wp2_with (go_at_fn (ρ.f 240); refine (sbCheck { L with } X.toX72 h).mono ?_)
 rintro x w1 ⟨rfl, hb1, hf, hz, ho⟩
 have c0 : w1.cell? ⟨b, 0, none⟩ = some (.pointer (some ⟨b, 0, none⟩)) := by rw [Lib.cell_of_heap hb1]; rfl
 have c1 : w1.cell? ⟨b, 1, none⟩ = some (.slice ao xs.length cap) := by rw [Lib.cell_of_heap hb1]; rfl
 have hrow := row_kept h.row h.ne hf
 go_wp2_with (at_builtin; refine wp_app_text rfl _ _ (ρ.t 37) (ρ.t 9) rfl (ρ.t 5) i0 L.t37 L.t9 hi hz0 hz1 hz2 _ _ _ rfl hrow s rfl ?c4 ?_)
 case c4 => omega
 intro v' w2 hr hs
 have hb2 : w2.heap[b]? = some (.cells #[.pointer (some ⟨b, 0, none⟩), .slice ao xs.length cap] (ρ.t 72) (0, 0)) := by
  rw [hs.block b (by have := h.lt; omega) h.ne]; exact hb1
 have d0 : w2.cell? ⟨b, 0, none⟩ = some (.pointer (some ⟨b, 0, none⟩)) := by rw [Lib.cell_of_heap hb2]; rfl
 have d1 : w2.cell? ⟨b, 1, none⟩ = some (.slice ao xs.length cap) := by rw [Lib.cell_of_heap hb2]; rfl
 have f1 : w2.frozen? ⟨b, 1, none⟩ = false := Lib.frozen_of_heap hb2 1
 obtain ⟨ao', cap', rfl⟩ := row_slice hr
 go_wp2
 go_ret2
 exact ⟨rfl, SbP.put h (.inr rfl) hb1 hf hz ho hs (by simpa [Lib.strCells_length] using hr)⟩
theorem rune_two (L : Lays.n278 P ρ) (X : Builder.Extra P ρ) (v : Value) (n : Nat) (xs : List Value) (r : Int) (h0 : 128 ≤ r) (h1 : r ≤ 2047) (w : World) (hown : w.ownsRowF 0 (ρ.t 5) 1 v n xs) (hlen : n + 4 ≤ 140737488355328) :
  Calls P (ρ.f 278) #[v, .int .i32 r] w fun x w' => ∃ v', x = .returned v' ∧ w'.ownsRowF 0 (ρ.t 5) 1 v' (n + 2) (xs ++ [.int .u8 (192 + r / 64), .int .u8 (128 + r % 64)]) ∧ Stp w w' v v' := by
 obtain ⟨i0, hi, hz0, hz1, hz2⟩ := info_parts X.infoByte
 have mixed := L.mixed
 have t4 := L.t4; have a4 := L.a4; have z4 := L.z4; have v4 := L.v4; have u4 := run_underlying L.t4
 have t5 := L.t5; have a5 := L.a5; have z5 := L.z5; have v5 := L.v5; have u5 := run_underlying L.t5
 have t21 := L.t21; have a21 := L.a21; have z21 := L.z21; have v21 := L.v21; have u21 := run_underlying L.t21
 have t37 := L.t37; have a37 := L.a37; have z37 := L.z37; have v37 := L.v37; have u37 := run_underlying L.t37
 have t46 := L.t46; have a46 := L.a46; have z46 := L.z46; have v46 := L.v46; have u46 := run_underlying L.t46
 have t51 := L.t51; have a51 := L.a51; have z51 := L.z51; have v51 := L.v51; have u51 := run_underlying L.t51
 go_enter L.f278, Body.n278_ntmps ρ
 go_wp2_with (at_builtin; refine wp_app_row rfl _ _ (ρ.t 37) rfl (ρ.t 5) i0 L.t37 hi hz0 hz1 hz2 _ _ _ rfl (hown.alloc _) ⟨w.heap.size, 0, none⟩ 2 2 [.int .u8 (192 + r / 64), .int .u8 (128 + r % 64)] rfl (by decide) rfl ?c1 ?c2 ?c4 ?_)
 all_goals first
  | (intro v' w2 hr hs; go_wp2; go_ret; exact ⟨_, rfl, hr, hs.alloc⟩)
  | omega
  | exact ⟨rfl, rfl, rfl⟩
  | (
   intro u hu; simp at hu; rcases hu with rfl | rfl <;> rfl
   done)
  | (
   intro j u hj
   match j, hj with
   | 0, hj => simp at hj; subst hj; simp [Addr.add]
   | 1, hj => simp at hj; subst hj; simp [Addr.add]
   | (j + 2), hj => simp at hj
   )
theorem rune_three (L : Lays.n278 P ρ) (X : Builder.Extra P ρ) (v : Value) (n : Nat) (xs : List Value) (r : Int) (h0 : 2048 ≤ r) (h1 : r < 55296) (w : World) (hown : w.ownsRowF 0 (ρ.t 5) 1 v n xs) (hlen : n + 4 ≤ 140737488355328) :
  Calls P (ρ.f 278) #[v, .int .i32 r] w fun x w' => ∃ v', x = .returned v' ∧ w'.ownsRowF 0 (ρ.t 5) 1 v' (n + 3) (xs ++ [.int .u8 (224 + r / 4096), .int .u8 (128 + r / 64 % 64), .int .u8 (128 + r % 64)]) ∧ Stp w w' v v' := by
 obtain ⟨i0, hi, hz0, hz1, hz2⟩ := info_parts X.infoByte
 have mixed := L.mixed
 have t4 := L.t4; have a4 := L.a4; have z4 := L.z4; have v4 := L.v4; have u4 := run_underlying L.t4
 have t5 := L.t5; have a5 := L.a5; have z5 := L.z5; have v5 := L.v5; have u5 := run_underlying L.t5
 have t21 := L.t21; have a21 := L.a21; have z21 := L.z21; have v21 := L.v21; have u21 := run_underlying L.t21
 have t37 := L.t37; have a37 := L.a37; have z37 := L.z37; have v37 := L.v37; have u37 := run_underlying L.t37
 have t46 := L.t46; have a46 := L.a46; have z46 := L.z46; have v46 := L.v46; have u46 := run_underlying L.t46
 have t51 := L.t51; have a51 := L.a51; have z51 := L.z51; have v51 := L.v51; have u51 := run_underlying L.t51
 go_enter L.f278, Body.n278_ntmps ρ
 go_wp2_with (at_builtin; refine wp_app_row rfl _ _ (ρ.t 37) rfl (ρ.t 5) i0 L.t37 hi hz0 hz1 hz2 _ _ _ rfl (hown.alloc _) ⟨w.heap.size, 0, none⟩ 3 3 [.int .u8 (224 + r / 4096), .int .u8 (128 + r / 64 % 64), .int .u8 (128 + r % 64)] rfl (by decide) rfl ?c1 ?c2 ?c4 ?_)
 all_goals first
  | (intro v' w2 hr hs; go_wp2; go_ret; exact ⟨_, rfl, hr, hs.alloc⟩)
  | omega
  | exact ⟨rfl, rfl, rfl⟩
  | (
   intro u hu; simp at hu; rcases hu with rfl | rfl | rfl <;> rfl
   done)
  | (
   intro j u hj
   match j, hj with
   | 0, hj => simp at hj; subst hj; simp [Addr.add]
   | 1, hj => simp at hj; subst hj; simp [Addr.add]
   | 2, hj => simp at hj; subst hj; simp [Addr.add]
   | (j + 3), hj => simp at hj
   )
theorem rune_threeH (L : Lays.n278 P ρ) (X : Builder.Extra P ρ) (v : Value) (n : Nat) (xs : List Value) (r : Int) (h0 : 57343 < r) (h1 : r ≤ 65535) (w : World) (hown : w.ownsRowF 0 (ρ.t 5) 1 v n xs) (hlen : n + 4 ≤ 140737488355328) :
  Calls P (ρ.f 278) #[v, .int .i32 r] w fun x w' => ∃ v', x = .returned v' ∧ w'.ownsRowF 0 (ρ.t 5) 1 v' (n + 3) (xs ++ [.int .u8 (224 + r / 4096), .int .u8 (128 + r / 64 % 64), .int .u8 (128 + r % 64)]) ∧ Stp w w' v v' := by
 obtain ⟨i0, hi, hz0, hz1, hz2⟩ := info_parts X.infoByte
 have mixed := L.mixed
 have t4 := L.t4; have a4 := L.a4; have z4 := L.z4; have v4 := L.v4; have u4 := run_underlying L.t4
 have t5 := L.t5; have a5 := L.a5; have z5 := L.z5; have v5 := L.v5; have u5 := run_underlying L.t5
 have t21 := L.t21; have a21 := L.a21; have z21 := L.z21; have v21 := L.v21; have u21 := run_underlying L.t21
 have t37 := L.t37; have a37 := L.a37; have z37 := L.z37; have v37 := L.v37; have u37 := run_underlying L.t37
 have t46 := L.t46; have a46 := L.a46; have z46 := L.z46; have v46 := L.v46; have u46 := run_underlying L.t46
 have t51 := L.t51; have a51 := L.a51; have z51 := L.z51; have v51 := L.v51; have u51 := run_underlying L.t51
 go_enter L.f278, Body.n278_ntmps ρ
 go_wp2_with (at_builtin; refine wp_app_row rfl _ _ (ρ.t 37) rfl (ρ.t 5) i0 L.t37 hi hz0 hz1 hz2 _ _ _ rfl (hown.alloc _) ⟨w.heap.size, 0, none⟩ 3 3 [.int .u8 (224 + r / 4096), .int .u8 (128 + r / 64 % 64), .int .u8 (128 + r % 64)] rfl (by decide) rfl ?c1 ?c2 ?c4 ?_)
 all_goals first
  | (intro v' w2 hr hs; go_wp2; go_ret; exact ⟨_, rfl, hr, hs.alloc⟩)
  | omega
  | exact ⟨rfl, rfl, rfl⟩
  | (
   intro u hu; simp at hu; rcases hu with rfl | rfl | rfl <;> rfl
   done)
  | (
   intro j u hj
   match j, hj with
   | 0, hj => simp at hj; subst hj; simp [Addr.add]
   | 1, hj => simp at hj; subst hj; simp [Addr.add]
   | 2, hj => simp at hj; subst hj; simp [Addr.add]
   | (j + 3), hj => simp at hj
   )
theorem rune_four (L : Lays.n278 P ρ) (X : Builder.Extra P ρ) (v : Value) (n : Nat) (xs : List Value) (r : Int) (h0 : 65536 ≤ r) (h1 : r ≤ 1114111) (w : World) (hown : w.ownsRowF 0 (ρ.t 5) 1 v n xs) (hlen : n + 4 ≤ 140737488355328) :
  Calls P (ρ.f 278) #[v, .int .i32 r] w fun x w' => ∃ v', x = .returned v' ∧ w'.ownsRowF 0 (ρ.t 5) 1 v' (n + 4) (xs ++ [.int .u8 (240 + r / 262144), .int .u8 (128 + r / 4096 % 64), .int .u8 (128 + r / 64 % 64), .int .u8 (128 + r % 64)]) ∧ Stp w w' v v' := by
 obtain ⟨i0, hi, hz0, hz1, hz2⟩ := info_parts X.infoByte
 have mixed := L.mixed
 have t4 := L.t4; have a4 := L.a4; have z4 := L.z4; have v4 := L.v4; have u4 := run_underlying L.t4
 have t5 := L.t5; have a5 := L.a5; have z5 := L.z5; have v5 := L.v5; have u5 := run_underlying L.t5
 have t21 := L.t21; have a21 := L.a21; have z21 := L.z21; have v21 := L.v21; have u21 := run_underlying L.t21
 have t37 := L.t37; have a37 := L.a37; have z37 := L.z37; have v37 := L.v37; have u37 := run_underlying L.t37
 have t46 := L.t46; have a46 := L.a46; have z46 := L.z46; have v46 := L.v46; have u46 := run_underlying L.t46
 have t51 := L.t51; have a51 := L.a51; have z51 := L.z51; have v51 := L.v51; have u51 := run_underlying L.t51
 go_enter L.f278, Body.n278_ntmps ρ
 go_wp2_with (at_builtin; refine wp_app_row rfl _ _ (ρ.t 37) rfl (ρ.t 5) i0 L.t37 hi hz0 hz1 hz2 _ _ _ rfl (hown.alloc _) ⟨w.heap.size, 0, none⟩ 4 4 [.int .u8 (240 + r / 262144), .int .u8 (128 + r / 4096 % 64), .int .u8 (128 + r / 64 % 64), .int .u8 (128 + r % 64)] rfl (by decide) rfl ?c1 ?c2 ?c4 ?_)
 all_goals first
  | (intro v' w2 hr hs; go_wp2; go_ret; exact ⟨_, rfl, hr, hs.alloc⟩)
  | omega
  | exact ⟨rfl, rfl, rfl⟩
  | (
   intro u hu; simp at hu; rcases hu with rfl | rfl | rfl | rfl <;> rfl
   done)
  | (
   intro j u hj
   match j, hj with
   | 0, hj => simp at hj; subst hj; simp [Addr.add]
   | 1, hj => simp at hj; subst hj; simp [Addr.add]
   | 2, hj => simp at hj; subst hj; simp [Addr.add]
   | 3, hj => simp at hj; subst hj; simp [Addr.add]
   | (j + 4), hj => simp at hj
   )
theorem rune_neg (L : Lays.n278 P ρ) (X : Builder.Extra P ρ) (v : Value) (n : Nat) (xs : List Value) (r : Int) (h0 : -2147483648 ≤ r) (h1 : r < 0) (w : World) (hown : w.ownsRowF 0 (ρ.t 5) 1 v n xs) (hlen : n + 4 ≤ 140737488355328) :
  Calls P (ρ.f 278) #[v, .int .i32 r] w fun x w' => ∃ v', x = .returned v' ∧ w'.ownsRowF 0 (ρ.t 5) 1 v' (n + 3) (xs ++ [.int .u8 (239), .int .u8 (191), .int .u8 (189)]) ∧ Stp w w' v v' := by
 obtain ⟨i0, hi, hz0, hz1, hz2⟩ := info_parts X.infoByte
 have mixed := L.mixed
 have t4 := L.t4; have a4 := L.a4; have z4 := L.z4; have v4 := L.v4; have u4 := run_underlying L.t4
 have t5 := L.t5; have a5 := L.a5; have z5 := L.z5; have v5 := L.v5; have u5 := run_underlying L.t5
 have t21 := L.t21; have a21 := L.a21; have z21 := L.z21; have v21 := L.v21; have u21 := run_underlying L.t21
 have t37 := L.t37; have a37 := L.a37; have z37 := L.z37; have v37 := L.v37; have u37 := run_underlying L.t37
 have t46 := L.t46; have a46 := L.a46; have z46 := L.z46; have v46 := L.v46; have u46 := run_underlying L.t46
 have t51 := L.t51; have a51 := L.a51; have z51 := L.z51; have v51 := L.v51; have u51 := run_underlying L.t51
 go_enter L.f278, Body.n278_ntmps ρ
 go_wp2_with (at_builtin; refine wp_app_row rfl _ _ (ρ.t 37) rfl (ρ.t 5) i0 L.t37 hi hz0 hz1 hz2 _ _ _ rfl (hown.alloc _) ⟨w.heap.size, 0, none⟩ 3 3 [.int .u8 (239), .int .u8 (191), .int .u8 (189)] rfl (by decide) rfl ?c1 ?c2 ?c4 ?_)
 all_goals first
  | (intro v' w2 hr hs; go_wp2; go_ret; exact ⟨_, rfl, hr, hs.alloc⟩)
  | omega
  | exact ⟨rfl, rfl, rfl⟩
  | (
   intro u hu; simp at hu; rcases hu with rfl | rfl | rfl <;> rfl
   done)
  | (
   intro j u hj
   match j, hj with
   | 0, hj => simp at hj; subst hj; simp [Addr.add]
   | 1, hj => simp at hj; subst hj; simp [Addr.add]
   | 2, hj => simp at hj; subst hj; simp [Addr.add]
   | (j + 3), hj => simp at hj
   )
theorem rune_sur (L : Lays.n278 P ρ) (X : Builder.Extra P ρ) (v : Value) (n : Nat) (xs : List Value) (r : Int) (h0 : 55296 ≤ r) (h1 : r ≤ 57343) (w : World) (hown : w.ownsRowF 0 (ρ.t 5) 1 v n xs) (hlen : n + 4 ≤ 140737488355328) :
  Calls P (ρ.f 278) #[v, .int .i32 r] w fun x w' => ∃ v', x = .returned v' ∧ w'.ownsRowF 0 (ρ.t 5) 1 v' (n + 3) (xs ++ [.int .u8 (239), .int .u8 (191), .int .u8 (189)]) ∧ Stp w w' v v' := by
 obtain ⟨i0, hi, hz0, hz1, hz2⟩ := info_parts X.infoByte
 have mixed := L.mixed
 have t4 := L.t4; have a4 := L.a4; have z4 := L.z4; have v4 := L.v4; have u4 := run_underlying L.t4
 have t5 := L.t5; have a5 := L.a5; have z5 := L.z5; have v5 := L.v5; have u5 := run_underlying L.t5
 have t21 := L.t21; have a21 := L.a21; have z21 := L.z21; have v21 := L.v21; have u21 := run_underlying L.t21
 have t37 := L.t37; have a37 := L.a37; have z37 := L.z37; have v37 := L.v37; have u37 := run_underlying L.t37
 have t46 := L.t46; have a46 := L.a46; have z46 := L.z46; have v46 := L.v46; have u46 := run_underlying L.t46
 have t51 := L.t51; have a51 := L.a51; have z51 := L.z51; have v51 := L.v51; have u51 := run_underlying L.t51
 go_enter L.f278, Body.n278_ntmps ρ
 go_wp2_with (at_builtin; refine wp_app_row rfl _ _ (ρ.t 37) rfl (ρ.t 5) i0 L.t37 hi hz0 hz1 hz2 _ _ _ rfl (hown.alloc _) ⟨w.heap.size, 0, none⟩ 3 3 [.int .u8 (239), .int .u8 (191), .int .u8 (189)] rfl (by decide) rfl ?c1 ?c2 ?c4 ?_)
 all_goals first
  | (intro v' w2 hr hs; go_wp2; go_ret; exact ⟨_, rfl, hr, hs.alloc⟩)
  | omega
  | exact ⟨rfl, rfl, rfl⟩
  | (
   intro u hu; simp at hu; rcases hu with rfl | rfl | rfl <;> rfl
   done)
  | (
   intro j u hj
   match j, hj with
   | 0, hj => simp at hj; subst hj; simp [Addr.add]
   | 1, hj => simp at hj; subst hj; simp [Addr.add]
   | 2, hj => simp at hj; subst hj; simp [Addr.add]
   | (j + 3), hj => simp at hj
   )
theorem rune_big (L : Lays.n278 P ρ) (X : Builder.Extra P ρ) (v : Value) (n : Nat) (xs : List Value) (r : Int) (h0 : 1114111 < r) (h1 : r ≤ 2147483647) (w : World) (hown : w.ownsRowF 0 (ρ.t 5) 1 v n xs) (hlen : n + 4 ≤ 140737488355328) :
  Calls P (ρ.f 278) #[v, .int .i32 r] w fun x w' => ∃ v', x = .returned v' ∧ w'.ownsRowF 0 (ρ.t 5) 1 v' (n + 3) (xs ++ [.int .u8 (239), .int .u8 (191), .int .u8 (189)]) ∧ Stp w w' v v' := by
 obtain ⟨i0, hi, hz0, hz1, hz2⟩ := info_parts X.infoByte
 have mixed := L.mixed
 have t4 := L.t4; have a4 := L.a4; have z4 := L.z4; have v4 := L.v4; have u4 := run_underlying L.t4
 have t5 := L.t5; have a5 := L.a5; have z5 := L.z5; have v5 := L.v5; have u5 := run_underlying L.t5
 have t21 := L.t21; have a21 := L.a21; have z21 := L.z21; have v21 := L.v21; have u21 := run_underlying L.t21
 have t37 := L.t37; have a37 := L.a37; have z37 := L.z37; have v37 := L.v37; have u37 := run_underlying L.t37
 have t46 := L.t46; have a46 := L.a46; have z46 := L.z46; have v46 := L.v46; have u46 := run_underlying L.t46
 have t51 := L.t51; have a51 := L.a51; have z51 := L.z51; have v51 := L.v51; have u51 := run_underlying L.t51
 go_enter L.f278, Body.n278_ntmps ρ
 go_wp2_with (at_builtin; refine wp_app_row rfl _ _ (ρ.t 37) rfl (ρ.t 5) i0 L.t37 hi hz0 hz1 hz2 _ _ _ rfl (hown.alloc _) ⟨w.heap.size, 0, none⟩ 3 3 [.int .u8 (239), .int .u8 (191), .int .u8 (189)] rfl (by decide) rfl ?c1 ?c2 ?c4 ?_)
 all_goals first
  | (intro v' w2 hr hs; go_wp2; go_ret; exact ⟨_, rfl, hr, hs.alloc⟩)
  | omega
  | exact ⟨rfl, rfl, rfl⟩
  | (
   intro u hu; simp at hu; rcases hu with rfl | rfl | rfl <;> rfl
   done)
  | (
   intro j u hj
   match j, hj with
   | 0, hj => simp at hj; subst hj; simp [Addr.add]
   | 1, hj => simp at hj; subst hj; simp [Addr.add]
   | 2, hj => simp at hj; subst hj; simp [Addr.add]
   | (j + 3), hj => simp at hj
   )
theorem runeHi (L : Lays.n278 P ρ) (X : Builder.Extra P ρ) (v : Value) (n : Nat) (xs : List Value) (r : Int) (hr0 : -2147483648 ≤ r) (hr1 : r ≤ 2147483647) (hna : r < 0 ∨ 128 ≤ r) (w : World) (hown : w.ownsRowF 0 (ρ.t 5) 1 v n xs) (hlen : n + 4 ≤ 140737488355328) :
  Calls P (ρ.f 278) #[v, .int .i32 r] w fun x w' => ∃ v', x = .returned v' ∧ w'.ownsRowF 0 (ρ.t 5) 1 v' (n + (Lib.runeCells r).length) (xs ++ Lib.runeCells r) ∧ Stp w w' v v' := by
 by_cases c0 : r < 0
 ·rw [show Lib.runeCells r = [.int .u8 239, .int .u8 191, .int .u8 189] by simp [Lib.runeCells, Lib.encodeRuneZ_bad (Or.inl c0)]]
  exact rune_neg L X v n xs r hr0 c0 w hown hlen
 by_cases c1 : r ≤ 2047
 ·rw [show Lib.runeCells r = [.int .u8 (192 + r / 64), .int .u8 (128 + r % 64)] by simp [Lib.runeCells, Lib.encodeRuneZ_two (show 128 ≤ r by omega) c1]]
  exact rune_two L X v n xs r (by omega) c1 w hown hlen
 by_cases c2 : r < 55296
 ·rw [show Lib.runeCells r = [.int .u8 (224 + r / 4096), .int .u8 (128 + r / 64 % 64), .int .u8 (128 + r % 64)] by simp [Lib.runeCells, Lib.encodeRuneZ_three (Or.inl ⟨show 2048 ≤ r by omega, c2⟩)]]
  exact rune_three L X v n xs r (by omega) c2 w hown hlen
 by_cases c3 : r ≤ 57343
 ·rw [show Lib.runeCells r = [.int .u8 239, .int .u8 191, .int .u8 189] by simp [Lib.runeCells, Lib.encodeRuneZ_bad (Or.inr (Or.inl ⟨show 55296 ≤ r by omega, c3⟩))]]
  exact rune_sur L X v n xs r (by omega) c3 w hown hlen
 by_cases c4 : r ≤ 65535
 ·rw [show Lib.runeCells r = [.int .u8 (224 + r / 4096), .int .u8 (128 + r / 64 % 64), .int .u8 (128 + r % 64)] by simp [Lib.runeCells, Lib.encodeRuneZ_three (Or.inr ⟨show 57343 < r by omega, c4⟩)]]
  exact rune_threeH L X v n xs r (by omega) c4 w hown hlen
 by_cases c5 : r ≤ 1114111
 ·rw [show Lib.runeCells r = [.int .u8 (240 + r / 262144), .int .u8 (128 + r / 4096 % 64), .int .u8 (128 + r / 64 % 64), .int .u8 (128 + r % 64)] by simp [Lib.runeCells, Lib.encodeRuneZ_four (show 65536 ≤ r by omega) c5]]
  exact rune_four L X v n xs r (by omega) c5 w hown hlen
 ·rw [show Lib.runeCells r = [.int .u8 239, .int .u8 191, .int .u8 189] by simp [Lib.runeCells, Lib.encodeRuneZ_bad (r := r) (Or.inr (Or.inr (by omega)))]]
  exact rune_big L X v n xs r (by omega) hr1 w hown hlen
theorem rune_one (L : Lays.n242 P ρ) (X : Builder.Extra P ρ) (v : Value) (n : Nat) (xs : List Value) (r : Int) (h0 : 0 ≤ r) (h1 : r ≤ 127) (w : World) (hown : w.ownsRowF 0 (ρ.t 5) 1 v n xs) (hlen : n + 4 ≤ 140737488355328) :
  Calls P (ρ.f 242) #[v, .int .i32 r] w fun x w' => ∃ v', x = .returned v' ∧ w'.ownsRowF 0 (ρ.t 5) 1 v' (n + 1) (xs ++ [.int .u8 (r)]) ∧ Stp w w' v v' := by
 obtain ⟨i0, hi, hz0, hz1, hz2⟩ := info_parts X.infoByte
 have mixed := L.mixed
 have t4 := L.t4; have a4 := L.a4; have z4 := L.z4; have v4 := L.v4; have u4 := run_underlying L.t4
 have t5 := L.t5; have a5 := L.a5; have z5 := L.z5; have v5 := L.v5; have u5 := run_underlying L.t5
 have t21 := L.t21; have a21 := L.a21; have z21 := L.z21; have v21 := L.v21; have u21 := run_underlying L.t21
 have t37 := L.t37; have a37 := L.a37; have z37 := L.z37; have v37 := L.v37; have u37 := run_underlying L.t37
 have t46 := L.t46; have a46 := L.a46; have z46 := L.z46; have v46 := L.v46; have u46 := run_underlying L.t46
 have t51 := L.t51; have a51 := L.a51; have z51 := L.z51; have v51 := L.v51; have u51 := run_underlying L.t51
 go_enter L.f242, Body.n242_ntmps ρ
 go_wp2_with (at_builtin; refine wp_app_row rfl _ _ (ρ.t 37) rfl (ρ.t 5) i0 L.t37 hi hz0 hz1 hz2 _ _ _ rfl (hown.alloc _) ⟨w.heap.size, 0, none⟩ 1 1 [.int .u8 (r)] rfl (by decide) rfl ?c1 ?c2 ?c4 ?_)
 all_goals first
  | (intro v' w2 hr hs; go_wp2; go_ret; exact ⟨_, rfl, hr, hs.alloc⟩)
  | omega
  | exact ⟨rfl, rfl, rfl⟩
  | (
   intro u hu; simp at hu; subst hu; rfl
   done)
  | (
   intro j u hj
   match j, hj with
   | 0, hj => simp at hj; subst hj; simp [Addr.add]
   | (j + 1), hj => simp at hj
   )
theorem runeOther (L : Lays.n242 P ρ) (X : Builder.Extra P ρ) (v : Value) (n : Nat) (xs : List Value) (r : Int) (hr0 : -2147483648 ≤ r) (hr1 : r ≤ 2147483647) (hna : r < 0 ∨ 128 ≤ r) (w : World) (hown : w.ownsRowF 0 (ρ.t 5) 1 v n xs) (hlen : n + 4 ≤ 140737488355328) :
  Calls P (ρ.f 242) #[v, .int .i32 r] w fun x w' => ∃ v', x = .returned v' ∧ w'.ownsRowF 0 (ρ.t 5) 1 v' (n + (Lib.runeCells r).length) (xs ++ Lib.runeCells r) ∧ Stp w w' v v' := by
 have mixed := L.mixed
 have t4 := L.t4; have a4 := L.a4; have z4 := L.z4; have v4 := L.v4; have u4 := run_underlying L.t4
 have t5 := L.t5; have a5 := L.a5; have z5 := L.z5; have v5 := L.v5; have u5 := run_underlying L.t5
 have t21 := L.t21; have a21 := L.a21; have z21 := L.z21; have v21 := L.v21; have u21 := run_underlying L.t21
 have t37 := L.t37; have a37 := L.a37; have z37 := L.z37; have v37 := L.v37; have u37 := run_underlying L.t37
 have t46 := L.t46; have a46 := L.a46; have z46 := L.z46; have v46 := L.v46; have u46 := run_underlying L.t46
 have t51 := L.t51; have a51 := L.a51; have z51 := L.z51; have v51 := L.v51; have u51 := run_underlying L.t51
 have e278 : ∀ args w, (callFunc (ρ.f 278) args).run P w = .ok (.enter (ρ.f 278) args) w := enters_of L.f278 (by kernel_rfl) rfl
 rcases hna with hna | hna
 all_goals
  go_enter L.f242, Body.n242_ntmps ρ
  go_wp2_with (go_at_fn (ρ.f 278); refine (runeHi { L with } X v n xs r hr0 hr1 (by omega) _ hown hlen).mono ?_)
  rintro x w1 ⟨v', rfl, h1, h2⟩
  go_wp2
  go_ret
  exact ⟨_, rfl, h1, h2⟩
theorem appRune (L : Lays.n242 P ρ) (X : Builder.Extra P ρ) (v : Value) (n : Nat) (xs : List Value) (r : Int) (hr0 : -2147483648 ≤ r) (hr1 : r ≤ 2147483647) (w : World) (hown : w.ownsRowF 0 (ρ.t 5) 1 v n xs) (hlen : n + 4 ≤ 140737488355328) :
  Calls P (ρ.f 242) #[v, .int .i32 r] w fun x w' => ∃ v', x = .returned v' ∧ w'.ownsRowF 0 (ρ.t 5) 1 v' (n + (Lib.runeCells r).length) (xs ++ Lib.runeCells r) ∧ Stp w w' v v' := by
 by_cases c : 0 ≤ r ∧ r ≤ 127
 ·rw [show Lib.runeCells r = [.int .u8 r] by simp [Lib.runeCells, Lib.encodeRuneZ_one c.1 c.2]]
  exact rune_one L X v n xs r c.1 c.2 w hown hlen
 ·exact runeOther L X v n xs r hr0 hr1 (by omega) w hown hlen
theorem sbRune (L : Lays.n168 P ρ) (X : Builder.Extra P ρ) {b : Nat} {p v : Value} {xs : List Value} {w : World} (h : SbW (ρ.t 72) (ρ.t 5) b p v xs w) (r : Int) (hr0 : -2147483648 ≤ r) (hr1 : r ≤ 2147483647) (hlen : xs.length + 4 ≤ 140737488355328) :
  Calls P (ρ.f 168) #[.pointer (some ⟨b, 0, none⟩), .int .i32 r] w fun x w' => x = .returned (.tuple #[.int .i64 (Lib.runeCells r).length, .nilIface]) ∧ SbP (ρ.t 72) (ρ.t 5) b v (xs ++ Lib.runeCells r) w w' := by
 obtain ⟨i0, hi, hz0, hz1, hz2⟩ := info_parts X.infoByte
 have mixed := L.mixed
 have t0 := L.t0; have a0 := L.a0; have z0 := L.z0; have v0 := L.v0; have u0 := run_underlying L.t0
 have t3 := L.t3; have a3 := L.a3; have z3 := L.z3; have v3 := L.v3; have u3 := run_underlying L.t3
 have t4 := L.t4; have a4 := L.a4; have z4 := L.z4; have v4 := L.v4; have u4 := run_underlying L.t4
 have t5 := L.t5; have a5 := L.a5; have z5 := L.z5; have v5 := L.v5; have u5 := run_underlying L.t5
 have t9 := L.t9; have a9 := L.a9; have z9 := L.z9; have v9 := L.v9; have u9 := run_underlying L.t9
 have t20 := L.t20; have a20 := L.a20; have z20 := L.z20; have v20 := L.v20; have u20 := run_underlying L.t20
 have t21 := L.t21; have a21 := L.a21; have z21 := L.z21; have v21 := L.v21; have u21 := run_underlying L.t21
 have t37 := L.t37; have a37 := L.a37; have z37 := L.z37; have v37 := L.v37; have u37 := run_underlying L.t37
 have t46 := L.t46; have a46 := L.a46; have z46 := L.z46; have v46 := L.v46; have u46 := run_underlying L.t46
 have t51 := L.t51; have a51 := L.a51; have z51 := L.z51; have v51 := L.v51; have u51 := run_underlying L.t51
 have t70 := L.t70; have a70 := L.a70; have z70 := L.z70; have v70 := L.v70; have u70 := run_underlying L.t70
 have t72 := L.t72; have a72 := L.a72; have z72 := L.z72; have v72 := L.v72; have u72 := run_underlying L.t72
 have t75 := L.t75; have a75 := L.a75; have z75 := L.z75; have v75 := L.v75; have u75 := run_underlying L.t75
 have t164 := L.t164; have a164 := L.a164; have z164 := L.z164; have v164 := L.v164; have u164 := run_underlying L.t164
 have e240 : ∀ args w, (callFunc (ρ.f 240) args).run P w = .ok (.enter (ρ.f 240) args) w := enters_of L.f240 (by kernel_rfl) rfl
 have e242 : ∀ args w, (callFunc (ρ.f 242) args).run P w = .ok (.enter (ρ.f 242) args) w := enters_of L.f242 (by kernel_rfl) rfl
 have hk4 := Lib.runeCells_le r
 obtain ⟨ao, cap, rfl⟩ := row_slice h.row
 go_enter L.f168, Body.n168_ntmps ρ
 go_wp2_with (go_at_fn (ρ.f 240); refine (sbCheck { L with } X.toX72 h).mono ?_)
 rintro x w1 ⟨rfl, hb1, hf, hz, ho⟩
 have c0 : w1.cell? ⟨b, 0, none⟩ = some (.pointer (some ⟨b, 0, none⟩)) := by rw [Lib.cell_of_heap hb1]; rfl
 have c1 : w1.cell? ⟨b, 1, none⟩ = some (.slice ao xs.length cap) := by rw [Lib.cell_of_heap hb1]; rfl
 have hrow := row_kept h.row h.ne hf
 go_wp2_with (go_at_fn (ρ.f 242); refine (appRune { L with } X _ xs.length xs r hr0 hr1 _ hrow hlen).mono ?_)
 rintro x w2 ⟨v', rfl, hr, hs⟩
 have hb2 : w2.heap[b]? = some (.cells #[.pointer (some ⟨b, 0, none⟩), .slice ao xs.length cap] (ρ.t 72) (0, 0)) := by
  rw [hs.block b (by have := h.lt; omega) h.ne]; exact hb1
 have d0 : w2.cell? ⟨b, 0, none⟩ = some (.pointer (some ⟨b, 0, none⟩)) := by rw [Lib.cell_of_heap hb2]; rfl
 have d1 : w2.cell? ⟨b, 1, none⟩ = some (.slice ao xs.length cap) := by rw [Lib.cell_of_heap hb2]; rfl
 have f1 : w2.frozen? ⟨b, 1, none⟩ = false := Lib.frozen_of_heap hb2 1
 obtain ⟨ao', cap', rfl⟩ := row_slice hr
 go_wp2
 go_ret2
 refine ⟨?_, SbP.put h (.inr rfl) hb1 hf hz ho hs (by simpa using hr)⟩
 have e : ((xs.length : Int) + ((Lib.runeCells r).length : Int) - (xs.length : Int)) = ((Lib.runeCells r).length : Int) := by omega
 simp [e]
theorem sbString1 (L : Lays.n169 P ρ) (X : Builder.Extra P ρ) {b : Nat} {p v : Value} {l : List UInt8} {w : World} (h : SbW (ρ.t 72) (ρ.t 5) b p v (Lib.byteCells l) w) (h0 : l ≠ []) :
  Calls P (ρ.f 169) #[.pointer (some ⟨b, 0, none⟩)] w fun x w' => x = .returned (.string ⟨l.toArray⟩) ∧ SbP (ρ.t 72) (ρ.t 5) b v (Lib.byteCells l) w w' := by
 have hrow := h.row
 rw [Lib.byteCells_length] at hrow
 have hl0 : l.length ≠ 0 := by simpa using h0
 obtain ⟨g, cap, cur, fz, rfl, hbg, hg, hfz, hnc, hcm, hcs, htake⟩ : ∃ g cap cur fz, v = .slice (some ⟨g, 0, none⟩) l.length cap ∧ 0 ≤ g ∧ w.heap[g]? = some (.cells cur (ρ.t 5) fz) ∧ fz.2 ≤ l.length * 1 ∧ l.length ≤ cap ∧ cap ≤ maxLen ∧ cur.size = cap * 1 ∧ cur.toList.take (l.length * 1) = Lib.byteCells l := by
  rcases hrow.2 with ⟨_, hz⟩ | ⟨g, cap, cur, fz, hv, r⟩
  ·exact absurd hz hl0
  ·exact ⟨g, cap, cur, fz, hv, r⟩
 have hgb : g ≠ b := fun e => h.ne (by simp [Value.ownBlock, e])
 have c1 : w.drew.cell? ⟨b, 1, none⟩ = some (.slice (some ⟨g, 0, none⟩) l.length cap) := by
  have : w.drew.heap[b]? = _ := h.at_
  rw [Lib.cell_of_heap this]; rfl
 have hSD : (Builtin.unsafeSliceData_ #[(ρ.t 37)] (ρ.t 127) #[.slice (some ⟨g, 0, none⟩) l.length cap]).run P w.drew = .ok (.pointer (some ⟨g, 0, none⟩)) w.drew :=
  Lib.run_unsafeSliceData_row _ _ _ _ _ _ (by omega)
 have hUS : (Builtin.unsafeString_ #[(ρ.t 127), (ρ.t 3)] (ρ.t 9) #[.pointer (some ⟨g, 0, none⟩), .int .i64 l.length]).run P w.drew = .ok (.string ⟨l.toArray⟩) (w.drew.freeze ⟨g, 0, none⟩ l.length) := by
  refine Lib.run_unsafeString_row w.drew (ρ.t 127) (ρ.t 3) (ρ.t 9) (ρ.t 5) L.t127 X.cellsByte g cur.size (by have hg' : w.drew.heap[g]? = some (.cells cur (ρ.t 5) fz) := hg; simp [World.shape?, hg']) l h0 (by omega) (by unfold maxLen at hcm; omega) ?_
  intro j x hx
  have := hrow.cells (g := g) rfl j (.int .u8 x.toNat) (by simp [Lib.byteCells, hx])
  exact this
 have hfin : SbP (ρ.t 72) (ρ.t 5) b (.slice (some ⟨g, 0, none⟩) l.length cap) (Lib.byteCells l) w (w.drew.freeze ⟨g, 0, none⟩ l.length) := by
  unfold World.freeze
  rw [if_neg hl0]
  refine ⟨rfl, rfl, rfl, by simp, Nat.le_succ _, fun k hk hkb hkv => ?_, p, _, ?_, h.own, ?_, h.ne, .inl rfl⟩
  ·simp only [Array.getElem?_modify]
   rw [if_neg (fun e => hkv (by simp [Value.ownBlock, e]))]
   rfl
  ·simp only [Array.getElem?_modify]
   rw [if_neg hgb]
   exact h.at_
  ·rw [Lib.byteCells_length]
   refine ⟨hrow.1, ?_⟩
   obtain ⟨lo, hi⟩ := fz
   refine .inr ⟨g, _, cur, (if lo == hi then (0, 0 + l.length) else (min lo 0, max hi (0 + l.length))), rfl, hbg, ?_, ?_, hnc, hcm, hcs, htake⟩
   ·have hg' : w.drew.heap[g]? = some (.cells cur (ρ.t 5) (lo, hi)) := hg
    simp [Array.getElem?_modify, hg']
   ·simp only at hfz
    split <;> simp <;> omega
 have mixed := L.mixed
 have t72 := L.t72; have a72 := L.a72; have z72 := L.z72; have v72 := L.v72; have u72 := run_underlying L.t72
 have t70 := L.t70; have a70 := L.a70; have z70 := L.z70; have v70 := L.v70; have u70 := run_underlying L.t70
 have t37 := L.t37; have a37 := L.a37; have z37 := L.z37; have v37 := L.v37; have u37 := run_underlying L.t37
 have t127 := L.t127; have a127 := L.a127; have z127 := L.z127; have v127 := L.v127; have u127 := run_underlying L.t127
 have t3 := L.t3; have a3 := L.a3; have z3 := L.z3; have v3 := L.v3; have u3 := run_underlying L.t3
 have t9 := L.t9; have a9 := L.a9; have z9 := L.z9; have v9 := L.v9; have u9 := run_underlying L.t9
 have t5 := X.t5; have a5 := X.a5; have z5 := X.z5; have v5 := X.v5; have u5 := run_underlying X.t5
 go_enter L.f169, Body.n169_ntmps ρ
 go_wp2
 go_region_o
 all_goals (go_wp2; go_ret; exact ⟨rfl, hfin⟩)
theorem sbString0n (L : Lays.n169 P ρ) (X : Builder.Extra P ρ) {b : Nat} {p : Value} {w : World} (h : SbW (ρ.t 72) (ρ.t 5) b p (.slice none 0 0) [] w) :
  Calls P (ρ.f 169) #[.pointer (some ⟨b, 0, none⟩)] w fun x w' => x = .returned (.string ⟨#[]⟩) ∧ SbP (ρ.t 72) (ρ.t 5) b (.slice none 0 0) [] w w' := by
 have hUS := Any.unsafeString_none L X
 have hat := h.at_
 have hlt := h.lt
 have c1 : w.drew.cell? ⟨b, 1, none⟩ = some (.slice none 0 0) := by
  have : w.drew.heap[b]? = _ := h.at_
  rw [Lib.cell_of_heap this]; rfl
 have hSD : (Builtin.unsafeSliceData_ #[(ρ.t 37)] (ρ.t 127) #[.slice none 0 0]).run P w.drew = .ok (.pointer none) w.drew := rfl
 have mixed := L.mixed
 have t72 := L.t72; have a72 := L.a72; have z72 := L.z72; have v72 := L.v72; have u72 := run_underlying L.t72
 have t70 := L.t70; have a70 := L.a70; have z70 := L.z70; have v70 := L.v70; have u70 := run_underlying L.t70
 have t37 := L.t37; have a37 := L.a37; have z37 := L.z37; have v37 := L.v37; have u37 := run_underlying L.t37
 have t127 := L.t127; have a127 := L.a127; have z127 := L.z127; have v127 := L.v127; have u127 := run_underlying L.t127
 have t3 := L.t3; have a3 := L.a3; have z3 := L.z3; have v3 := L.v3; have u3 := run_underlying L.t3
 have t9 := L.t9; have a9 := L.a9; have z9 := L.z9; have v9 := L.v9; have u9 := run_underlying L.t9
 have t5 := X.t5; have a5 := X.a5; have z5 := X.z5; have v5 := X.v5; have u5 := run_underlying X.t5
 go_enter L.f169, Body.n169_ntmps ρ
 go_wp2
 go_region_o
 all_goals (go_wp2; go_ret; refine ⟨rfl, ⟨rfl, rfl, rfl, Nat.le_refl _, Nat.le_succ _, fun _ _ _ _ => rfl, p, _, h.at_, h.own, h.row, h.ne, .inl rfl⟩⟩)
theorem sbString0r (L : Lays.n169 P ρ) (X : Builder.Extra P ρ) {b : Nat} {p : Value} {w : World} {g cap : Nat} (hc0 : cap ≠ 0) (h : SbW (ρ.t 72) (ρ.t 5) b p (.slice (some ⟨g, 0, none⟩) 0 cap) [] w) :
  Calls P (ρ.f 169) #[.pointer (some ⟨b, 0, none⟩)] w fun x w' => x = .returned (.string ⟨#[]⟩) ∧ SbP (ρ.t 72) (ρ.t 5) b (.slice (some ⟨g, 0, none⟩) 0 cap) [] w w' := by
 have hUS := Any.unsafeString_none L X
 have hat := h.at_
 have hlt := h.lt
 have c1 : w.drew.cell? ⟨b, 1, none⟩ = some (.slice (some ⟨g, 0, none⟩) 0 cap) := by
  have : w.drew.heap[b]? = _ := h.at_
  rw [Lib.cell_of_heap this]; rfl
 have hSD : (Builtin.unsafeSliceData_ #[(ρ.t 37)] (ρ.t 127) #[.slice (some ⟨g, 0, none⟩) 0 cap]).run P w.drew = .ok (.pointer (some ⟨g, 0, none⟩)) w.drew :=
  Lib.run_unsafeSliceData_row _ _ _ _ _ _ hc0
 clear hc0
 have mixed := L.mixed
 have t72 := L.t72; have a72 := L.a72; have z72 := L.z72; have v72 := L.v72; have u72 := run_underlying L.t72
 have t70 := L.t70; have a70 := L.a70; have z70 := L.z70; have v70 := L.v70; have u70 := run_underlying L.t70
 have t37 := L.t37; have a37 := L.a37; have z37 := L.z37; have v37 := L.v37; have u37 := run_underlying L.t37
 have t127 := L.t127; have a127 := L.a127; have z127 := L.z127; have v127 := L.v127; have u127 := run_underlying L.t127
 have t3 := L.t3; have a3 := L.a3; have z3 := L.z3; have v3 := L.v3; have u3 := run_underlying L.t3
 have t9 := L.t9; have a9 := L.a9; have z9 := L.z9; have v9 := L.v9; have u9 := run_underlying L.t9
 have t5 := X.t5; have a5 := X.a5; have z5 := X.z5; have v5 := X.v5; have u5 := run_underlying X.t5
 go_enter L.f169, Body.n169_ntmps ρ
 go_wp2
 go_region_o
 all_goals (go_wp2; go_ret; refine ⟨rfl, ⟨rfl, rfl, rfl, Nat.le_refl _, Nat.le_succ _, fun _ _ _ _ => rfl, p, _, h.at_, h.own, h.row, h.ne, .inl rfl⟩⟩)
theorem row_new {w : World} {e g : Nat} {cur : Array Value} {fz : Nat × Nat} {v : Value} {n : Nat} {xs : List Value} (h : w.ownsRowF 0 e 1 v n xs) (hg : w.heap[g]? = some (.cells cur e fz)) (o : Obj) : (w.drew.alloc o).ownsRowF 0 e 1 v n xs :=
 (show w.drew.ownsRowF 0 e 1 v n xs from h).alloc o
theorem sbString0z (L : Lays.n169 P ρ) (X : Builder.Extra P ρ) {b : Nat} {p : Value} {w : World} {g : Nat} {cur : Array Value} {fz : Nat × Nat} (hg : w.heap[g]? = some (.cells cur (ρ.t 5) fz)) (h : SbW (ρ.t 72) (ρ.t 5) b p (.slice (some ⟨g, 0, none⟩) 0 0) [] w) :
  Calls P (ρ.f 169) #[.pointer (some ⟨b, 0, none⟩)] w fun x w' => x = .returned (.string ⟨#[]⟩) ∧ SbP (ρ.t 72) (ρ.t 5) b (.slice (some ⟨g, 0, none⟩) 0 0) [] w w' := by
 have hUS := Any.unsafeString_none L X
 have hat := h.at_
 have hlt := h.lt
 have c1 : w.drew.cell? ⟨b, 1, none⟩ = some (.slice (some ⟨g, 0, none⟩) 0 0) := by
  have : w.drew.heap[b]? = _ := h.at_
  rw [Lib.cell_of_heap this]; rfl
 have hSD : (Builtin.unsafeSliceData_ #[(ρ.t 37)] (ρ.t 127) #[.slice (some ⟨g, 0, none⟩) 0 0]).run P w.drew = .ok (.pointer (some ⟨w.drew.heap.size, 0, none⟩)) (w.drew.alloc (.view ⟨g, 0, none⟩ (ρ.t 5))) :=
  Lib.run_unsafeSliceData_zero w.drew _ _ (ρ.t 5) L.t127 ⟨g, 0, none⟩ 0 ((ρ.t 5), cur.size) (by have hg' : w.drew.heap[g]? = some (.cells cur (ρ.t 5) fz) := hg; simp [World.shape?, hg'])
 have c2 : (w.drew.alloc (.view ⟨g, 0, none⟩ (ρ.t 5))).cell? ⟨b, 1, none⟩ = some (.slice (some ⟨g, 0, none⟩) 0 0) := by
  have : (w.drew.alloc (.view ⟨g, 0, none⟩ (ρ.t 5))).heap[b]? = _ := (Lib.alloc_old w.drew _ b hlt).trans h.at_
  rw [Lib.cell_of_heap this]; rfl
 have c3 : (w.alloc (.view ⟨g, 0, none⟩ (ρ.t 5))).drew.cell? ⟨b, 1, none⟩ = some (.slice (some ⟨g, 0, none⟩) 0 0) := c2
 have c0 : w.cell? ⟨b, 1, none⟩ = some (.slice (some ⟨g, 0, none⟩) 0 0) := c1
 have mixed := L.mixed
 have t72 := L.t72; have a72 := L.a72; have z72 := L.z72; have v72 := L.v72; have u72 := run_underlying L.t72
 have t70 := L.t70; have a70 := L.a70; have z70 := L.z70; have v70 := L.v70; have u70 := run_underlying L.t70
 have t37 := L.t37; have a37 := L.a37; have z37 := L.z37; have v37 := L.v37; have u37 := run_underlying L.t37
 have t127 := L.t127; have a127 := L.a127; have z127 := L.z127; have v127 := L.v127; have u127 := run_underlying L.t127
 have t3 := L.t3; have a3 := L.a3; have z3 := L.z3; have v3 := L.v3; have u3 := run_underlying L.t3
 have t9 := L.t9; have a9 := L.a9; have z9 := L.z9; have v9 := L.v9; have u9 := run_underlying L.t9
 have t5 := X.t5; have a5 := X.a5; have z5 := X.z5; have v5 := X.v5; have u5 := run_underlying X.t5
 go_enter L.f169, Body.n169_ntmps ρ
 go_wp2
 go_region_o
 all_goals (go_wp2; go_ret; refine ⟨rfl, ⟨rfl, rfl, rfl, by simp, Nat.le_succ _, fun k hk _ _ => heap_alloc_old w _ hk, p, _, (heap_alloc_old w _ hlt).trans hat, h.own, row_new h.row hg _, h.ne, .inl rfl⟩⟩)
theorem sbString (L : Lays.n169 P ρ) (X : Builder.Extra P ρ) {b : Nat} {p v : Value} {l : List UInt8} {w : World} (h : SbW (ρ.t 72) (ρ.t 5) b p v (Lib.byteCells l) w) :
  Calls P (ρ.f 169) #[.pointer (some ⟨b, 0, none⟩)] w fun x w' => x = .returned (.string ⟨l.toArray⟩) ∧ SbP (ρ.t 72) (ρ.t 5) b v (Lib.byteCells l) w w' := by
 cases l with
 | cons x r => exact sbString1 L X h (by simp)
 | nil =>
  have h' : SbW (ρ.t 72) (ρ.t 5) b p v [] w := h
  rcases h'.row.2 with ⟨rfl, _⟩ | ⟨g, cap, cur, fz, rfl, _, hg, _⟩
  ·exact sbString0n L X h'
  ·by_cases hc0 : cap = 0
   ·subst hc0; exact sbString0z L X hg h'
   ·exact sbString0r L X hc0 h'
end Aml
