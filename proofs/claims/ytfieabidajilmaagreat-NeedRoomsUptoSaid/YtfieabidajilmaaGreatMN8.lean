/-
  NeedRooms. By an AI agent.
-/
import Derived.Test.YtfieabidajilmaaGreatMN6
import Derived.Test.YtfieabidajilmaaGreatMN5
import Derived.Test.YtfieabidajilmaaGreatMN7
namespace Go.Proofs.YtfieabidajilmaaGreat
open Aml Go
set_option linter.unusedVariables false
set_option linter.unusedSimpArgs false
set_option maxRecDepth 100000
theorem idx_lt {key : ByteArray} : ∀ {l : List C} {j : Nat} {a : C}, j < idxN l key → l[j]? = some a → ltS a.key key = true
  | [], j, a, h, _ => by simp [idxN] at h
  | c :: l, j, a, h, ha => by
    unfold idxN at h
    rw [List.takeWhile_cons] at h
    split at h
    · rename_i hc
      cases j with
      | zero => cases ha; exact hc
      | succ j => exact idx_lt (l := l) (j := j) (by unfold idxN; simpa using h) ha
    · simp at h
theorem idx_stop {key : ByteArray} : ∀ {l : List C} {a : C}, l[idxN l key]? = some a → ltS a.key key = false
  | [], a, h => by simp at h
  | c :: l, a, h => by
    unfold idxN at h
    rw [List.takeWhile_cons] at h
    split at h
    · exact idx_stop (l := l) h
    · rename_i hc
      cases h; simpa using hc
/-- Where a name stands among a view's trees, as the reference tells it. -/
def fiV (l : List C) (name : ByteArray) : Int := if hasN l name then (idxN l name : Int) else -1
theorem fi_yes {l : List C} {name : ByteArray} (h : hasN l name = true) : fiV l name = (idxN l name : Int) := by unfold fiV; rw [if_pos h]
theorem fi_no {l : List C} {name : ByteArray} (h : hasN l name = false) : fiV l name = -1 := by unfold fiV; rw [if_neg (by rw [h]; simp)]
theorem fi_at {l : List C} {name : ByteArray} (hr : Rise l) {k : Nat} {a : C} (ha : l[k]? = some a) (he : eqS a.key name = true) : fiV l name = (k : Int) := by
  have hk := eqS_iff.1 he
  obtain ⟨hk2, hak⟩ := List.getElem?_eq_some_iff.1 ha
  have hi : idxN l name = k := takeW_len (by omega) (fun i c hi hc => by
    have := List.pairwise_iff_getElem.1 hr i k (List.getElem?_eq_some_iff.1 hc).1 hk2 hi
    rw [(List.getElem?_eq_some_iff.1 hc).2, hak, hk] at this; exact this) (fun c hc => by rw [ha] at hc; cases hc; rw [hk]; exact ltS_irrefl _)
  have : hasN l name = true := by unfold hasN; rw [hi, ha]; exact he
  rw [fi_yes this, hi]
theorem fi_none {l : List C} {name : ByteArray} (h : ∀ (j : Nat) a, l[j]? = some a → eqS a.key name = false) : fiV l name = -1 := by
  refine fi_no (Bool.eq_false_iff.2 fun hh => ?_)
  obtain ⟨c, hc, hk⟩ := has_at hh
  have := h _ c hc
  rw [hk, eqS_self] at this; cases this
set_option maxHeartbeats 4000000 in
theorem rFind (w0 : W0) (n : N) (l : List C) (name : ByteArray) (S : St) (hr : Rise l) (hl : l.length ≤ 1048576) : ACall Tryz.prog w0 47 [eL n l, dS name] S (fun d S' => d = dI (fiV l name) ∧ S' = S) := by
  have f1 := fun k a => fi_at (name := name) hr (k := k) (a := a)
  have f2 := fi_none (l := l) (name := name)
  generalize fiV l name = R at *
  refine fnS [] mx Tryz.func47 rfl rfl (by kernel_rfl) ?_; (refine @goW _ ?_; refine goS1 @Tryz.ntmps47 ?_)
  intro b
  refine loopN [] l.length [1, 2, 5] (fun k => [(5, dI k)]) (fun _ => ⟨(b.n, [dI n.page, dB n.leaf, .sl 4 false (n.l.map dC), .sl 4 false (l.map dBl)]) :: S.box, S.acc⟩) (fun k => ∀ (j : Nat) a, j < k → l[j]? = some a → eqS a.key name = false) mx (by kernel_rfl) ?_ ?_
  · (refine @goW _ ?_; refine goS ?_)
    exact fun j a h => absurd h (by omega)
  · intro k hk hinv
    (refine @goW _ ?_; refine goS ?_)
    refine ⟨fun hlt => ⟨hlt, fun a ha => ⟨fun he => (f1 k a ha he).symm, fun he => ⟨hlt, fun j c hj hc => ?_, i_oneV k (by omega)⟩⟩⟩, fun hge => ?_⟩
    · rcases Nat.lt_succ_iff_lt_or_eq.1 hj with h | h
      · exact hinv j c h hc
      · subst h; cases getE ha hc; exact he
    · rw [f2 fun j a ha => hinv j a (by have := (List.getElem?_eq_some_iff.1 ha).1; omega) ha]
theorem rKey (w0 : W0) (s : ByteArray) (S : St) : ACall Tryz.prog w0 46 [dS s] S (fun d S' => d = dB (okKey s) ∧ S' = S) := by
  refine fnS [] mx Tryz.func46 rfl rfl (by kernel_rfl) ?_; (refine @goW _ ?_; refine goS1 @Tryz.ntmps46 ?_)
  have e : eqS s { data := #[] } = !decide (0 < s.size) := by
    have h1 : eqS s { data := #[] } = decide (s.data.toList = []) := rfl
    have h2 : s.size = s.data.toList.length := rfl
    rw [h1, h2]
    cases s.data.toList <;> simp
  rw [e]
  unfold okKey
  cases h0 : decide (0 < s.size) <;> simp; omega
theorem tbPutR (w0 : W0) {k : Nat} {n : N} {key val : ByteArray} (h : TB k n) (hk : k ≤ 200) (h1 : key.size ≤ 16) (h2 : val.size ≤ 400) (S : St) : ACall Tryz.prog w0 48 [eN n, dS key, dS val] S (fun e S' => e = eN (Put key val n) ∧ S' = S) := by
  obtain ⟨hr, d, hg, hd, ht⟩ := h
  exact PutW w0 key val h1 h2 d n S (good_nd hg) (by omega)
theorem tbDelR (w0 : W0) {k : Nat} {n : N} {key : ByteArray} (h : TB k n) (hk : k ≤ 200) (S : St) : ACall Tryz.prog w0 51 [eN n, dS key] S (fun e S' => e = .tup [eN (Del key n), dB (findN key n).isSome] ∧ S' = S) := by
  obtain ⟨hr, d, hg, hd, ht⟩ := h
  exact DelW w0 key d n S (good_nd hg) (by omega)
theorem rEm (w0 : W0) (S : St) : ACall Tryz.prog w0 39 [] S (fun e S' => e = eN emN ∧ S' = S) := by
  refine fnS [] mx Tryz.func39 rfl rfl (by kernel_rfl) ?_; (refine @goW _ ?_; refine goS1 @Tryz.ntmps39 ?_)
  intro b
  exact .agg (.cons (.refl _) (.cons (.refl _) (.cons (.nil _ _ _) .nil)))
theorem rEmV (w0 : W0) (S : St) : ACall Tryz.prog w0 10 [] S (fun e S' => e = eL emN [] ∧ S' = S) := by
  refine fnS [] mx Tryz.func10 rfl rfl (by kernel_rfl) ?_; (refine @goW _ ?_; refine goS1 @Tryz.ntmps10 ?_)
  intro b
  refine use1 (rEm w0 _) ?_
  (refine @goW _ ?_; exact goT)
set_option maxHeartbeats 8000000 in
theorem rMake (w0 : W0) (k : Nat) (name : ByteArray) (n : N) (l : List C) (S : St) (h : VI k n l) (hk : k ≤ 200) : ACall Tryz.prog w0 12 [eL n l, dS name] S (fun d S' => d = .tup [eL (mkV name n l).1.1 (mkV name n l).1.2, dI (mkV name n l).2] ∧ S' = S) := by
  have hln := h.len
  have hdir := h.dir
  have hrise := h.rise
  clear h
  have hil := idx_le l name
  have hput := fun (a : name.size ≤ 16) S => tbPutR w0 (key := name) (val := nwS) hdir hk a (by decide) S
  have q1 : okKey name = false → mkV name n l = ((n, l), 34) := fun e => by unfold mkV; rw [e]; rfl
  have q2 : okKey name = true → hasN l name = true → mkV name n l = ((n, l), 38) := fun e f => by unfold mkV; rw [e, f]; rfl
  have q3 : okKey name = true → hasN l name = false → mkV name n l = ((Put name nwS n, l.take (idxN l name) ++ [cellN name emN] ++ l.drop (idxN l name)), 0) := fun e f => by unfold mkV; rw [e, f]; rfl
  have g1 := fi_yes (l := l) (name := name)
  have g2 := fi_no (l := l) (name := name)
  have hfi := rFind w0 n l name
  generalize Put name nwS n = D at *
  generalize mkV name n l = R at *
  generalize fiV l name = F at *
  refine fnS [] mx Tryz.func12 rfl rfl (by kernel_rfl) ?_; (refine @goW _ ?_; refine goS1 @Tryz.ntmps12 ?_)
  intro b b1
  refine use1 (rKey w0 name _) ?_
  (refine @goW _ ?_; refine goS ?_)
  cases hok : okKey name with
  | false =>
    rw [q1 hok]
    (refine @goW _ ?_; exact goT)
  | true =>
    (refine @goW _ ?_; refine goS ?_)
    refine use1 (hfi _ hrise (by omega)) ?_
    (refine @goW _ ?_; refine goS ?_)
    cases hh : hasN l name with
    | true =>
      have := g1 hh
      rw [q2 hok hh]
      exact ⟨fun _ => .refl _, fun hn => absurd (by omega) hn⟩
    | false =>
      have := g2 hh
      rw [q3 hok hh]
      refine ⟨fun hn => absurd hn (by omega), fun _ => ?_⟩
      refine loopN [] (idxN l name) [1, 2, 4, 7] (fun k => [(7, dI k)]) (fun _ => ⟨(b1.n, [.v (.int .i64 0), .v (.bool false), .sl 0 true [], .sl 0 true []]) :: (b.n, [dI n.page, dB n.leaf, .sl 4 false (n.l.map dC), .sl 4 false (l.map dBl)]) :: S.box, S.acc⟩) (fun _ => True) mx (by kernel_rfl) ?_ ?_
      · (refine @goW _ ?_; exact goT)
      · intro j hj _
        (refine @goW _ ?_; refine goS ?_)
        have hmul : min j l.length * 56 ≤ 140737488355328 := by omega
        have hmx : min j l.length ≤ maxLen := by unfold maxLen; omega
        refine ⟨fun hlt => ⟨hlt, fun a ha => ⟨fun hl => ⟨?_, i_oneV j (by omega)⟩, fun hl => ⟨by omega, hmul, hmx, fun b2 => ?_⟩⟩⟩, fun hge => ⟨by omega, hmul, hmx, fun b2 => ?_⟩⟩
        · refine Nat.lt_of_le_of_ne hj fun e => ?_
          subst e
          rw [idx_stop ha] at hl; cases hl
        · have hj2 : j = idxN l name := Nat.le_antisymm hj (Nat.le_of_not_lt fun h => by rw [idx_lt h ha] at hl; cases hl)
          have hm8 : maxLen = 9223372036854775807 := rfl
          refine use1 (rEm w0 _) ?_
          (refine @goW _ ?_; refine goS ?_)
          refine ⟨by omega, by omega, by omega, by omega, by omega, use1 (hput (okKey_ne hok).2 _) ?_⟩
          (refine @goW _ ?_; refine goS ?_)
          rw [← hj2, List.map_append, List.map_append]
          exact .refl _
        · have hj2 : j = idxN l name := by omega
          have hm8 : maxLen = 9223372036854775807 := rfl
          refine use1 (rEm w0 _) ?_
          (refine @goW _ ?_; refine goS ?_)
          refine ⟨by omega, by omega, by omega, by omega, by omega, use1 (hput (okKey_ne hok).2 _) ?_⟩
          (refine @goW _ ?_; refine goS ?_)
          rw [← hj2, List.map_append, List.map_append]
          exact .refl _
end Go.Proofs.YtfieabidajilmaaGreat

namespace Go.Proofs.YtfieabidajilmaaGreat
open Aml Go
set_option linter.unusedVariables false
set_option linter.unusedSimpArgs false
set_option maxRecDepth 100000
set_option maxHeartbeats 8000000 in
theorem rDrop (w0 : W0) (k : Nat) (name : ByteArray) (n : N) (l : List C) (S : St) (h : VI k n l) (hk : k ≤ 200) : ACall Tryz.prog w0 14 [eL n l, dS name] S (fun d S' => d = .tup [eL (drV name n l).1.1 (drV name n l).1.2, dI (drV name n l).2] ∧ S' = S) := by
  have hln := h.len
  have hdir := h.dir
  have hrise := h.rise
  clear h
  have hlt := has_lt (l := l) (name := name)
  have hdel := fun S => tbDelR w0 (key := name) hdir hk S
  have q1 : hasN l name = false → drV name n l = ((n, l), 32) := fun e => by unfold drV; rw [e]; rfl
  have q2 : hasN l name = true → drV name n l = ((Del name n, l.take (idxN l name) ++ l.drop (idxN l name + 1)), 0) := fun e => by unfold drV; rw [e]; rfl
  have g1 := fi_yes (l := l) (name := name)
  have g2 := fi_no (l := l) (name := name)
  have hfi := rFind w0 n l name
  generalize Del name n = D at *
  generalize (findN name n).isSome = sm at *
  generalize drV name n l = R at *
  generalize fiV l name = F at *
  generalize hI : idxN l name = i at *
  refine fnS [] mx Tryz.func14 rfl rfl (by kernel_rfl) ?_; (refine @goW _ ?_; refine goS1 @Tryz.ntmps14 ?_)
  intro b b1
  refine use1 (hfi _ hrise (by omega)) ?_
  (refine @goW _ ?_; refine goS ?_)
  cases hh : hasN l name with
  | false =>
    have := g2 hh
    rw [q1 hh]
    exact ⟨fun _ => .refl _, fun hn => absurd (by omega) hn⟩
  | true =>
    have e1 := g1 hh
    have hil := hlt hh
    have e2 := i_oneV i (by omega)
    rw [q2 hh]
    subst e1
    have hm8 : maxLen = 9223372036854775807 := rfl
    rw [e2, Int.toNat_natCast, Int.toNat_natCast]
    refine ⟨fun hn => absurd hn (by omega), fun _ => ⟨by omega, by omega, by omega, by omega, fun b2 => ⟨by omega, by omega, by omega, by omega, use1 (hdel _) ?_⟩⟩⟩
    (refine @goW _ ?_; exact goT)
set_option maxHeartbeats 8000000 in
theorem rWith (w0 : W0) (k : Nat) (n t : N) (l : List C) (i : Nat) (c : C) (S : St) (h : VI k n l) (hk : k ≤ 200) (hc : l[i]? = some c) : ACall Tryz.prog w0 54 [eL n l, dI i, eN t] S (fun d S' => d = eL (Put c.key nwS n) (l.set i (cellN c.key t)) ∧ S' = S) := by
  have hln := h.len
  have hcell := h.cell c (List.mem_of_getElem? hc)
  have hput := fun S => tbPutR w0 (key := c.key) (val := nwS) h.dir hk (okKey_ne hcell.2.2).2 (by decide) S
  have hil := (List.getElem?_eq_some_iff.1 hc).1
  generalize Put c.key nwS n = D at *
  have em : (List.map dBl l).set i (.agg [.v (.string c.key), .v (.int .i64 t.page), .v (.bool t.leaf), .sl 4 false (List.map dC t.l)]) = (l.set i (cellN c.key t)).map dBl := by rw [List.map_set]; rfl
  have hg : (l.set i (cellN c.key t))[i]? = some (cellN c.key t) := by rw [List.getElem?_set_self hil]
  generalize l.set i (cellN c.key t) = M at *
  refine fnS [4] mx Tryz.func54 rfl rfl (by kernel_rfl) ?_; (refine @goW _ ?_; refine goS1 @Tryz.ntmps54 ?_)
  intro b b1 b2
  have hm8 : maxLen = 9223372036854775807 := rfl
  refine ⟨by omega, by omega, fun b3 => ⟨hil, hil, fun a ha => ?_⟩⟩
  cases getE hc ha
  rw [em]
  refine shrK [] [7] mx (by kernel_rfl) ?_
  (refine @goW _ ?_; refine goS1 @hg ?_)
  have hML : M.length = l.length := by have := congrArg List.length em; rw [List.length_set, List.length_map, List.length_map] at this; exact this.symm
  exact ⟨hML, (List.getElem?_eq_some_iff.1 hg).1, useQ (hput _) (by (refine @goW _ ?_; exact goT))⟩
theorem ch_yes {name : ByteArray} {f : N → N × Int} {n : N} {l : List C} {c : C} (hc : l[idxN l name]? = some c) (hh : hasN l name = true) (h0 : (f (kid0 c)).2 = 0) : chV name f n l = ((Put name nwS n, l.set (idxN l name) (cellN c.key (f (kid0 c)).1)), 0) := by unfold chV; rw [hh, hc]; simp only [if_true]; rw [if_pos h0]
theorem ch_bad {name : ByteArray} {f : N → N × Int} {n : N} {l : List C} {c : C} (hc : l[idxN l name]? = some c) (hh : hasN l name = true) (h0 : (f (kid0 c)).2 ≠ 0) : chV name f n l = ((n, l), (f (kid0 c)).2) := by unfold chV; rw [hh, hc]; simp only [if_true]; rw [if_neg h0]
theorem ch_no {name : ByteArray} {f : N → N × Int} {n : N} {l : List C} (hh : hasN l name = false) : chV name f n l = ((n, l), 32) := by unfold chV; rw [hh]; rfl
set_option maxHeartbeats 8000000 in
theorem rPut (w0 : W0) (k : Nat) (name key val : ByteArray) (n : N) (l : List C) (S : St) (h : VI k n l) (hk : k ≤ 116) : ACall Tryz.prog w0 17 [eL n l, dS name, dS key, dS val] S (fun d S' => d = .tup [eL (puV name key val n l).1.1 (puV name key val n l).1.2, dI (puV name key val n l).2] ∧ S' = S) := by
  have hln := h.len
  have hrise := h.rise
  have q1 : okKey key = false → puV name key val n l = ((n, l), 34) := fun e => by unfold puV; rw [e]; rfl
  have q2 : ¬ val.size ≤ 400 → puV name key val n l = ((n, l), 34) := fun e => by unfold puV; rw [decide_eq_false e, Bool.and_false]; rfl
  have q3 : okKey key = true → val.size ≤ 400 → puV name key val n l = chV name (fun t => (Put key val t, 0)) n l := fun e f => by unfold puV; rw [e, decide_eq_true f]; rfl
  have g1 := fi_yes (l := l) (name := name)
  have g2 := fi_no (l := l) (name := name)
  have hfi := rFind w0 n l name
  generalize puV name key val n l = R at *
  generalize fiV l name = F at *
  refine fnS [7] mx Tryz.func17 rfl rfl (by kernel_rfl) ?_; (refine @goW _ ?_; refine goS1 @Tryz.ntmps17 ?_)
  intro b b1
  refine use1 (rKey w0 key _) ?_
  (refine @goW _ ?_; refine goS ?_)
  cases hok : okKey key with
  | false => rw [q1 hok]; (refine @goW _ ?_; exact goT)
  | true =>
    (refine @goW _ ?_; refine goS ?_)
    refine ⟨fun h400 => by rw [q2 (by omega)]; (refine @goW _ ?_; exact goT), fun h400 => use1 (hfi _ hrise (by omega)) ?_⟩
    rw [q3 hok (by omega)]
    (refine @goW _ ?_; refine goS ?_)
    cases hh : hasN l name with
    | false =>
      have := g2 hh
      rw [ch_no hh]
      exact ⟨fun _ => .refl _, fun hn => absurd (by omega) hn⟩
    | true =>
      obtain ⟨c, hc, hck⟩ := has_at hh
      have e1 := g1 hh
      have hil := has_lt hh
      rw [ch_yes hc hh rfl, hck]
      have hcell := h.cell c (List.mem_of_getElem? hc)
      have hw := fun S => rWith w0 k n (Put key val (kid0 c)) l (idxN l name) c S h (by omega) hc
      rw [hck] at hw
      have hp := fun S => tbPutR w0 (key := key) (val := val) hcell.2.1 (by omega) (okKey_ne hok).2 (by omega) S
      generalize Put key val (kid0 c) = T at *
      generalize Put name nwS n = D at *
      subst e1
      refine ⟨fun hn => absurd hn (by omega), fun _ => ?_⟩
      refine lexK mx (by kernel_rfl) ?_
      (refine @goW _ ?_; refine goS ?_)
      refine ⟨hil, fun a ha => ?_⟩
      cases getE hc ha
      refine useX (fun B hB => hp _) ?_
      (refine @goW _ ?_; refine goS ?_)
      refine useX (fun B hB => hw _) ?_
      (refine @goW _ ?_; exact goT)
set_option maxHeartbeats 8000000 in
theorem rDel (w0 : W0) (k : Nat) (name key : ByteArray) (n : N) (l : List C) (S : St) (h : VI k n l) (hk : k ≤ 116) : ACall Tryz.prog w0 19 [eL n l, dS name, dS key] S (fun d S' => d = .tup [eL (deV name key n l).1.1 (deV name key n l).1.2, dI (deV name key n l).2] ∧ S' = S) := by
  have hln := h.len
  have hrise := h.rise
  have g1 := fi_yes (l := l) (name := name)
  have g2 := fi_no (l := l) (name := name)
  have hfi := rFind w0 n l name
  unfold deV
  cases hh : hasN l name with
  | false =>
    have := g2 hh
    rw [ch_no hh]
    generalize fiV l name = F at *
    refine fnS [] mx Tryz.func19 rfl rfl (by kernel_rfl) ?_; (refine @goW _ ?_; refine goS1 @Tryz.ntmps19 ?_)
    intro b b1
    refine use1 (hfi _ hrise (by omega)) ?_
    (refine @goW _ ?_; refine goS ?_)
    exact fun hn => absurd (by omega) hn
  | true =>
    obtain ⟨c, hc, hck⟩ := has_at hh
    have e1 := g1 hh
    have hil := has_lt hh
    have hcell := h.cell c (List.mem_of_getElem? hc)
    have hw := fun S => rWith w0 k n (Del key (kid0 c)) l (idxN l name) c S h (by omega) hc
    rw [hck] at hw
    have hp := fun S => tbDelR w0 (key := key) hcell.2.1 (by omega) S
    have q1 : (findN key (kid0 c)).isSome = true → chV name (fun t => if (findN key t).isSome then (Del key t, 0) else (t, 33)) n l = ((Put name nwS n, l.set (idxN l name) (cellN name (Del key (kid0 c)))), 0) := fun e => by
      rw [ch_yes hc hh (by simp only [e, if_true]), hck]; simp only [e, if_true]
    have q2 : (findN key (kid0 c)).isSome = false → chV name (fun t => if (findN key t).isSome then (Del key t, 0) else (t, 33)) n l = ((n, l), 33) := fun e => by
      rw [ch_bad hc hh (by simp only [e, Bool.false_eq_true, if_false]; decide)]; simp only [e, Bool.false_eq_true, if_false]
    generalize chV name (fun t => if (findN key t).isSome then (Del key t, 0) else (t, 33)) n l = R at *
    generalize (findN key (kid0 c)).isSome = sm at *
    generalize Del key (kid0 c) = T at *
    generalize Put name nwS n = D at *
    generalize fiV l name = F at *
    subst e1
    refine fnS [] mx Tryz.func19 rfl rfl (by kernel_rfl) ?_; (refine @goW _ ?_; refine goS1 @Tryz.ntmps19 ?_)
    intro b b1
    refine use1 (hfi _ hrise (by omega)) ?_
    (refine @goW _ ?_; refine goS ?_)
    refine ⟨fun hn => absurd hn (by omega), fun _ => ⟨by omega, fun a ha => ?_⟩⟩
    cases getE hc ha
    refine use1 (hp _) ?_
    (refine @goW _ ?_; refine goS ?_)
    intro b2
    refine ⟨fun hs => use1 (hw _) ?_, fun hs => by rw [q2 hs]; exact .refl _⟩
    rw [q1 hs]
    (refine @goW _ ?_; exact goT)
end Go.Proofs.YtfieabidajilmaaGreat

namespace Go.Proofs.YtfieabidajilmaaGreat
open Aml Go
set_option linter.unusedVariables false
set_option linter.unusedSimpArgs false
set_option maxRecDepth 100000
/-- A step. -/
structure Sn where
  kind : Int
  name : ByteArray
  key : ByteArray
  size : Int
@[go_sem] def dSn (s : Sn) : DV := .agg [dI s.kind, dS s.name, dS s.key, dI s.size]
@[go_sem] def rL (q : N × List C) : List DV := [dI q.1.page, dB q.1.leaf, .sl 4 false (q.1.l.map dC), .sl 4 false (q.2.map dBl)]
structure BS where
  k : Nat
  q : N × List C
  o : N × List C
  f : Int
/-- What a step comes to. -/
structure BZ where
  q : N × List C
  o : N × List C
  f : Int
  e : Int
set_option maxHeartbeats 16000000 in
theorem built22 (w0 : W0) (l : List Sn) (S : St) (hl : l.length ≤ 1048576) : ACall Tryz.prog w0 28 [.sl 4 false (l.map dSn)] S (fun d S' => ∃ (q o : N × List C) (b : Bool), d = .tup [eL q.1 q.2, eL o.1 o.2, dB b] ∧ (b = true → ∃ f, BI 70 q o f) ∧ S' = S) := by
  have fin : ∀ (q o : N × List C) (b : Bool) (S S' : St), (b = true → ∃ f, BI 70 q o f) → Aml.Sub S S' → ∃ d' S'', Wk (.tup [eL q.1 q.2, eL o.1 o.2, dB b]) d' ∧ Aml.Sub S'' S' ∧ ∃ (q o : N × List C) (b : Bool), d' = .tup [eL q.1 q.2, eL o.1 o.2, dB b] ∧ (b = true → ∃ f, BI 70 q o f) ∧ S'' = S := fun q o b S S' h1 h2 => ⟨_, _, .refl _, h2, q, o, b, rfl, h1, rfl⟩
  refine fnP [9,17,23,28,29] mx Tryz.func28 rfl rfl (by kernel_rfl) ?_; (refine @goW _ ?_; refine goS1 @Tryz.ntmps28 ?_)
  intro b b1
  refine use1 (rEmV w0 _) ?_
  (refine @goW _ ?_; refine goS ?_)
  intro b2 b3
  refine loopK [9, 17, 23, 28, 29, 1002] [0, 2, 3, 5, 6, 7, 8] (fun s : BS => [(7, dI s.f), (8, dI s.k)]) (fun s => ⟨(b3.n, rL s.o) :: (b2.n, rL s.q) :: (b1.n, [dI 0, dB false, .sl 0 true [], .sl 0 true []]) :: (b.n, [dI 0, dB false, .sl 0 true [], .sl 0 true []]) :: S.box, S.acc⟩) (fun s => s.k ≤ l.length ∧ s.k ≤ 70 ∧ BI s.k s.q s.o s.f) (fun s => l.length - s.k) ⟨0, (emN, []), (emN, []), 2⟩ mx (by kernel_rfl) ?_ ?_
  · (refine @goW _ ?_; refine goS ?_)
    exact ⟨Nat.zero_le _, bi_em⟩
  · rintro ⟨k, q, o, f⟩ ⟨h1, h2, h3⟩
    simp only at h1 h2 h3
    obtain ⟨qn, ql⟩ := q
    (refine @goW _ ?_; refine goS ?_)
    refine ⟨fun hlt => ⟨hlt, fun a ha b9 => ?_⟩, fun hge => ?_⟩
    · refine ⟨fun g1 => ?_, fun g1 => ⟨fun g2 => ?_, fun g2 => ⟨fun g3 => ?_, fun g3 => ⟨fun g4 => ?_, fun g4 => ?_⟩⟩⟩⟩
      iterate 4
        · refine Y.ordB [b.n, b1.n] [2, 3] [] [0, 1, 2, 3, 4] mx (by kernel_rfl) ?_
          (refine @goW _ ?_; refine goS ?_)
          exact fin (qn, ql) o false S _ (by simp) (.consB (.consB (.consB (.consB (.consB (.refl _))))))
      have e1 : (if a.size < 0 then 0 else a.size) = (a.size.toNat : Int) := by split <;> omega
      have hv : VI k qn ql := h3.v
      have wq0 := fun S => rMake w0 k a.name qn ql S hv (by omega)
      have wq1 := fun S => rDrop w0 k a.name qn ql S hv (by omega)
      have wq2 := fun S => rPut w0 k a.name a.key (strOfNums (List.replicate a.size.toNat 0)) qn ql S hv (by omega)
      have wq3 := fun S => rDel w0 k a.name a.key qn ql S hv (by omega)
      have wf := fun S => rFresh22 w0 k qn ql S hv (by omega)
      have wl := fun hf S => laidW22 w0 k qn ql o f S h3 (by omega) hf
      have i0 := bi_mk h3 (by omega) a.name
      have i1 := bi_dr h3 (by omega) a.name
      have i2 := bi_pu h3 (by omega) a.name a.key (strOfNums (List.replicate a.size.toNat 0))
      have i3 := bi_de h3 (by omega) a.name a.key
      have i4 := fun hf => bi_mono (bi_laid h3 hf) (Nat.le_succ k)
      have hfv : frV (qn, ql) ≤ 70000 * 117 := by
        have := tb_fr hv.dir (by omega)
        have := vi_frL hv (by omega)
        have := hv.len
        have : frV (qn, ql) = frT qn + frL ql := rfl
        omega
      have hflo := h3.lo
      have hfhi := h3.hi
      generalize mkV a.name qn ql = Q0 at *
      generalize drV a.name qn ql = Q1 at *
      generalize puV a.name a.key (strOfNums (List.replicate a.size.toNat 0)) qn ql = Q2 at *
      generalize deV a.name a.key qn ql = Q3 at *
      generalize laidQ (qn, ql) f = Q4 at *
      refine cutK (σ := BZ) [17, 23] [0, 2, 3, 5, 6, 7, 8, 9, 10] (fun s => [(7, dI s.f), (10, dI s.e)]) (fun s => ⟨(b9.n, [dI a.kind, dS a.name, dS a.key, dI a.size]) :: (b3.n, rL s.o) :: (b2.n, rL s.q) :: (b1.n, [dI 0, dB false, .sl 0 true [], .sl 0 true []]) :: (b.n, [dI 0, dB false, .sl 0 true [], .sl 0 true []]) :: S.box, S.acc⟩) (fun s => BI (k + 1) s.q s.o s.f) mx (by kernel_rfl) ?_ ?_
      · (refine @goW _ ?_; refine goS ?_)
        refine ⟨fun o0 => ?_, fun o0 => ⟨fun o1 => ?_, fun o1 => ⟨fun o2 => ?_, fun o2 => ⟨fun o3 => ?_, fun o3 => ⟨fun o4 => ?_, fun o4 => ?_⟩⟩⟩⟩⟩
        · refine use1 (wq0 _) ?_
          (refine @goW _ ?_; refine goS ?_)
          exact ⟨⟨Q0.1, o, f, Q0.2⟩, i0, ⟨rfl, rfl⟩, .refl _⟩
        · refine use1 (wq1 _) ?_
          (refine @goW _ ?_; refine goS ?_)
          exact ⟨⟨Q1.1, o, f, Q1.2⟩, i1, ⟨rfl, rfl⟩, .refl _⟩
        · refine Y.ordK [] [14] [1, 3, 5, 0, 2, 4, 6, 7, 8, 9, 10, 11, 12, 13, 14, 15] mx (by kernel_rfl) ?_
          (refine @goW _ ?_; refine goS1 @e1 ?_)
          refine ⟨by omega, by omega, Y.useO (fun T _ => wq2 T) ?_⟩
          (refine @goW _ ?_; refine goS ?_)
          exact ⟨⟨Q2.1, o, f, Q2.2⟩, i2, ⟨rfl, rfl⟩, .refl _⟩
        · refine use1 (wq3 _) ?_
          (refine @goW _ ?_; refine goS ?_)
          exact ⟨⟨Q3.1, o, f, Q3.2⟩, i3, ⟨rfl, rfl⟩, .refl _⟩
        · refine use1 (wf _) ?_
          have hw : IntKind.i64.wrap (f + (frV (qn, ql) : Int)) = f + (frV (qn, ql) : Int) := w64 (by omega) (by omega)
          (refine @goW _ ?_; refine goS1 @hw ?_)
          refine ⟨fun g5 => ?_, fun g5 => ?_⟩
          · refine Y.ordB [b.n, b1.n] [2, 3] [] [0, 1, 2, 3, 4] mx (by kernel_rfl) ?_
            (refine @goW _ ?_; refine goS ?_)
            exact fin (qn, ql) o false S _ (by simp) (.consB (.consB (.consB (.consB (.consB (.refl _))))))
          · refine use1 (wl (by omega) _) ?_
            (refine @goW _ ?_; refine goS ?_)
            exact ⟨⟨Q4, Q4, f + frV (qn, ql), 0⟩, i4 (by omega), ⟨hw, rfl⟩, .refl _⟩
        · exact ⟨⟨(qn, ql), o, f, 0⟩, bi_mono h3 (by omega), ⟨rfl, rfl⟩, .refl _⟩
      · rintro ⟨Q, O, F, e⟩ hB
        simp only at hB
        (refine @goW _ ?_; refine goS ?_)
        refine ⟨fun g5 => ?_, fun g5 => ?_⟩
        · refine Y.ordB [b.n, b1.n] [2, 3] [] [0, 1, 2, 3, 4] mx (by kernel_rfl) ?_
          (refine @goW _ ?_; refine goS ?_)
          exact fin Q O false S _ (by simp) (.consB (.consB (.consB (.consB (.consB (.refl _))))))
        · exact ⟨⟨k + 1, Q, O, F⟩, ⟨by simp only; omega, by simp only; omega, hB⟩, by simp only; omega, ⟨rfl, i_oneV k (by omega)⟩, ⟨List.sublist_cons_self _ _, List.Sublist.refl _⟩⟩
    · refine Y.ordB [b.n, b1.n] [2, 3] [] [0, 1, 2, 3, 4] mx (by kernel_rfl) ?_
      (refine @goW _ ?_; refine goS ?_)
      exact fin (qn, ql) o true S _ (fun _ => ⟨f, bi_mono h3 h2⟩) (.consB (.consB (.consB (.consB (.refl _)))))
end Go.Proofs.YtfieabidajilmaaGreat

namespace Go.Proofs.YtfieabidajilmaaGreat
open Aml Go
set_option linter.unusedVariables false
set_option linter.unusedSimpArgs false
set_option maxRecDepth 100000
end Go.Proofs.YtfieabidajilmaaGreat

namespace Go.Proofs.YtfieabidajilmaaGreat
open Aml Go
set_option linter.unusedVariables false
set_option linter.unusedSimpArgs false
set_option maxRecDepth 100000
/-- So many pages 0. -/
def zeL (n : Nat) : List Int := List.replicate n 0
set_option maxHeartbeats 8000000 in
theorem roomsW (w0 : W0) (l : List Sn) (x y : Nat) (S : St) (hl : l.length ≤ 1048576) (hx : x ≤ 255) (hy : y ≤ 255) : ACall Tryz.prog w0 6 [.sl 4 false (l.map dSn), dY x, dY y] S (fun d S' => d = dB true ∧ S' = S) := by
  have hbu := fun S => built22 w0 l S hl
  refine fnS [12] mx Tryz.func6 rfl rfl (by kernel_rfl) ?_; simp (maxDischargeDepth := 12) (maxSteps := 1000000) -implicitDefEqProofs only [Tryz.ntmps6, go_sem, Nat.reduceAdd, Nat.reduceSub, Nat.reduceMul, Nat.reduceLeDiff, Nat.reduceEqDiff, Nat.reduceGT, Nat.reduceBEq, reduceCtorEq, ↓reduceIte, Int.reduceToNat, Int.reduceLE, Int.reduceLT, Int.reduceNe, Int.reduceEq]
  refine use1 (awake22 w0 _) ?_
  simp (maxDischargeDepth := 12) (maxSteps := 1000000) -implicitDefEqProofs only [go_sem, Nat.reduceAdd, Nat.reduceSub, Nat.reduceMul, Nat.reduceLeDiff, Nat.reduceEqDiff, Nat.reduceGT, Nat.reduceBEq, reduceCtorEq, ↓reduceIte, Int.reduceToNat, Int.reduceLE, Int.reduceLT, Int.reduceNe, Int.reduceEq]
  refine useK (hbu _) ?_
  rintro d S' ⟨⟨n, l⟩, ⟨m, q⟩, b, rfl, hb, rfl⟩
  cases b with
  | false => simp (maxDischargeDepth := 12) (maxSteps := 1000000) -implicitDefEqProofs only [go_sem, Nat.reduceAdd, Nat.reduceSub, Nat.reduceMul, Nat.reduceLeDiff, Nat.reduceEqDiff, Nat.reduceGT, Nat.reduceBEq, reduceCtorEq, ↓reduceIte, Int.reduceToNat, Int.reduceLE, Int.reduceLT, Int.reduceNe, Int.reduceEq]
  | true =>
    obtain ⟨f, hB⟩ := hb rfl
    have hv : VI 70 n l := hB.v
    have wsh := fun S => shownW w0 70 n l S hv (by omega)
    have wf := fun S => needFreshW w0 70 n l S hv (by omega)
    simp (maxDischargeDepth := 12) (maxSteps := 1000000) -implicitDefEqProofs only [go_sem, Nat.reduceAdd, Nat.reduceSub, Nat.reduceMul, Nat.reduceLeDiff, Nat.reduceEqDiff, Nat.reduceGT, Nat.reduceBEq, reduceCtorEq, ↓reduceIte, Int.reduceToNat, Int.reduceLE, Int.reduceLT, Int.reduceNe, Int.reduceEq]
    intro b4 b5
    refine use1 (wsh _) ?_
    have e0 : IntKind.i64.wrap (x : Int) = (x : Int) := w64 (by omega) (by omega)
    have e1 : IntKind.i64.wrap (y : Int) = (y : Int) := w64 (by omega) (by omega)
    have e2 : IntKind.i64.wrap ((x : Int) + 1) = ((x + 1 : Nat) : Int) := by rw [w64 (by omega) (by omega)]; omega
    simp (maxDischargeDepth := 12) (maxSteps := 1000000) -implicitDefEqProofs only [go_sem, Nat.reduceAdd, Nat.reduceSub, Nat.reduceMul, Nat.reduceLeDiff, Nat.reduceEqDiff, Nat.reduceGT, Nat.reduceBEq, reduceCtorEq, ↓reduceIte, Int.reduceToNat, Int.reduceLE, Int.reduceLT, Int.reduceNe, Int.reduceEq, e0, e1, e2, Int.toNat_natCast, List.length_replicate]
    intro b6
    refine ⟨by omega, by omega, fun la b14 => ⟨by omega, by omega, fun lb b15 => ?_⟩⟩
    obtain ⟨N1, N2, N3, h0, h1, h2, h3, h4, h5, w1, w2, w3, w4⟩ : ∃ N1 N2 N3 : Nat, N1 ≤ 20000000 ∧ frV (n, l) ≤ N1 ∧ N1 ≤ N2 ∧ N2 ≤ N1 + 1 ∧ N1 ≤ N3 ∧ N3 ≤ N1 + 1 ∧ (∀ S, ACall Tryz.prog w0 33 [eV n l, .agg [dI 999, .sl 1 false (List.replicate x (dI 0)), .sl 2 false []], dI y] S (fun d S' => d = dI N1 ∧ S' = S)) ∧ (∀ S, ACall Tryz.prog w0 33 [eV n l, .agg [dI 999, .sl 1 false (List.replicate x (dI 0)), .sl 2 false []], dI ((y : Int) + 1)] S (fun d S' => d = dI N2 ∧ S' = S)) ∧ (∀ S, ACall Tryz.prog w0 33 [eV n l, .agg [dI 999, .sl 1 false (dI 0 :: List.replicate x (dI 0)), .sl 2 false []], dI y] S (fun d S' => d = dI N3 ∧ S' = S)) ∧ (∀ S, ACall Tryz.prog w0 33 [eV n l, .agg [dI 999, .sl 1 false (List.replicate x (dI 0)), .sl 2 false [.agg [dU 1, .sl 1 false [dI 0]]]], dI y] S (fun d S' => d = dI N2 ∧ S' = S)) := by
      have z : ∀ k : Nat, (zeL k).map dI = List.replicate k (dI 0) := fun k => List.map_replicate
      have zl : ∀ k : Nat, (zeL k).length = k := fun k => List.length_replicate
      have n1 := fun S => needNeedW w0 70 n l ⟨999, zeL x, []⟩ y S hv (by omega) (by rw [zl]; omega) (by simp) (by show 0 + y ≤ _; omega)
      have n2 := fun S => needNeedW w0 70 n l ⟨999, zeL x, []⟩ (y + 1) S hv (by omega) (by rw [zl]; omega) (by simp) (by show 0 + (y + 1) ≤ _; omega)
      have n3 := fun S => needNeedW w0 70 n l ⟨999, zeL (x + 1), []⟩ y S hv (by omega) (by rw [zl]; omega) (by simp) (by show 0 + y ≤ _; omega)
      have n4 := fun S => needNeedW w0 70 n l ⟨999, zeL x, [⟨1, [0]⟩]⟩ y S hv (by omega) (by rw [zl]; omega) (by simp) (by show 1 + y ≤ _; omega)
      have e1 : needV (n, l) ⟨999, zeL x, []⟩ y = frV (n, l) + ownN (x - frV (n, l)) y := by unfold needV; rw [zl, show nW ([] : List Wt) + y = y from Nat.zero_add y]
      have e2 : needV (n, l) ⟨999, zeL x, []⟩ (y + 1) = frV (n, l) + ownN (x - frV (n, l)) (y + 1) := by unfold needV; rw [zl, show nW ([] : List Wt) + (y + 1) = y + 1 from Nat.zero_add (y + 1)]
      have e3 : needV (n, l) ⟨999, zeL (x + 1), []⟩ y = frV (n, l) + ownN (x + 1 - frV (n, l)) y := by unfold needV; rw [zl, show nW ([] : List Wt) + y = y from Nat.zero_add y]
      have e4 : needV (n, l) ⟨999, zeL x, [⟨1, [0]⟩]⟩ y = frV (n, l) + ownN (x - frV (n, l)) (y + 1) := by unfold needV; rw [zl, show nW [(⟨1, [0]⟩ : Wt)] + y = y + 1 from Nat.add_comm 1 y]
      rw [e1] at n1
      rw [e2] at n2
      rw [e3] at n3
      rw [e4] at n4
      have o1 := own_wait (x - frV (n, l)) y
      have o2 : ownN (x - frV (n, l)) y ≤ ownN (x + 1 - frV (n, l)) y ∧ ownN (x + 1 - frV (n, l)) y ≤ ownN (x - frV (n, l)) y + 1 := by
        rcases Nat.lt_or_ge x (frV (n, l)) with h | h
        · rw [show x + 1 - frV (n, l) = x - frV (n, l) by omega]
          omega
        · rw [show x + 1 - frV (n, l) = x - frV (n, l) + 1 by omega]
          exact own_free _ _
      have ol := own_lt (x - frV (n, l)) y
      have ofl := frV_le hv (by omega)
      refine ⟨_, _, _, ?_, Nat.le_add_right _ _, ?_, ?_, ?_, ?_, fun S => acall_one (n1 S) (.cons (.refl _) (.cons (.eq ?_) (.cons (.refl _) .nil))) ⟨rfl, rfl⟩, fun S => acall_one (n2 S) (.cons (.refl _) (.cons (.eq ?_) (.cons (.refl _) .nil))) ⟨rfl, rfl⟩, fun S => acall_one (n3 S) (.cons (.refl _) (.cons (.eq ?_) (.cons (.refl _) .nil))) ⟨rfl, rfl⟩, fun S => acall_one (n4 S) (.cons (.refl _) (.cons (.eq ?_) (.cons (.refl _) .nil))) ⟨rfl, rfl⟩⟩
      · omega
      · omega
      · omega
      · omega
      · omega
      all_goals
        show _ = DV.agg [dI 999, .sl 1 false ((zeL _).map dI), .sl 2 false (List.map dW _)]
        rw [z]
        rfl
    have r1 : ∀ S, ACall Tryz.prog w0 37 [.agg [dI 999, .sl 1 false (List.replicate x (dI 0)), .sl 2 false []], dI 999] S (fun d S' => d = dI x ∧ S' = S) := fun S => by
      have h := room w0 ⟨999, zeL x, []⟩ 999 S (by show (List.replicate x _).length ≤ _; rw [List.length_replicate]; omega) (by show (-1099511627776 : Int) ≤ 999; decide) (by show (999 : Int) ≤ 1099511627776; decide) (by decide) (by decide)
      rw [show roomZ ⟨999, zeL x, []⟩ 999 = (x : Int) from by unfold roomZ zeL; rw [if_neg (by show ¬ (999 : Int) < 999; decide), List.length_replicate]; omega] at h
      exact acall_one h (.cons (.eq (by show _ = DV.agg [dI 999, .sl 1 false ((zeL _).map dI), .sl 2 false (List.map dW _)]; rw [zeL, List.map_replicate]; rfl)) (.cons (.refl _) .nil)) ⟨rfl, rfl⟩
    have r2 : ∀ S, ACall Tryz.prog w0 37 [.agg [dI 999, .sl 1 false (dI 0 :: List.replicate x (dI 0)), .sl 2 false []], dI 999] S (fun d S' => d = dI ((x : Int) + 1) ∧ S' = S) := fun S => by
      have h := room w0 ⟨999, zeL (x + 1), []⟩ 999 S (by show (List.replicate (x + 1) _).length ≤ _; rw [List.length_replicate]; omega) (by show (-1099511627776 : Int) ≤ 999; decide) (by show (999 : Int) ≤ 1099511627776; decide) (by decide) (by decide)
      rw [show roomZ ⟨999, zeL (x + 1), []⟩ 999 = (x : Int) + 1 from by unfold roomZ zeL; rw [if_neg (by show ¬ (999 : Int) < 999; decide), List.length_replicate]; omega] at h
      exact acall_one h (.cons (.eq (by show _ = DV.agg [dI 999, .sl 1 false ((zeL _).map dI), .sl 2 false (List.map dW _)]; rw [zeL, List.map_replicate]; rfl)) (.cons (.refl _) .nil)) ⟨rfl, rfl⟩
    have hf2 := frV_le hv (by omega)
    generalize frV (n, l) = F at *
    refine Y.ordK [] [7] [0, 1, 2, 3, 4, 5, 6, 7] mx (by kernel_rfl) ?_
    simp (maxDischargeDepth := 12) (maxSteps := 1000000) -implicitDefEqProofs only [go_sem, Nat.reduceAdd, Nat.reduceSub, Nat.reduceMul, Nat.reduceLeDiff, Nat.reduceEqDiff, Nat.reduceGT, Nat.reduceBEq, reduceCtorEq, ↓reduceIte, Int.reduceToNat, Int.reduceLE, Int.reduceLT, Int.reduceNe, Int.reduceEq, e0, e1, e2, Int.toNat_natCast, List.length_replicate]
    refine ⟨by omega, by omega, by omega, fun b16 => ?_⟩
    have hyw : IntKind.i64.wrap ((y : Int) + 1) = (y : Int) + 1 := w64 (by omega) (by omega)
    refine use1 (w1 _) ?_ (by simp (maxDischargeDepth := 12) (maxSteps := 1000000) -implicitDefEqProofs only [go_sem, Nat.reduceAdd, Nat.reduceSub, Nat.reduceMul, Nat.reduceLeDiff, Nat.reduceEqDiff, Nat.reduceGT, Nat.reduceBEq, reduceCtorEq, ↓reduceIte, Int.reduceToNat, Int.reduceLE, Int.reduceLT, Int.reduceNe, Int.reduceEq])
    simp (maxDischargeDepth := 12) (maxSteps := 1000000) -implicitDefEqProofs only [go_sem, Nat.reduceAdd, Nat.reduceSub, Nat.reduceMul, Nat.reduceLeDiff, Nat.reduceEqDiff, Nat.reduceGT, Nat.reduceBEq, reduceCtorEq, ↓reduceIte, Int.reduceToNat, Int.reduceLE, Int.reduceLT, Int.reduceNe, Int.reduceEq, hyw]
    refine use1 (w2 _) ?_ (by simp (maxDischargeDepth := 12) (maxSteps := 1000000) -implicitDefEqProofs only [go_sem, Nat.reduceAdd, Nat.reduceSub, Nat.reduceMul, Nat.reduceLeDiff, Nat.reduceEqDiff, Nat.reduceGT, Nat.reduceBEq, reduceCtorEq, ↓reduceIte, Int.reduceToNat, Int.reduceLE, Int.reduceLT, Int.reduceNe, Int.reduceEq])
    simp (maxDischargeDepth := 12) (maxSteps := 1000000) -implicitDefEqProofs only [go_sem, Nat.reduceAdd, Nat.reduceSub, Nat.reduceMul, Nat.reduceLeDiff, Nat.reduceEqDiff, Nat.reduceGT, Nat.reduceBEq, reduceCtorEq, ↓reduceIte, Int.reduceToNat, Int.reduceLE, Int.reduceLT, Int.reduceNe, Int.reduceEq]
    refine use1 (w3 _) ?_ (by simp (maxDischargeDepth := 12) (maxSteps := 1000000) -implicitDefEqProofs only [go_sem, Nat.reduceAdd, Nat.reduceSub, Nat.reduceMul, Nat.reduceLeDiff, Nat.reduceEqDiff, Nat.reduceGT, Nat.reduceBEq, reduceCtorEq, ↓reduceIte, Int.reduceToNat, Int.reduceLE, Int.reduceLT, Int.reduceNe, Int.reduceEq])
    simp (maxDischargeDepth := 12) (maxSteps := 1000000) -implicitDefEqProofs only [go_sem, Nat.reduceAdd, Nat.reduceSub, Nat.reduceMul, Nat.reduceLeDiff, Nat.reduceEqDiff, Nat.reduceGT, Nat.reduceBEq, reduceCtorEq, ↓reduceIte, Int.reduceToNat, Int.reduceLE, Int.reduceLT, Int.reduceNe, Int.reduceEq]
    refine useQ (wf _) ?_
    have hnw : IntKind.i64.wrap ((N1 : Int) + 1) = (N1 : Int) + 1 := w64 (by omega) (by omega)
    have g3 : (N2 : Int) ≤ (N1 : Int) + 1 := by omega
    have g5 : (N3 : Int) ≤ (N1 : Int) + 1 := by omega
    simp (maxDischargeDepth := 12) (maxSteps := 1000000) -implicitDefEqProofs only [go_sem, Nat.reduceAdd, Nat.reduceSub, Nat.reduceMul, Nat.reduceLeDiff, Nat.reduceEqDiff, Nat.reduceGT, Nat.reduceBEq, reduceCtorEq, ↓reduceIte, Int.reduceToNat, Int.reduceLE, Int.reduceLT, Int.reduceNe, Int.reduceEq, hnw, h1, h2, g3, h4, g5]
    refine useQ (w4 _) ?_ (by simp (maxDischargeDepth := 12) (maxSteps := 1000000) -implicitDefEqProofs only [go_sem, Nat.reduceAdd, Nat.reduceSub, Nat.reduceMul, Nat.reduceLeDiff, Nat.reduceEqDiff, Nat.reduceGT, Nat.reduceBEq, reduceCtorEq, ↓reduceIte, Int.reduceToNat, Int.reduceLE, Int.reduceLT, Int.reduceNe, Int.reduceEq])
    simp (maxDischargeDepth := 12) (maxSteps := 1000000) -implicitDefEqProofs only [go_sem, Nat.reduceAdd, Nat.reduceSub, Nat.reduceMul, Nat.reduceLeDiff, Nat.reduceEqDiff, Nat.reduceGT, Nat.reduceBEq, reduceCtorEq, ↓reduceIte, Int.reduceToNat, Int.reduceLE, Int.reduceLT, Int.reduceNe, Int.reduceEq]
    refine useQ (r2 _) ?_ (by simp (maxDischargeDepth := 12) (maxSteps := 1000000) -implicitDefEqProofs only [go_sem, Nat.reduceAdd, Nat.reduceSub, Nat.reduceMul, Nat.reduceLeDiff, Nat.reduceEqDiff, Nat.reduceGT, Nat.reduceBEq, reduceCtorEq, ↓reduceIte, Int.reduceToNat, Int.reduceLE, Int.reduceLT, Int.reduceNe, Int.reduceEq])
    simp (maxDischargeDepth := 12) (maxSteps := 1000000) -implicitDefEqProofs only [go_sem, Nat.reduceAdd, Nat.reduceSub, Nat.reduceMul, Nat.reduceLeDiff, Nat.reduceEqDiff, Nat.reduceGT, Nat.reduceBEq, reduceCtorEq, ↓reduceIte, Int.reduceToNat, Int.reduceLE, Int.reduceLT, Int.reduceNe, Int.reduceEq]
    refine useQ (r1 _) ?_ (by simp (maxDischargeDepth := 12) (maxSteps := 1000000) -implicitDefEqProofs only [go_sem, Nat.reduceAdd, Nat.reduceSub, Nat.reduceMul, Nat.reduceLeDiff, Nat.reduceEqDiff, Nat.reduceGT, Nat.reduceBEq, reduceCtorEq, ↓reduceIte, Int.reduceToNat, Int.reduceLE, Int.reduceLT, Int.reduceNe, Int.reduceEq])
    have hxw : IntKind.i64.wrap ((x : Int) + 1) = (x : Int) + 1 := w64 (by omega) (by omega)
    simp (maxDischargeDepth := 12) (maxSteps := 1000000) -implicitDefEqProofs only [go_sem, Nat.reduceAdd, Nat.reduceSub, Nat.reduceMul, Nat.reduceLeDiff, Nat.reduceEqDiff, Nat.reduceGT, Nat.reduceBEq, reduceCtorEq, ↓reduceIte, Int.reduceToNat, Int.reduceLE, Int.reduceLT, Int.reduceNe, Int.reduceEq, hxw]
end Go.Proofs.YtfieabidajilmaaGreat

namespace Go.Proofs.YtfieabidajilmaaGreat
open Aml Go Go.RowKit Go.ChangeShapes
set_option linter.unusedVariables false
set_option linter.unusedSimpArgs false
set_option maxRecDepth 100000
theorem sum_oneE {α : Type} (l : List α) : (l.map fun _ => 1).sum = l.length := by
  induction l with
  | nil => rfl
  | cons a l ih => simp only [List.map_cons, List.sum_cons, List.length_cons, ih]; omega
theorem rdSn {W : World} : Rd Tryz.prog W 128 (fun s : Sn => [dI s.kind, dS s.name, dS s.key, dI s.size]) (fun s => 1) (fun s => True) := by
  have h := rd_struct (W := W) Tryz.underlying128 (total := 4) (by kernel_rfl) rfl (rdF_cons (k := 1) (rd_i64 Tryz.underlying3) rfl (by kernel_rfl) (rdF_cons (k := 1) (rd_str Tryz.underlying9) rfl (by kernel_rfl) (rdF_cons (k := 1) (rd_str Tryz.underlying9) rfl (by kernel_rfl) (rdF_cons (k := 1) (rd_i64 Tryz.underlying3) rfl (by kernel_rfl) rdF_nil))))
  exact h.conv (fun a => ⟨a.1, a.2.1, a.2.2.1, a.2.2.2.1⟩) (fun _ => rfl) (fun a => by omega) fun _ _ => trivial
theorem rdSns {W : World} : Rd Tryz.prog W 64 (fun l : List Sn => [.sl 4 false (l.map dSn)]) (fun l => l.length) (fun l => True) :=
  (rd_sliceA rdSn Tryz.underlying64 (k := 4) (by kernel_rfl) (by omega)).conv id (fun _ => rfl) (fun l => by simp only [id, sum_oneE]; omega) fun _ _ => trivial
end Go.Proofs.YtfieabidajilmaaGreat

namespace Go.Proofs.YtfieabidajilmaaGreat
open Aml Go Go.RowKit Go.ChangeShapes
set_option linter.unusedVariables false
set_option linter.unusedSimpArgs false
set_option maxRecDepth 100000
theorem roomsZ (w0 : W0) (l : List Sn) (x y : Int) (S : St) (hl : l.length ≤ 1048576) (hx : 0 ≤ x ∧ x ≤ 255) (hy : 0 ≤ y ∧ y ≤ 255) : ACall Tryz.prog w0 6 [.sl 4 false (l.map dSn), dY x, dY y] S (fun d S' => d = dB true ∧ S' = S) := by
  obtain ⟨a, rfl⟩ := Int.eq_ofNat_of_zero_le hx.1
  obtain ⟨b, rfl⟩ := Int.eq_ofNat_of_zero_le hy.1
  exact roomsW w0 l a b S hl (by omega) (by omega)
theorem needRooms_own : ownKnob Tryz.prog.godebug = none := by kernel_rfl
set_option maxHeartbeats 1000000 in
theorem needRooms_contract (H : Type) (enc : TypeId × Value → H) (W : World) (base : Nat) (args : Array Value) (ds gs : List (DataW H)) (before : List MemPlace)
    (hval : ∀ (j : Nat) t v, Tryz.f6.params[j]? = some t → args[j]? = some v → Value.okWide Tryz.prog W .any base t v)
    (hW : DataW.Whole enc Tryz.prog Tryz.f6.params.toList Rows.needRoomsSpec.vars false W args.toList ds gs before) (hk : Rows.uptoBulkAll (ds ++ gs) ≤ 1048576) :
    Calls Tryz.prog 6 args W fun e W' => ∃ v, e = .returned v ∧ Rows.needRoomsSpec.post enc Tryz.prog Tryz.f6 false true false false W args v W' :=
  law_contract enc (ts := [64, 5, 5]) (tb := 4) (rdA_one rdSns (by kernel_rfl) (rdA_one (rd_u8 Tryz.underlying5) (by kernel_rfl) (rdA_one (rd_u8 Tryz.underlying5) (by kernel_rfl) rdA_nil))) Tryz.params6 rfl Tryz.underlying4 rfl (by kernel_rfl) (by intro t ht; revert t; decide +kernel) (fun ds hd => by
    first
    | (match ds, hd with | [_], _ => rfl)
    | (match ds, hd with | [_, _], _ => rfl)
    | (match ds, hd with | [_, _, _], _ => rfl)
    | (match ds, hd with | [_, _, _, _], _ => rfl)) (fun a ha hs => (roomsZ W a.1 a.2.1 a.2.2.1 ⟨[], []⟩ (by omega) ha.2.1 ha.2.2.1).mono fun d S' h => h.1) base args ds gs before hval hW hk
set_option maxRecDepth 100000 in
theorem needRooms_lifted (os : Os) (started : os.Started) (H : Type) (enc : TypeId × Value → H) (F : Stop.Interp) :
    ReturnsInHanded {} Tryz.checked os 6 .any ((Rows.OpenSpec.upto Rows.needRoomsSpec).pre6 enc Tryz.prog Tryz.f6 Rows.needRoomsUptoRow.domain false) (((Rows.OpenSpec.upto Rows.needRoomsSpec).at F).post enc Tryz.prog Tryz.f6 false true false false) := by
  refine returnsInHanded_of_cond (C := Tryz.checked) (s := Rows.OpenSpec.upto Rows.needRoomsSpec) (k := Rows.uptoSmall) rfl needRooms_own started (by kernel_rfl) Tryz.func6
    (OpenSpec.witness (enc := enc) (C := Tryz.checked) (s := Rows.OpenSpec.upto Rows.needRoomsSpec) (k := Rows.uptoSmall) rfl false ⟨#[], #[.slice none 0 0, .int .u8 0, .int .u8 0], []⟩ 8 (by kernel_rfl) (by kernel_rfl) (by kernel_rfl)
      (x := ([.nil, .lit (.int .u8 0), .lit (.int .u8 0)], [], [])) (by kernel_rfl) rfl (by kernel_rfl)) ?_
  intro W base args ds gs before hval hW _ hk _
  exact needRooms_contract H enc W base args ds gs before hval hW (of_decide_eq_true hk)
/-- THE STATEMENT. -/
theorem needRooms_holds : Rows.NeedRoomsUptoSaid :=
  OpenClaim.holds_of_cond 6 Tryz.f6 rfl rfl rfl rfl rfl rfl rfl ⟨rfl, rfl, rfl, rfl, rfl⟩ rfl rfl rfl rfl rfl (by kernel_rfl) Tryz.func6 (by kernel_rfl)
    (of_decide_eq_true (by kernel_rfl)) (by unfold Func.isWrapper; first | (rw [if_pos (by decide +kernel)]; kernel_rfl) | (rw [if_neg (by decide +kernel)]; exact ⟨rfl, rfl⟩))
    (fun os started H enc _ F => needRooms_lifted os started H enc F)

end Go.Proofs.YtfieabidajilmaaGreat
