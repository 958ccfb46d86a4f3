/-
  NeedLaid. By an AI agent.
-/
import Derived.Test.YtfieabidajilmaaGreatMN6
import Derived.Test.YtfieabidajilmaaGreatMN5
import Derived.Test.YtfieabidajilmaaGreatMN7
namespace Go.Proofs.YtfieabidajilmaaGreat
open Aml Go
set_option linter.unusedVariables false
set_option linter.unusedSimpArgs false
set_option maxRecDepth 100000
theorem idx_lt {key : ByteArray} : ∀ {l : List C} {j : Nat} {a : C}, j < idxN l key → l[j]? = some a → ltS a.key key = true
  | [], j, a, h, _ => by simp [idxN] at h
  | c :: l, j, a, h, ha => by
    unfold idxN at h
    rw [List.takeWhile_cons] at h
    split at h
    · rename_i hc
      cases j with
      | zero => cases ha; exact hc
      | succ j => exact idx_lt (l := l) (j := j) (by unfold idxN; simpa using h) ha
    · simp at h
theorem idx_stop {key : ByteArray} : ∀ {l : List C} {a : C}, l[idxN l key]? = some a → ltS a.key key = false
  | [], a, h => by simp at h
  | c :: l, a, h => by
    unfold idxN at h
    rw [List.takeWhile_cons] at h
    split at h
    · exact idx_stop (l := l) h
    · rename_i hc
      cases h; simpa using hc
/-- Where a name stands among a view's trees, as the reference tells it. -/
def fiV (l : List C) (name : ByteArray) : Int := if hasN l name then (idxN l name : Int) else -1
theorem fi_yes {l : List C} {name : ByteArray} (h : hasN l name = true) : fiV l name = (idxN l name : Int) := by unfold fiV; rw [if_pos h]
theorem fi_no {l : List C} {name : ByteArray} (h : hasN l name = false) : fiV l name = -1 := by unfold fiV; rw [if_neg (by rw [h]; simp)]
theorem fi_at {l : List C} {name : ByteArray} (hr : Rise l) {k : Nat} {a : C} (ha : l[k]? = some a) (he : eqS a.key name = true) : fiV l name = (k : Int) := by
  have hk := eqS_iff.1 he
  obtain ⟨hk2, hak⟩ := List.getElem?_eq_some_iff.1 ha
  have hi : idxN l name = k := takeW_len (by omega) (fun i c hi hc => by
    have := List.pairwise_iff_getElem.1 hr i k (List.getElem?_eq_some_iff.1 hc).1 hk2 hi
    rw [(List.getElem?_eq_some_iff.1 hc).2, hak, hk] at this; exact this) (fun c hc => by rw [ha] at hc; cases hc; rw [hk]; exact ltS_irrefl _)
  have : hasN l name = true := by unfold hasN; rw [hi, ha]; exact he
  rw [fi_yes this, hi]
theorem fi_none {l : List C} {name : ByteArray} (h : ∀ (j : Nat) a, l[j]? = some a → eqS a.key name = false) : fiV l name = -1 := by
  refine fi_no (Bool.eq_false_iff.2 fun hh => ?_)
  obtain ⟨c, hc, hk⟩ := has_at hh
  have := h _ c hc
  rw [hk, eqS_self] at this; cases this
set_option maxHeartbeats 4000000 in
theorem rFind (w0 : W0) (n : N) (l : List C) (name : ByteArray) (S : St) (hr : Rise l) (hl : l.length ≤ 1048576) : ACall Tryz.prog w0 47 [eL n l, dS name] S (fun d S' => d = dI (fiV l name) ∧ S' = S) := by
  have f1 := fun k a => fi_at (name := name) hr (k := k) (a := a)
  have f2 := fi_none (l := l) (name := name)
  generalize fiV l name = R at *
  refine fnS [] mx Tryz.func47 rfl rfl (by kernel_rfl) ?_; (refine @goW _ ?_; refine goS1 @Tryz.ntmps47 ?_)
  intro b
  refine loopN [] l.length [1, 2, 5] (fun k => [(5, dI k)]) (fun _ => ⟨(b.n, [dI n.page, dB n.leaf, .sl 4 false (n.l.map dC), .sl 4 false (l.map dBl)]) :: S.box, S.acc⟩) (fun k => ∀ (j : Nat) a, j < k → l[j]? = some a → eqS a.key name = false) mx (by kernel_rfl) ?_ ?_
  · (refine @goW _ ?_; refine goS ?_)
    exact fun j a h => absurd h (by omega)
  · intro k hk hinv
    (refine @goW _ ?_; refine goS ?_)
    refine ⟨fun hlt => ⟨hlt, fun a ha => ⟨fun he => (f1 k a ha he).symm, fun he => ⟨hlt, fun j c hj hc => ?_, i_oneV k (by omega)⟩⟩⟩, fun hge => ?_⟩
    · rcases Nat.lt_succ_iff_lt_or_eq.1 hj with h | h
      · exact hinv j c h hc
      · subst h; cases getE ha hc; exact he
    · rw [f2 fun j a ha => hinv j a (by have := (List.getElem?_eq_some_iff.1 ha).1; omega) ha]
theorem rKey (w0 : W0) (s : ByteArray) (S : St) : ACall Tryz.prog w0 46 [dS s] S (fun d S' => d = dB (okKey s) ∧ S' = S) := by
  refine fnS [] mx Tryz.func46 rfl rfl (by kernel_rfl) ?_; (refine @goW _ ?_; refine goS1 @Tryz.ntmps46 ?_)
  have e : eqS s { data := #[] } = !decide (0 < s.size) := by
    have h1 : eqS s { data := #[] } = decide (s.data.toList = []) := rfl
    have h2 : s.size = s.data.toList.length := rfl
    rw [h1, h2]
    cases s.data.toList <;> simp
  rw [e]
  unfold okKey
  cases h0 : decide (0 < s.size) <;> simp; omega
theorem tbPutR (w0 : W0) {k : Nat} {n : N} {key val : ByteArray} (h : TB k n) (hk : k ≤ 200) (h1 : key.size ≤ 16) (h2 : val.size ≤ 400) (S : St) : ACall Tryz.prog w0 48 [eN n, dS key, dS val] S (fun e S' => e = eN (Put key val n) ∧ S' = S) := by
  obtain ⟨hr, d, hg, hd, ht⟩ := h
  exact PutW w0 key val h1 h2 d n S (good_nd hg) (by omega)
theorem tbDelR (w0 : W0) {k : Nat} {n : N} {key : ByteArray} (h : TB k n) (hk : k ≤ 200) (S : St) : ACall Tryz.prog w0 51 [eN n, dS key] S (fun e S' => e = .tup [eN (Del key n), dB (findN key n).isSome] ∧ S' = S) := by
  obtain ⟨hr, d, hg, hd, ht⟩ := h
  exact DelW w0 key d n S (good_nd hg) (by omega)
theorem rEm (w0 : W0) (S : St) : ACall Tryz.prog w0 39 [] S (fun e S' => e = eN emN ∧ S' = S) := by
  refine fnS [] mx Tryz.func39 rfl rfl (by kernel_rfl) ?_; (refine @goW _ ?_; refine goS1 @Tryz.ntmps39 ?_)
  intro b
  exact .agg (.cons (.refl _) (.cons (.refl _) (.cons (.nil _ _ _) .nil)))
theorem rEmV (w0 : W0) (S : St) : ACall Tryz.prog w0 10 [] S (fun e S' => e = eL emN [] ∧ S' = S) := by
  refine fnS [] mx Tryz.func10 rfl rfl (by kernel_rfl) ?_; (refine @goW _ ?_; refine goS1 @Tryz.ntmps10 ?_)
  intro b
  refine use1 (rEm w0 _) ?_
  (refine @goW _ ?_; exact goT)
set_option maxHeartbeats 8000000 in
theorem rMake (w0 : W0) (k : Nat) (name : ByteArray) (n : N) (l : List C) (S : St) (h : VI k n l) (hk : k ≤ 200) : ACall Tryz.prog w0 12 [eL n l, dS name] S (fun d S' => d = .tup [eL (mkV name n l).1.1 (mkV name n l).1.2, dI (mkV name n l).2] ∧ S' = S) := by
  have hln := h.len
  have hdir := h.dir
  have hrise := h.rise
  clear h
  have hil := idx_le l name
  have hput := fun (a : name.size ≤ 16) S => tbPutR w0 (key := name) (val := nwS) hdir hk a (by decide) S
  have q1 : okKey name = false → mkV name n l = ((n, l), 34) := fun e => by unfold mkV; rw [e]; rfl
  have q2 : okKey name = true → hasN l name = true → mkV name n l = ((n, l), 38) := fun e f => by unfold mkV; rw [e, f]; rfl
  have q3 : okKey name = true → hasN l name = false → mkV name n l = ((Put name nwS n, l.take (idxN l name) ++ [cellN name emN] ++ l.drop (idxN l name)), 0) := fun e f => by unfold mkV; rw [e, f]; rfl
  have g1 := fi_yes (l := l) (name := name)
  have g2 := fi_no (l := l) (name := name)
  have hfi := rFind w0 n l name
  generalize Put name nwS n = D at *
  generalize mkV name n l = R at *
  generalize fiV l name = F at *
  refine fnS [] mx Tryz.func12 rfl rfl (by kernel_rfl) ?_; (refine @goW _ ?_; refine goS1 @Tryz.ntmps12 ?_)
  intro b b1
  refine use1 (rKey w0 name _) ?_
  (refine @goW _ ?_; refine goS ?_)
  cases hok : okKey name with
  | false =>
    rw [q1 hok]
    (refine @goW _ ?_; exact goT)
  | true =>
    (refine @goW _ ?_; refine goS ?_)
    refine use1 (hfi _ hrise (by omega)) ?_
    (refine @goW _ ?_; refine goS ?_)
    cases hh : hasN l name with
    | true =>
      have := g1 hh
      rw [q2 hok hh]
      exact ⟨fun _ => .refl _, fun hn => absurd (by omega) hn⟩
    | false =>
      have := g2 hh
      rw [q3 hok hh]
      refine ⟨fun hn => absurd hn (by omega), fun _ => ?_⟩
      refine loopN [] (idxN l name) [1, 2, 4, 7] (fun k => [(7, dI k)]) (fun _ => ⟨(b1.n, [.v (.int .i64 0), .v (.bool false), .sl 0 true [], .sl 0 true []]) :: (b.n, [dI n.page, dB n.leaf, .sl 4 false (n.l.map dC), .sl 4 false (l.map dBl)]) :: S.box, S.acc⟩) (fun _ => True) mx (by kernel_rfl) ?_ ?_
      · (refine @goW _ ?_; exact goT)
      · intro j hj _
        (refine @goW _ ?_; refine goS ?_)
        have hmul : min j l.length * 56 ≤ 140737488355328 := by omega
        have hmx : min j l.length ≤ maxLen := by unfold maxLen; omega
        refine ⟨fun hlt => ⟨hlt, fun a ha => ⟨fun hl => ⟨?_, i_oneV j (by omega)⟩, fun hl => ⟨by omega, hmul, hmx, fun b2 => ?_⟩⟩⟩, fun hge => ⟨by omega, hmul, hmx, fun b2 => ?_⟩⟩
        · refine Nat.lt_of_le_of_ne hj fun e => ?_
          subst e
          rw [idx_stop ha] at hl; cases hl
        · have hj2 : j = idxN l name := Nat.le_antisymm hj (Nat.le_of_not_lt fun h => by rw [idx_lt h ha] at hl; cases hl)
          have hm8 : maxLen = 9223372036854775807 := rfl
          refine use1 (rEm w0 _) ?_
          (refine @goW _ ?_; refine goS ?_)
          refine ⟨by omega, by omega, by omega, by omega, by omega, use1 (hput (okKey_ne hok).2 _) ?_⟩
          (refine @goW _ ?_; refine goS ?_)
          rw [← hj2, List.map_append, List.map_append]
          exact .refl _
        · have hj2 : j = idxN l name := by omega
          have hm8 : maxLen = 9223372036854775807 := rfl
          refine use1 (rEm w0 _) ?_
          (refine @goW _ ?_; refine goS ?_)
          refine ⟨by omega, by omega, by omega, by omega, by omega, use1 (hput (okKey_ne hok).2 _) ?_⟩
          (refine @goW _ ?_; refine goS ?_)
          rw [← hj2, List.map_append, List.map_append]
          exact .refl _
end Go.Proofs.YtfieabidajilmaaGreat

namespace Go.Proofs.YtfieabidajilmaaGreat
open Aml Go
set_option linter.unusedVariables false
set_option linter.unusedSimpArgs false
set_option maxRecDepth 100000
set_option maxHeartbeats 8000000 in
theorem rDrop (w0 : W0) (k : Nat) (name : ByteArray) (n : N) (l : List C) (S : St) (h : VI k n l) (hk : k ≤ 200) : ACall Tryz.prog w0 14 [eL n l, dS name] S (fun d S' => d = .tup [eL (drV name n l).1.1 (drV name n l).1.2, dI (drV name n l).2] ∧ S' = S) := by
  have hln := h.len
  have hdir := h.dir
  have hrise := h.rise
  clear h
  have hlt := has_lt (l := l) (name := name)
  have hdel := fun S => tbDelR w0 (key := name) hdir hk S
  have q1 : hasN l name = false → drV name n l = ((n, l), 32) := fun e => by unfold drV; rw [e]; rfl
  have q2 : hasN l name = true → drV name n l = ((Del name n, l.take (idxN l name) ++ l.drop (idxN l name + 1)), 0) := fun e => by unfold drV; rw [e]; rfl
  have g1 := fi_yes (l := l) (name := name)
  have g2 := fi_no (l := l) (name := name)
  have hfi := rFind w0 n l name
  generalize Del name n = D at *
  generalize (findN name n).isSome = sm at *
  generalize drV name n l = R at *
  generalize fiV l name = F at *
  generalize hI : idxN l name = i at *
  refine fnS [] mx Tryz.func14 rfl rfl (by kernel_rfl) ?_; (refine @goW _ ?_; refine goS1 @Tryz.ntmps14 ?_)
  intro b b1
  refine use1 (hfi _ hrise (by omega)) ?_
  (refine @goW _ ?_; refine goS ?_)
  cases hh : hasN l name with
  | false =>
    have := g2 hh
    rw [q1 hh]
    exact ⟨fun _ => .refl _, fun hn => absurd (by omega) hn⟩
  | true =>
    have e1 := g1 hh
    have hil := hlt hh
    have e2 := i_oneV i (by omega)
    rw [q2 hh]
    subst e1
    have hm8 : maxLen = 9223372036854775807 := rfl
    rw [e2, Int.toNat_natCast, Int.toNat_natCast]
    refine ⟨fun hn => absurd hn (by omega), fun _ => ⟨by omega, by omega, by omega, by omega, fun b2 => ⟨by omega, by omega, by omega, by omega, use1 (hdel _) ?_⟩⟩⟩
    (refine @goW _ ?_; exact goT)
set_option maxHeartbeats 8000000 in
theorem rWith (w0 : W0) (k : Nat) (n t : N) (l : List C) (i : Nat) (c : C) (S : St) (h : VI k n l) (hk : k ≤ 200) (hc : l[i]? = some c) : ACall Tryz.prog w0 54 [eL n l, dI i, eN t] S (fun d S' => d = eL (Put c.key nwS n) (l.set i (cellN c.key t)) ∧ S' = S) := by
  have hln := h.len
  have hcell := h.cell c (List.mem_of_getElem? hc)
  have hput := fun S => tbPutR w0 (key := c.key) (val := nwS) h.dir hk (okKey_ne hcell.2.2).2 (by decide) S
  have hil := (List.getElem?_eq_some_iff.1 hc).1
  generalize Put c.key nwS n = D at *
  have em : (List.map dBl l).set i (.agg [.v (.string c.key), .v (.int .i64 t.page), .v (.bool t.leaf), .sl 4 false (List.map dC t.l)]) = (l.set i (cellN c.key t)).map dBl := by rw [List.map_set]; rfl
  have hg : (l.set i (cellN c.key t))[i]? = some (cellN c.key t) := by rw [List.getElem?_set_self hil]
  generalize l.set i (cellN c.key t) = M at *
  refine fnS [4] mx Tryz.func54 rfl rfl (by kernel_rfl) ?_; (refine @goW _ ?_; refine goS1 @Tryz.ntmps54 ?_)
  intro b b1 b2
  have hm8 : maxLen = 9223372036854775807 := rfl
  refine ⟨by omega, by omega, fun b3 => ⟨hil, hil, fun a ha => ?_⟩⟩
  cases getE hc ha
  rw [em]
  refine shrK [] [7] mx (by kernel_rfl) ?_
  (refine @goW _ ?_; refine goS1 @hg ?_)
  have hML : M.length = l.length := by have := congrArg List.length em; rw [List.length_set, List.length_map, List.length_map] at this; exact this.symm
  exact ⟨hML, (List.getElem?_eq_some_iff.1 hg).1, useQ (hput _) (by (refine @goW _ ?_; exact goT))⟩
theorem ch_yes {name : ByteArray} {f : N → N × Int} {n : N} {l : List C} {c : C} (hc : l[idxN l name]? = some c) (hh : hasN l name = true) (h0 : (f (kid0 c)).2 = 0) : chV name f n l = ((Put name nwS n, l.set (idxN l name) (cellN c.key (f (kid0 c)).1)), 0) := by unfold chV; rw [hh, hc]; simp only [if_true]; rw [if_pos h0]
theorem ch_bad {name : ByteArray} {f : N → N × Int} {n : N} {l : List C} {c : C} (hc : l[idxN l name]? = some c) (hh : hasN l name = true) (h0 : (f (kid0 c)).2 ≠ 0) : chV name f n l = ((n, l), (f (kid0 c)).2) := by unfold chV; rw [hh, hc]; simp only [if_true]; rw [if_neg h0]
theorem ch_no {name : ByteArray} {f : N → N × Int} {n : N} {l : List C} (hh : hasN l name = false) : chV name f n l = ((n, l), 32) := by unfold chV; rw [hh]; rfl
set_option maxHeartbeats 8000000 in
theorem rPut (w0 : W0) (k : Nat) (name key val : ByteArray) (n : N) (l : List C) (S : St) (h : VI k n l) (hk : k ≤ 116) : ACall Tryz.prog w0 17 [eL n l, dS name, dS key, dS val] S (fun d S' => d = .tup [eL (puV name key val n l).1.1 (puV name key val n l).1.2, dI (puV name key val n l).2] ∧ S' = S) := by
  have hln := h.len
  have hrise := h.rise
  have q1 : okKey key = false → puV name key val n l = ((n, l), 34) := fun e => by unfold puV; rw [e]; rfl
  have q2 : ¬ val.size ≤ 400 → puV name key val n l = ((n, l), 34) := fun e => by unfold puV; rw [decide_eq_false e, Bool.and_false]; rfl
  have q3 : okKey key = true → val.size ≤ 400 → puV name key val n l = chV name (fun t => (Put key val t, 0)) n l := fun e f => by unfold puV; rw [e, decide_eq_true f]; rfl
  have g1 := fi_yes (l := l) (name := name)
  have g2 := fi_no (l := l) (name := name)
  have hfi := rFind w0 n l name
  generalize puV name key val n l = R at *
  generalize fiV l name = F at *
  refine fnS [7] mx Tryz.func17 rfl rfl (by kernel_rfl) ?_; (refine @goW _ ?_; refine goS1 @Tryz.ntmps17 ?_)
  intro b b1
  refine use1 (rKey w0 key _) ?_
  (refine @goW _ ?_; refine goS ?_)
  cases hok : okKey key with
  | false => rw [q1 hok]; (refine @goW _ ?_; exact goT)
  | true =>
    (refine @goW _ ?_; refine goS ?_)
    refine ⟨fun h400 => by rw [q2 (by omega)]; (refine @goW _ ?_; exact goT), fun h400 => use1 (hfi _ hrise (by omega)) ?_⟩
    rw [q3 hok (by omega)]
    (refine @goW _ ?_; refine goS ?_)
    cases hh : hasN l name with
    | false =>
      have := g2 hh
      rw [ch_no hh]
      exact ⟨fun _ => .refl _, fun hn => absurd (by omega) hn⟩
    | true =>
      obtain ⟨c, hc, hck⟩ := has_at hh
      have e1 := g1 hh
      have hil := has_lt hh
      rw [ch_yes hc hh rfl, hck]
      have hcell := h.cell c (List.mem_of_getElem? hc)
      have hw := fun S => rWith w0 k n (Put key val (kid0 c)) l (idxN l name) c S h (by omega) hc
      rw [hck] at hw
      have hp := fun S => tbPutR w0 (key := key) (val := val) hcell.2.1 (by omega) (okKey_ne hok).2 (by omega) S
      generalize Put key val (kid0 c) = T at *
      generalize Put name nwS n = D at *
      subst e1
      refine ⟨fun hn => absurd hn (by omega), fun _ => ?_⟩
      refine lexK mx (by kernel_rfl) ?_
      (refine @goW _ ?_; refine goS ?_)
      refine ⟨hil, fun a ha => ?_⟩
      cases getE hc ha
      refine useX (fun B hB => hp _) ?_
      (refine @goW _ ?_; refine goS ?_)
      refine useX (fun B hB => hw _) ?_
      (refine @goW _ ?_; exact goT)
set_option maxHeartbeats 8000000 in
theorem rDel (w0 : W0) (k : Nat) (name key : ByteArray) (n : N) (l : List C) (S : St) (h : VI k n l) (hk : k ≤ 116) : ACall Tryz.prog w0 19 [eL n l, dS name, dS key] S (fun d S' => d = .tup [eL (deV name key n l).1.1 (deV name key n l).1.2, dI (deV name key n l).2] ∧ S' = S) := by
  have hln := h.len
  have hrise := h.rise
  have g1 := fi_yes (l := l) (name := name)
  have g2 := fi_no (l := l) (name := name)
  have hfi := rFind w0 n l name
  unfold deV
  cases hh : hasN l name with
  | false =>
    have := g2 hh
    rw [ch_no hh]
    generalize fiV l name = F at *
    refine fnS [] mx Tryz.func19 rfl rfl (by kernel_rfl) ?_; (refine @goW _ ?_; refine goS1 @Tryz.ntmps19 ?_)
    intro b b1
    refine use1 (hfi _ hrise (by omega)) ?_
    (refine @goW _ ?_; refine goS ?_)
    exact fun hn => absurd (by omega) hn
  | true =>
    obtain ⟨c, hc, hck⟩ := has_at hh
    have e1 := g1 hh
    have hil := has_lt hh
    have hcell := h.cell c (List.mem_of_getElem? hc)
    have hw := fun S => rWith w0 k n (Del key (kid0 c)) l (idxN l name) c S h (by omega) hc
    rw [hck] at hw
    have hp := fun S => tbDelR w0 (key := key) hcell.2.1 (by omega) S
    have q1 : (findN key (kid0 c)).isSome = true → chV name (fun t => if (findN key t).isSome then (Del key t, 0) else (t, 33)) n l = ((Put name nwS n, l.set (idxN l name) (cellN name (Del key (kid0 c)))), 0) := fun e => by
      rw [ch_yes hc hh (by simp only [e, if_true]), hck]; simp only [e, if_true]
    have q2 : (findN key (kid0 c)).isSome = false → chV name (fun t => if (findN key t).isSome then (Del key t, 0) else (t, 33)) n l = ((n, l), 33) := fun e => by
      rw [ch_bad hc hh (by simp only [e, Bool.false_eq_true, if_false]; decide)]; simp only [e, Bool.false_eq_true, if_false]
    generalize chV name (fun t => if (findN key t).isSome then (Del key t, 0) else (t, 33)) n l = R at *
    generalize (findN key (kid0 c)).isSome = sm at *
    generalize Del key (kid0 c) = T at *
    generalize Put name nwS n = D at *
    generalize fiV l name = F at *
    subst e1
    refine fnS [] mx Tryz.func19 rfl rfl (by kernel_rfl) ?_; (refine @goW _ ?_; refine goS1 @Tryz.ntmps19 ?_)
    intro b b1
    refine use1 (hfi _ hrise (by omega)) ?_
    (refine @goW _ ?_; refine goS ?_)
    refine ⟨fun hn => absurd hn (by omega), fun _ => ⟨by omega, fun a ha => ?_⟩⟩
    cases getE hc ha
    refine use1 (hp _) ?_
    (refine @goW _ ?_; refine goS ?_)
    intro b2
    refine ⟨fun hs => use1 (hw _) ?_, fun hs => by rw [q2 hs]; exact .refl _⟩
    rw [q1 hs]
    (refine @goW _ ?_; exact goT)
end Go.Proofs.YtfieabidajilmaaGreat

namespace Go.Proofs.YtfieabidajilmaaGreat
open Aml Go
set_option linter.unusedVariables false
set_option linter.unusedSimpArgs false
set_option maxRecDepth 100000
/-- A step. -/
structure Sn where
  kind : Int
  name : ByteArray
  key : ByteArray
  size : Int
@[go_sem] def dSn (s : Sn) : DV := .agg [dI s.kind, dS s.name, dS s.key, dI s.size]
@[go_sem] def rL (q : N × List C) : List DV := [dI q.1.page, dB q.1.leaf, .sl 4 false (q.1.l.map dC), .sl 4 false (q.2.map dBl)]
structure BS where
  k : Nat
  q : N × List C
  o : N × List C
  f : Int
/-- What a step comes to. -/
structure BZ where
  q : N × List C
  o : N × List C
  f : Int
  e : Int
set_option maxHeartbeats 16000000 in
theorem built22 (w0 : W0) (l : List Sn) (S : St) (hl : l.length ≤ 1048576) : ACall Tryz.prog w0 28 [.sl 4 false (l.map dSn)] S (fun d S' => ∃ (q o : N × List C) (b : Bool), d = .tup [eL q.1 q.2, eL o.1 o.2, dB b] ∧ (b = true → ∃ f, BI 70 q o f) ∧ S' = S) := by
  have fin : ∀ (q o : N × List C) (b : Bool) (S S' : St), (b = true → ∃ f, BI 70 q o f) → Aml.Sub S S' → ∃ d' S'', Wk (.tup [eL q.1 q.2, eL o.1 o.2, dB b]) d' ∧ Aml.Sub S'' S' ∧ ∃ (q o : N × List C) (b : Bool), d' = .tup [eL q.1 q.2, eL o.1 o.2, dB b] ∧ (b = true → ∃ f, BI 70 q o f) ∧ S'' = S := fun q o b S S' h1 h2 => ⟨_, _, .refl _, h2, q, o, b, rfl, h1, rfl⟩
  refine fnP [9,17,23,28,29] mx Tryz.func28 rfl rfl (by kernel_rfl) ?_; (refine @goW _ ?_; refine goS1 @Tryz.ntmps28 ?_)
  intro b b1
  refine use1 (rEmV w0 _) ?_
  (refine @goW _ ?_; refine goS ?_)
  intro b2 b3
  refine loopK [9, 17, 23, 28, 29, 1002] [0, 2, 3, 5, 6, 7, 8] (fun s : BS => [(7, dI s.f), (8, dI s.k)]) (fun s => ⟨(b3.n, rL s.o) :: (b2.n, rL s.q) :: (b1.n, [dI 0, dB false, .sl 0 true [], .sl 0 true []]) :: (b.n, [dI 0, dB false, .sl 0 true [], .sl 0 true []]) :: S.box, S.acc⟩) (fun s => s.k ≤ l.length ∧ s.k ≤ 70 ∧ BI s.k s.q s.o s.f) (fun s => l.length - s.k) ⟨0, (emN, []), (emN, []), 2⟩ mx (by kernel_rfl) ?_ ?_
  · (refine @goW _ ?_; refine goS ?_)
    exact ⟨Nat.zero_le _, bi_em⟩
  · rintro ⟨k, q, o, f⟩ ⟨h1, h2, h3⟩
    simp only at h1 h2 h3
    obtain ⟨qn, ql⟩ := q
    (refine @goW _ ?_; refine goS ?_)
    refine ⟨fun hlt => ⟨hlt, fun a ha b9 => ?_⟩, fun hge => ?_⟩
    · refine ⟨fun g1 => ?_, fun g1 => ⟨fun g2 => ?_, fun g2 => ⟨fun g3 => ?_, fun g3 => ⟨fun g4 => ?_, fun g4 => ?_⟩⟩⟩⟩
      iterate 4
        · refine Y.ordB [b.n, b1.n] [2, 3] [] [0, 1, 2, 3, 4] mx (by kernel_rfl) ?_
          (refine @goW _ ?_; refine goS ?_)
          exact fin (qn, ql) o false S _ (by simp) (.consB (.consB (.consB (.consB (.consB (.refl _))))))
      have e1 : (if a.size < 0 then 0 else a.size) = (a.size.toNat : Int) := by split <;> omega
      have hv : VI k qn ql := h3.v
      have wq0 := fun S => rMake w0 k a.name qn ql S hv (by omega)
      have wq1 := fun S => rDrop w0 k a.name qn ql S hv (by omega)
      have wq2 := fun S => rPut w0 k a.name a.key (strOfNums (List.replicate a.size.toNat 0)) qn ql S hv (by omega)
      have wq3 := fun S => rDel w0 k a.name a.key qn ql S hv (by omega)
      have wf := fun S => rFresh22 w0 k qn ql S hv (by omega)
      have wl := fun hf S => laidW22 w0 k qn ql o f S h3 (by omega) hf
      have i0 := bi_mk h3 (by omega) a.name
      have i1 := bi_dr h3 (by omega) a.name
      have i2 := bi_pu h3 (by omega) a.name a.key (strOfNums (List.replicate a.size.toNat 0))
      have i3 := bi_de h3 (by omega) a.name a.key
      have i4 := fun hf => bi_mono (bi_laid h3 hf) (Nat.le_succ k)
      have hfv : frV (qn, ql) ≤ 70000 * 117 := by
        have := tb_fr hv.dir (by omega)
        have := vi_frL hv (by omega)
        have := hv.len
        have : frV (qn, ql) = frT qn + frL ql := rfl
        omega
      have hflo := h3.lo
      have hfhi := h3.hi
      generalize mkV a.name qn ql = Q0 at *
      generalize drV a.name qn ql = Q1 at *
      generalize puV a.name a.key (strOfNums (List.replicate a.size.toNat 0)) qn ql = Q2 at *
      generalize deV a.name a.key qn ql = Q3 at *
      generalize laidQ (qn, ql) f = Q4 at *
      refine cutK (σ := BZ) [17, 23] [0, 2, 3, 5, 6, 7, 8, 9, 10] (fun s => [(7, dI s.f), (10, dI s.e)]) (fun s => ⟨(b9.n, [dI a.kind, dS a.name, dS a.key, dI a.size]) :: (b3.n, rL s.o) :: (b2.n, rL s.q) :: (b1.n, [dI 0, dB false, .sl 0 true [], .sl 0 true []]) :: (b.n, [dI 0, dB false, .sl 0 true [], .sl 0 true []]) :: S.box, S.acc⟩) (fun s => BI (k + 1) s.q s.o s.f) mx (by kernel_rfl) ?_ ?_
      · (refine @goW _ ?_; refine goS ?_)
        refine ⟨fun o0 => ?_, fun o0 => ⟨fun o1 => ?_, fun o1 => ⟨fun o2 => ?_, fun o2 => ⟨fun o3 => ?_, fun o3 => ⟨fun o4 => ?_, fun o4 => ?_⟩⟩⟩⟩⟩
        · refine use1 (wq0 _) ?_
          (refine @goW _ ?_; refine goS ?_)
          exact ⟨⟨Q0.1, o, f, Q0.2⟩, i0, ⟨rfl, rfl⟩, .refl _⟩
        · refine use1 (wq1 _) ?_
          (refine @goW _ ?_; refine goS ?_)
          exact ⟨⟨Q1.1, o, f, Q1.2⟩, i1, ⟨rfl, rfl⟩, .refl _⟩
        · refine Y.ordK [] [14] [1, 3, 5, 0, 2, 4, 6, 7, 8, 9, 10, 11, 12, 13, 14, 15] mx (by kernel_rfl) ?_
          (refine @goW _ ?_; refine goS1 @e1 ?_)
          refine ⟨by omega, by omega, Y.useO (fun T _ => wq2 T) ?_⟩
          (refine @goW _ ?_; refine goS ?_)
          exact ⟨⟨Q2.1, o, f, Q2.2⟩, i2, ⟨rfl, rfl⟩, .refl _⟩
        · refine use1 (wq3 _) ?_
          (refine @goW _ ?_; refine goS ?_)
          exact ⟨⟨Q3.1, o, f, Q3.2⟩, i3, ⟨rfl, rfl⟩, .refl _⟩
        · refine use1 (wf _) ?_
          have hw : IntKind.i64.wrap (f + (frV (qn, ql) : Int)) = f + (frV (qn, ql) : Int) := w64 (by omega) (by omega)
          (refine @goW _ ?_; refine goS1 @hw ?_)
          refine ⟨fun g5 => ?_, fun g5 => ?_⟩
          · refine Y.ordB [b.n, b1.n] [2, 3] [] [0, 1, 2, 3, 4] mx (by kernel_rfl) ?_
            (refine @goW _ ?_; refine goS ?_)
            exact fin (qn, ql) o false S _ (by simp) (.consB (.consB (.consB (.consB (.consB (.refl _))))))
          · refine use1 (wl (by omega) _) ?_
            (refine @goW _ ?_; refine goS ?_)
            exact ⟨⟨Q4, Q4, f + frV (qn, ql), 0⟩, i4 (by omega), ⟨hw, rfl⟩, .refl _⟩
        · exact ⟨⟨(qn, ql), o, f, 0⟩, bi_mono h3 (by omega), ⟨rfl, rfl⟩, .refl _⟩
      · rintro ⟨Q, O, F, e⟩ hB
        simp only at hB
        (refine @goW _ ?_; refine goS ?_)
        refine ⟨fun g5 => ?_, fun g5 => ?_⟩
        · refine Y.ordB [b.n, b1.n] [2, 3] [] [0, 1, 2, 3, 4] mx (by kernel_rfl) ?_
          (refine @goW _ ?_; refine goS ?_)
          exact fin Q O false S _ (by simp) (.consB (.consB (.consB (.consB (.consB (.refl _))))))
        · exact ⟨⟨k + 1, Q, O, F⟩, ⟨by simp only; omega, by simp only; omega, hB⟩, by simp only; omega, ⟨rfl, i_oneV k (by omega)⟩, ⟨List.sublist_cons_self _ _, List.Sublist.refl _⟩⟩
    · refine Y.ordB [b.n, b1.n] [2, 3] [] [0, 1, 2, 3, 4] mx (by kernel_rfl) ?_
      (refine @goW _ ?_; refine goS ?_)
      exact fin (qn, ql) o true S _ (fun _ => ⟨f, bi_mono h3 h2⟩) (.consB (.consB (.consB (.consB (.refl _)))))
end Go.Proofs.YtfieabidajilmaaGreat

namespace Go.Proofs.YtfieabidajilmaaGreat
open Aml Go
set_option linter.unusedVariables false
set_option linter.unusedSimpArgs false
set_option maxRecDepth 100000
end Go.Proofs.YtfieabidajilmaaGreat

namespace Go.Proofs.YtfieabidajilmaaGreat
open Aml Go
set_option linter.unusedVariables false
set_option linter.unusedSimpArgs false
set_option maxRecDepth 100000
end Go.Proofs.YtfieabidajilmaaGreat

namespace Go.Proofs.YtfieabidajilmaaGreat
open Aml Go
set_option linter.unusedVariables false
set_option linter.unusedSimpArgs false
set_option maxRecDepth 100000
/-- A view's pages, in whatever order. -/
theorem pgsV_al {k : Nat} {n : N} {l : List C} (h : VI k n l) : (pgsV n l).Perm (alV (n, l)) := by
  have h1 : ∀ V : List N, (∀ x, x ∈ V → ∃ d, Nd d x) → (flat (V.map pgsT)).Perm (V.flatMap alN) := fun V => by
    induction V with
    | nil => intro _; exact .refl _
    | cons a V ih =>
      intro hV
      obtain ⟨d, hd⟩ := hV a List.mem_cons_self
      have := ih fun x hx => hV x (List.mem_cons_of_mem _ hx)
      unfold flat at this ⊢
      rw [List.map_cons, List.flatten_cons, List.flatMap_cons, pgs_al hd]
      exact (srt_perm _).append this
  have h2 := h1 (treL n l) fun x hx => by
    have hx : TB k x := by
      unfold treL at hx
      rcases List.mem_cons.1 hx with rfl | hx
      · exact h.dir
      · obtain ⟨c, hc, rfl⟩ := List.mem_map.1 hx
        exact (h.cell c hc).2.1
    obtain ⟨_, d, hg, _⟩ := hx
    exact ⟨d, good_nd hg⟩
  have h3 : (treL n l).flatMap alN = alV (n, l) := by
    unfold treL alV alL
    rw [List.flatMap_cons, List.flatMap_map]
  rw [h3] at h2
  exact (srt_perm _).trans h2
theorem flt_none {A B : List Int} (h : ∀ p, p ∈ B → p ∈ A) : fltI A B = [] := by
  unfold fltI
  refine List.filter_eq_nil_iff.2 fun p hp => ?_
  unfold hitI
  simpa using h p hp
theorem flt_len {A B : List Int} (hA : A.Nodup) (hB : B.Nodup) (h : ∀ p, p ∈ A → p ∈ B) : A.length + (fltI A B).length = B.length := by
  have h1 : (B.filter (hitI A)).Perm A := by
    refine List.perm_iff_count.2 fun p => ?_
    rw [List.Nodup.count (List.Pairwise.filter _ hB), List.Nodup.count hA]
    have : p ∈ B.filter (hitI A) ↔ p ∈ A := by
      rw [List.mem_filter]
      unfold hitI
      rw [decide_eq_true_eq]
      exact ⟨fun q => q.2, fun q => ⟨h p q, q⟩⟩
    by_cases hp : p ∈ A
    · rw [if_pos (this.2 hp), if_pos hp]
    · rw [if_neg fun q => hp (this.1 q), if_neg hp]
  have h2 : (B.filter (hitI A)).length + (fltI A B).length = B.length := by
    unfold fltI
    clear h1 hB h
    induction B with
    | nil => rfl
    | cons b B ih =>
      rw [List.filter_cons, List.filter_cons]
      cases hb : hitI A b <;> simp <;> omega
  rw [h1.length_eq] at h2
  exact h2
theorem room_mono (p : Pl) {s t : Int} (h : s ≤ t) : roomZ p s ≤ roomZ p t := by
  unfold roomZ
  split <;> split <;> omega
set_option maxHeartbeats 8000000 in
theorem needLaidW (w0 : W0) (l : List Sn) (x : Nat) (S : St) (hl : l.length ≤ 1048576) (hx : x ≤ 255) : ACall Tryz.prog w0 4 [.sl 4 false (l.map dSn), dY x] S (fun d S' => d = dB true ∧ S' = S) := by
  have hbu := fun S => built22 w0 l S hl
  refine fnS [] mx Tryz.func4 rfl rfl (by kernel_rfl) ?_; (refine @goW _ ?_; refine goS1 @Tryz.ntmps4 ?_)
  refine use1 (awake22 w0 _) ?_
  (refine @goW _ ?_; refine goS ?_)
  refine useK (hbu _) ?_
  rintro d S' ⟨⟨n, l⟩, ⟨m, q⟩, b, rfl, hb, rfl⟩
  cases b with
  | false => (refine @goW _ ?_; exact goT)
  | true =>
    obtain ⟨f, hB⟩ := hb rfl
    have hv : VI 70 n l := hB.v
    have hw : VI 70 m q := hB.w
    have pa := pgsV_al hv
    have pb := pgsV_al hw
    have hsub : ∀ p, p ∈ pgsV n l → p ∈ pgsV m q := fun p hp => pb.mem_iff.2 (bi_mem hB (pa.mem_iff.1 hp))
    have hna : (pgsV n l).Nodup := pa.nodup_iff.2 (bi_one hB)
    have hnb : (pgsV m q).Nodup := pb.nodup_iff.2 (List.nodup_iff_count.2 hB.one)
    have hlen := flt_len hna hnb hsub
    have wsa := fun S => shownW w0 70 n l S hv (by omega)
    have wsb := fun S => shownW w0 70 m q S hw (by omega)
    have wfa := fun S => needFreshW w0 70 n l S hv (by omega)
    have wfb := fun S => needFreshW w0 70 m q S hw (by omega)
    rw [show frV (m, q) = 0 from hB.f0] at wfb
    have wbb := fun S => needLostW w0 70 m q m q S hw hw (by omega)
    rw [flt_none (fun p h => h)] at wbb
    have wab := fun S => needLostW w0 70 n l m q S hv hw (by omega)
    rw [flt_none hsub] at wab
    have wba := fun S => needLostW w0 70 m q n l S hw hv (by omega)
    have wpa := fun S => needPagesQ w0 70 n l S hv (by omega)
    have wpb := fun S => needPagesQ w0 70 m q S hw (by omega)
    have la := (pgsV_len hv (by omega)).2
    have lb := (pgsV_len hw (by omega)).2
    have n1 := fun S => needNeedW w0 70 n l ⟨2, [], []⟩ x S hv (by omega) (by simp) (by simp) (by show 0 + x ≤ _; omega)
    have n2 := fun S => needNeedW w0 70 n l ⟨2, [], []⟩ (x + 1) S hv (by omega) (by simp) (by simp) (by show 0 + (x + 1) ≤ _; omega)
    have wft := fun t h1 h2 S => needFitsW w0 70 m q n l [] ⟨2, [], []⟩ t S hw hv (by omega) (by simp) (by simp) (by show 0 + ((fltI (pgsV n l) (pgsV m q)).length + 0) ≤ _; omega) (by decide) (by decide) h1 h2
    have o1 : frV (n, l) ≤ needV (n, l) ⟨2, [], []⟩ x := Nat.le_add_right _ _
    have o2 : needV (n, l) ⟨2, [], []⟩ x ≤ needV (n, l) ⟨2, [], []⟩ (x + 1) := by
      have := (own_wait (([] : List Int).length - frV (n, l)) (nW [] + x)).1
      exact Nat.add_le_add_left this _
    have hrm := fun s t => room_mono ⟨2, [], []⟩ (s := s) (t := t)
    generalize fltI (pgsV n l) (pgsV m q) = L at *
    generalize pgsV n l = A at *
    generalize pgsV m q = B at *
    generalize needV (n, l) ⟨2, [], []⟩ x = Z1 at *
    generalize needV (n, l) ⟨2, [], []⟩ (x + 1) = Z2 at *
    generalize needV (n, l) ⟨2, [], []⟩ (L.length + ([] : List Int).length) = Z at *
    generalize frV (n, l) = F at *
    generalize roomZ ⟨2, [], []⟩ = R at *
    (refine @goW _ ?_; refine goS ?_)
    intro b6 b7
    refine use1 (wsa _) ?_
    (refine @goW _ ?_; refine goS ?_)
    intro b9
    refine use1 (wsb _) ?_
    (refine @goW _ ?_; refine goS ?_)
    intro b10
    refine use1 (wfa _) ?_
    (refine @goW _ ?_; refine goS ?_)
    refine useQ (wfb _) ?_
    (refine @goW _ ?_; refine goS ?_)
    refine useQ (wbb _) ?_
    (refine @goW _ ?_; refine goS ?_)
    refine ⟨fun h => absurd h (by decide), fun _ => ?_⟩
    refine useQ (wab _) ?_
    (refine @goW _ ?_; refine goS ?_)
    refine ⟨fun h => absurd h (by decide), fun _ => ?_⟩
    refine useQ (wpa _) ?_
    (refine @goW _ ?_; refine goS ?_)
    refine useQ (wba _) ?_
    have e1 : IntKind.i64.wrap ((A.length : Int) + L.length) = (B.length : Int) := by rw [w64 (by omega) (by omega)]; omega
    (refine @goW _ ?_; refine goS1 @e1 ?_)
    refine useQ (wpb _) ?_
    (refine @goW _ ?_; refine goS ?_)
    intro b12
    have e0 : IntKind.i64.wrap (x : Int) = (x : Int) := w64 (by omega) (by omega)
    have e2 : IntKind.i64.wrap ((x : Int) + 1) = ((x + 1 : Nat) : Int) := by rw [w64 (by omega) (by omega)]; omega
    rw [e0]
    refine use1 (n1 _) ?_ (by (refine @goW _ ?_; exact goT))
    (refine @goW _ ?_; refine goS3 @e0 @e2 @o1 ?_)
    refine ⟨fun h => by omega, fun _ => use1 (n2 _) ?_ (by (refine @goW _ ?_; exact goT))⟩
    (refine @goW _ ?_; refine goS2 @e0 @e2 ?_)
    refine ⟨fun h => by omega, fun _ => ?_⟩
    refine loopK [] [9, 10, 12, 14, 15] (fun s : Nat × Bool => [(14, dB s.2), (15, dI s.1)]) (fun _ => ⟨(b12.n, [dI 2, .sl 0 true [], .sl 0 true []]) :: (b10.n, rowV m q) :: (b9.n, rowV n l) :: (b7.n, rL (m, q)) :: (b6.n, rL (n, l)) :: S'.box, S'.acc⟩) (fun s => s.1 ≤ 612 ∧ (s.2 = true → (Z : Int) ≤ R s.1)) (fun s => 700 - s.1) (0, false) mx (by kernel_rfl) ?_ ?_
    · unfold rowV
      (refine @goW _ ?_; exact goT)
    · rintro ⟨t, was⟩ ⟨ht, hwas⟩
      simp only at ht hwas
      have hft := fun S => wft t (by omega) (by omega) S
      have hz : (Z : Int) ≤ R t → (Z : Int) ≤ R ((t + 13 : Nat) : Int) := fun h => Int.le_trans h (hrm _ _ (by omega))
      obtain ⟨D, hD, hD2⟩ : ∃ D, D = decide ((Z : Int) ≤ R t) ∧ (was = true → D = true) := ⟨_, rfl, fun h => by rw [decide_eq_true_eq]; exact hwas h⟩
      rw [← hD] at hft
      have hD3 : D = true → (Z : Int) ≤ R ((t + 13 : Nat) : Int) := fun h => hz (by rw [hD, decide_eq_true_eq] at h; exact h)
      have e3 : IntKind.i64.wrap ((t : Int) + 13) = ((t + 13 : Nat) : Int) := by rw [w64 (by omega) (by omega)]; omega
      unfold rowV
      cases was with
      | true =>
        have := hD2 rfl
        subst this
        (refine @goW _ ?_; refine goS ?_)
        refine fun hlt => use1 (hft _) ?_ (by (refine @goW _ ?_; exact goT))
        (refine @goW _ ?_; refine goS1 @e3 ?_)
        exact ⟨(t + 13, true), ⟨by simp only; omega, fun _ => hD3 rfl⟩, by simp only; omega, rfl, rfl⟩
      | false =>
        (refine @goW _ ?_; refine goS ?_)
        refine fun hlt => use1 (hft _) ?_ (by (refine @goW _ ?_; exact goT))
        (refine @goW _ ?_; refine goS1 @e3 ?_)
        exact ⟨(t + 13, D), ⟨by simp only; omega, hD3⟩, by simp only; omega, rfl, rfl⟩
end Go.Proofs.YtfieabidajilmaaGreat

namespace Go.Proofs.YtfieabidajilmaaGreat
open Aml Go Go.RowKit Go.ChangeShapes
set_option linter.unusedVariables false
set_option linter.unusedSimpArgs false
set_option maxRecDepth 100000
theorem sum_oneE {α : Type} (l : List α) : (l.map fun _ => 1).sum = l.length := by
  induction l with
  | nil => rfl
  | cons a l ih => simp only [List.map_cons, List.sum_cons, List.length_cons, ih]; omega
theorem rdSn {W : World} : Rd Tryz.prog W 128 (fun s : Sn => [dI s.kind, dS s.name, dS s.key, dI s.size]) (fun s => 1) (fun s => True) := by
  have h := rd_struct (W := W) Tryz.underlying128 (total := 4) (by kernel_rfl) rfl (rdF_cons (k := 1) (rd_i64 Tryz.underlying3) rfl (by kernel_rfl) (rdF_cons (k := 1) (rd_str Tryz.underlying9) rfl (by kernel_rfl) (rdF_cons (k := 1) (rd_str Tryz.underlying9) rfl (by kernel_rfl) (rdF_cons (k := 1) (rd_i64 Tryz.underlying3) rfl (by kernel_rfl) rdF_nil))))
  exact h.conv (fun a => ⟨a.1, a.2.1, a.2.2.1, a.2.2.2.1⟩) (fun _ => rfl) (fun a => by omega) fun _ _ => trivial
theorem rdSns {W : World} : Rd Tryz.prog W 64 (fun l : List Sn => [.sl 4 false (l.map dSn)]) (fun l => l.length) (fun l => True) :=
  (rd_sliceA rdSn Tryz.underlying64 (k := 4) (by kernel_rfl) (by omega)).conv id (fun _ => rfl) (fun l => by simp only [id, sum_oneE]; omega) fun _ _ => trivial
end Go.Proofs.YtfieabidajilmaaGreat

namespace Go.Proofs.YtfieabidajilmaaGreat
open Aml Go Go.RowKit Go.ChangeShapes
set_option linter.unusedVariables false
set_option linter.unusedSimpArgs false
set_option maxRecDepth 100000
theorem needLaidZ (w0 : W0) (l : List Sn) (x : Int) (S : St) (hl : l.length ≤ 1048576) (hx : 0 ≤ x ∧ x ≤ 255) : ACall Tryz.prog w0 4 [.sl 4 false (l.map dSn), dY x] S (fun d S' => d = dB true ∧ S' = S) := by
  obtain ⟨a, rfl⟩ := Int.eq_ofNat_of_zero_le hx.1
  exact needLaidW w0 l a S hl (by omega)
theorem needLaid_own : ownKnob Tryz.prog.godebug = none := by kernel_rfl
set_option maxHeartbeats 1000000 in
theorem needLaid_contract (H : Type) (enc : TypeId × Value → H) (W : World) (base : Nat) (args : Array Value) (ds gs : List (DataW H)) (before : List MemPlace)
    (hval : ∀ (j : Nat) t v, Tryz.f4.params[j]? = some t → args[j]? = some v → Value.okWide Tryz.prog W .any base t v)
    (hW : DataW.Whole enc Tryz.prog Tryz.f4.params.toList Rows.needLaidSpec.vars false W args.toList ds gs before) (hk : Rows.uptoBulkAll (ds ++ gs) ≤ 1048576) :
    Calls Tryz.prog 4 args W fun e W' => ∃ v, e = .returned v ∧ Rows.needLaidSpec.post enc Tryz.prog Tryz.f4 false true false false W args v W' :=
  law_contract enc (ts := [64, 5]) (tb := 4) (rdA_one rdSns (by kernel_rfl) (rdA_one (rd_u8 Tryz.underlying5) (by kernel_rfl) rdA_nil)) Tryz.params4 rfl Tryz.underlying4 rfl (by kernel_rfl) (by intro t ht; revert t; decide +kernel) (fun ds hd => by
    first
    | (match ds, hd with | [_], _ => rfl)
    | (match ds, hd with | [_, _], _ => rfl)
    | (match ds, hd with | [_, _, _], _ => rfl)
    | (match ds, hd with | [_, _, _, _], _ => rfl)) (fun a ha hs => (needLaidZ W a.1 a.2.1 ⟨[], []⟩ (by omega) ha.2.1).mono fun d S' h => h.1) base args ds gs before hval hW hk
set_option maxRecDepth 100000 in
theorem needLaid_lifted (os : Os) (started : os.Started) (H : Type) (enc : TypeId × Value → H) (F : Stop.Interp) :
    ReturnsInHanded {} Tryz.checked os 4 .any ((Rows.OpenSpec.upto Rows.needLaidSpec).pre6 enc Tryz.prog Tryz.f4 Rows.needLaidUptoRow.domain false) (((Rows.OpenSpec.upto Rows.needLaidSpec).at F).post enc Tryz.prog Tryz.f4 false true false false) := by
  refine returnsInHanded_of_cond (C := Tryz.checked) (s := Rows.OpenSpec.upto Rows.needLaidSpec) (k := Rows.uptoSmall) rfl needLaid_own started (by kernel_rfl) Tryz.func4
    (OpenSpec.witness (enc := enc) (C := Tryz.checked) (s := Rows.OpenSpec.upto Rows.needLaidSpec) (k := Rows.uptoSmall) rfl false ⟨#[], #[.slice none 0 0, .int .u8 0], []⟩ 8 (by kernel_rfl) (by kernel_rfl) (by kernel_rfl)
      (x := ([.nil, .lit (.int .u8 0)], [], [])) (by kernel_rfl) rfl (by kernel_rfl)) ?_
  intro W base args ds gs before hval hW _ hk _
  exact needLaid_contract H enc W base args ds gs before hval hW (of_decide_eq_true hk)
/-- THE STATEMENT. -/
theorem needLaid_holds : Rows.NeedLaidUptoSaid :=
  OpenClaim.holds_of_cond 4 Tryz.f4 rfl rfl rfl rfl rfl rfl rfl ⟨rfl, rfl, rfl, rfl, rfl⟩ rfl rfl rfl rfl rfl (by kernel_rfl) Tryz.func4 (by kernel_rfl)
    (of_decide_eq_true (by kernel_rfl)) (by unfold Func.isWrapper; first | (rw [if_pos (by decide +kernel)]; kernel_rfl) | (rw [if_neg (by decide +kernel)]; exact ⟨rfl, rfl⟩))
    (fun os started H enc _ F => needLaid_lifted os started H enc F)

end Go.Proofs.YtfieabidajilmaaGreat
