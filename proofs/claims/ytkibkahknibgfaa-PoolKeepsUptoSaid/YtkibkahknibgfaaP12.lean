/-
  The plain laws of what is taken and given. By an AI agent.
-/
import Derived.Test.YtkibkahknibgfaaP10
namespace Go.Proofs.Ytkibkahknibgfaa
open Aml Go
set_option linter.unusedVariables false
set_option linter.unusedSimpArgs false

theorem rise_add (h : Int) (m : Nat) : ∀ n, rise h (m + n) = rise h m ++ rise (h + m) n
  | 0 => by simp [rise]
  | n + 1 => by
    rw [← Nat.add_assoc, rise_succ, rise_add h m n, rise_succ, List.append_assoc]
    congr 3
    rw [Int.natCast_add]; omega
theorem rise_mem {h x : Int} {n : Nat} : x ∈ rise h n ↔ h ≤ x ∧ x < h + n := by
  induction n with
  | zero => simp [rise] <;> omega
  | succ n ih => rw [rise_succ, List.mem_append, ih]; simp; omega
theorem rise_lt (h : Int) (n : Nat) : (rise h n).Pairwise (· < ·) := by
  induction n with
  | zero => exact .nil
  | succ n ih =>
    rw [rise_succ, List.pairwise_append]
    refine ⟨ih, List.pairwise_cons.2 ⟨fun _ h => by simp at h, .nil⟩, fun a ha b hb => ?_⟩
    simp only [List.mem_singleton] at hb
    have := (rise_mem.1 ha).2; omega
theorem srt_drop (l : List Int) (k : Nat) : srt ((srt l).drop k) = (srt l).drop k := srt_self ((srt_up l).sublist (List.drop_sublist k _))
theorem take_len (p : Pl) (m : Int) : (take p m).free.length = p.free.length - oldN p m := by
  show ((srt p.free).drop (oldN p m)).length = _
  rw [List.length_drop, srt_length]
theorem took_len (p : Pl) (m : Int) : (took p m).length = m.toNat := by
  unfold took
  rw [List.length_append, List.length_take, srt_length, rise_len]
  have h1 : oldN p m ≤ p.free.length := Nat.min_le_right _ _
  have h2 : oldN p m ≤ m.toNat := Nat.min_le_left _ _
  omega
theorem take_two (p : Pl) {a b : Int} (ha : 0 ≤ a) (hb : 0 ≤ b) : took p (a + b) = took p a ++ took (take p a) b ∧ take (take p a) b = take p (a + b) := by
  have e1 : oldN (take p a) b = min b.toNat (p.free.length - oldN p a) := by unfold oldN; rw [take_len]; rfl
  have e2 : oldN p (a + b) = oldN p a + oldN (take p a) b := by rw [e1]; unfold oldN; omega
  have h1 : oldN p a ≤ p.free.length := Nat.min_le_right _ _
  have h2 : oldN p a ≤ a.toNat := Nat.min_le_left _ _
  have h3 : oldN (take p a) b ≤ b.toNat := Nat.min_le_left _ _
  have e3 : (a + b).toNat - oldN p (a + b) = (a.toNat - oldN p a) + (b.toNat - oldN (take p a) b) := by omega
  have e4 : srt (take p a).free = (srt p.free).drop (oldN p a) := srt_drop _ _
  constructor
  · unfold took
    rw [e2, e4, show (a + b).toNat - (oldN p a + oldN (take p a) b) = (a.toNat - oldN p a) + (b.toNat - oldN (take p a) b) by rw [← e2]; exact e3, rise_add, List.take_add]
    show _ = _ ++ (_ ++ rise (p.high + ((a.toNat - oldN p a : Nat) : Int)) _)
    by_cases hr : a.toNat - oldN p a = 0
    · rw [hr]; simp [rise]
    · have hn : oldN (take p a) b = 0 := by
        rw [e1]; unfold oldN at *; omega
      rw [hn]; simp
  · unfold take
    rw [e4.symm.trans e4] at *
    have e5 : srt (List.drop (oldN p a) (srt p.free)) = List.drop (oldN p a) (srt p.free) := srt_drop _ _
    have e6 : oldN ⟨p.high + ((a.toNat - oldN p a : Nat) : Int), List.drop (oldN p a) (srt p.free), p.wait⟩ b = oldN (take p a) b := rfl
    simp only [e6, e5, List.drop_drop, e2]
    refine pl_ext ?_ rfl rfl
    simp only
    omega
theorem room_take {p : Pl} {q a : Int} (hq : p.high ≤ q) (h : may p q a) : roomZ (take p a) q = roomZ p q - a ∧ (take p a).high ≤ q := by
  obtain ⟨h0, h1⟩ := h
  have e1 : oldN p a = min a.toNat p.free.length := rfl
  have e2 := take_len p a
  have e3 : (take p a).high = p.high + ((a.toNat - oldN p a : Nat) : Int) := rfl
  unfold roomZ at *
  rw [e2, e3]
  split at h1 <;> split <;> omega
theorem may_add {p : Pl} {q a b : Int} (hq : p.high ≤ q) (ha : may p q a) (hb : may (take p a) q b) : may p q (a + b) := by
  have h1 := (room_take hq ha).1
  obtain ⟨b0, b1⟩ := hb
  obtain ⟨a0, a1⟩ := ha
  exact ⟨by omega, by omega⟩
theorem may_not {p : Pl} {q a b : Int} (hq : p.high ≤ q) (a0 : 0 ≤ a) (b0 : 0 ≤ b) (h : ¬ (may p q a ∧ may (take p a) q b)) : ¬ may p q (a + b) := by
  intro hm
  have ha : may p q a := ⟨a0, by have := hm.2; omega⟩
  refine h ⟨ha, b0, ?_⟩
  have h1 := (room_take hq ha).1
  have := hm.2
  omega

/-- What is taken and what is left are what was free, and new ones. -/
theorem take_perm (p : Pl) (m : Int) : (took p m ++ (take p m).free).Perm (p.free ++ rise p.high (m.toNat - oldN p m)) := by
  show (((srt p.free).take (oldN p m) ++ rise _ _) ++ (srt p.free).drop (oldN p m)).Perm _
  have h1 : (((srt p.free).take (oldN p m) ++ rise p.high (m.toNat - oldN p m)) ++ (srt p.free).drop (oldN p m)).Perm (((srt p.free).take (oldN p m) ++ (srt p.free).drop (oldN p m)) ++ rise p.high (m.toNat - oldN p m)) := by
    rw [List.append_assoc, List.append_assoc]; exact List.perm_append_comm.append_left _
  refine h1.trans ?_
  rw [List.take_append_drop]
  exact (srt_perm _).append_right _
/-- All pages of a pool, and what it took. -/
theorem all_nodup {p : Pl} {q : Int} (hc : Chk p q) (m : Int) : (∀ x, x ∈ took p m ++ ((take p m).free ++ pgF p.wait) → 2 ≤ x ∧ x < (take p m).high) ∧ (took p m ++ ((take p m).free ++ pgF p.wait)).Nodup := by
  obtain ⟨-, -, c3, -, -, c6⟩ := hc
  rw [listed_eq, row_srt] at c6
  obtain ⟨d1, d2⟩ := c6
  have hp : (took p m ++ ((take p m).free ++ pgF p.wait)).Perm ((p.free ++ pgF p.wait) ++ rise p.high (m.toNat - oldN p m)) := by
    rw [← List.append_assoc]
    refine ((take_perm p m).append_right _).trans ?_
    rw [List.append_assoc, List.append_assoc]
    exact List.perm_append_comm.append_left _
  have e3 : (take p m).high = p.high + ((m.toNat - oldN p m : Nat) : Int) := rfl
  constructor
  · intro x hx
    rw [hp.mem_iff, List.mem_append, rise_mem] at hx
    rcases hx with hx | hx
    · have := d1 x hx; omega
    · omega
  · rw [hp.nodup_iff, List.nodup_append]
    refine ⟨d2, nodup_of_lt (rise_lt _ _), fun a ha b hb e => ?_⟩
    subst e
    have := d1 a ha
    have := (rise_mem.1 hb).1
    omega
theorem free_sorted {p : Pl} {q : Int} (hc : Chk p q) : srt p.free = p.free ∧ (∀ x, x ∈ p.free → 2 ≤ x ∧ x < p.high) ∧ p.free.Pairwise (· < ·) := by
  have := (row_iff _ _).1 hc.2.2.2.2.1
  exact ⟨srt_self (this.2.imp fun h => by omega), this.1, this.2⟩
theorem took_lt {p : Pl} {q : Int} (hc : Chk p q) (m : Int) : (took p m).Pairwise (· < ·) := by
  obtain ⟨e, h1, h2⟩ := free_sorted hc
  unfold took
  rw [e, List.pairwise_append]
  refine ⟨h2.sublist (List.take_sublist _ _), rise_lt _ _, fun a ha b hb => ?_⟩
  have := h1 a (List.mem_of_mem_take ha)
  have := (rise_mem.1 hb).1
  omega
/-- What was taken, and then given back when all was released. -/
theorem back_chk {p : Pl} {Q q m : Int} (hc : Chk p Q) (hq : p.high ≤ q) (hm : may p q m) : Chk (give (release (take p m) 0 false) 1 (took p m)) q := by
  obtain ⟨d1, d2⟩ := all_nodup hc m
  have hh := (room_take hq hm).2
  have h2 : 2 ≤ (take p m).high := by
    have := hc.2.2.1
    show 2 ≤ p.high + ((m.toNat - oldN p m : Nat) : Int)
    omega
  have hr : release (take p m) 0 false = ⟨(take p m).high, listed (take p m), []⟩ := by
    refine pl_ext rfl ?_ ?_
    · show srt (flat ((take p m).free :: pgs (goW 0 false p.wait))) = srt (flat ((take p m).free :: pgs p.wait))
      have : goW 0 false p.wait = p.wait := by unfold goW; simp
      rw [this]
    · show keepW 0 false p.wait = []
      simp [keepW]
  rw [hr]
  have dL : (∀ x, x ∈ (take p m).free ++ pgF p.wait → 2 ≤ x ∧ x < (take p m).high) ∧ ((take p m).free ++ pgF p.wait).Nodup := ⟨fun x hx => d1 x (List.mem_append_right _ hx), (List.nodup_append.1 d2).2.1⟩
  have rL : Row (listed (take p m)) (take p m).high := by rw [listed_eq, row_srt]; exact dL
  by_cases hn : took p m = []
  · rw [show give ⟨(take p m).high, listed (take p m), []⟩ 1 (took p m) = ⟨(take p m).high, listed (take p m), []⟩ from if_pos hn]
    refine ⟨fun i a c h0 ha => by simp at ha, fun w hw => by simp at hw, h2, hh, rL, ?_⟩
    show Row (srt (flat [listed (take p m)])) _
    rw [flat_one, listed_eq, srt_self (srt_up _)]; exact rL
  · rw [give_new hn (fun w hw => by simp at hw)]
    have rS : Row (srt (took p m)) (take p m).high := by
      rw [row_srt]; exact ⟨fun x hx => d1 x (List.mem_append_left _ hx), (List.nodup_append.1 d2).1⟩
    refine ⟨fun i a c h0 ha hc => ?_, fun w hw => ?_, h2, hh, rL, ?_⟩
    · have := (List.getElem?_eq_some_iff.1 ha).1; simp at this; omega
    · simp only [List.nil_append, List.mem_singleton] at hw
      subst hw
      rintro (h | h)
      · exact hn (List.eq_nil_of_length_eq_zero (by rw [← srt_length]; exact congrArg List.length h))
      · exact h rS
    · show Row (srt (flat (listed (take p m) :: pgs [⟨1, srt (took p m)⟩]))) _
      rw [row_srt]
      have hp : (flat (listed (take p m) :: pgs [⟨1, srt (took p m)⟩])).Perm (took p m ++ ((take p m).free ++ pgF p.wait)) := by
        show (listed (take p m) ++ (srt (took p m) ++ [])).Perm _
        rw [List.append_nil]
        exact ((srt_perm _).append (srt_perm _)).trans List.perm_append_comm
      exact ⟨fun x hx => d1 x (hp.mem_iff.1 hx), hp.nodup_iff.2 d2⟩
end Go.Proofs.Ytkibkahknibgfaa
