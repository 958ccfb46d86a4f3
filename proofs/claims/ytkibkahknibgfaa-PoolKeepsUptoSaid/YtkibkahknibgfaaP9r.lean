/-
  Pools, read as data. By an AI agent.
-/
import Derived.Test.YtkibkahknibgfaaP1
namespace Go.Proofs.Ytkibkahknibgfaa
open Aml Go Go.RowKit Go.ChangeShapes
set_option linter.unusedVariables false
set_option linter.unusedSimpArgs false
set_option maxRecDepth 100000

theorem sum_one {α : Type} (l : List α) : (l.map fun _ => 1).sum = l.length := by
  induction l with
  | nil => rfl
  | cons a l ih => simp only [List.map_cons, List.sum_cons, List.length_cons, ih]; omega
theorem rdInts {W : World} : Rd Try.prog W 59 (fun l : List Int => [dL l]) (fun l => l.length) (fun l => True) :=
  (rd_slice1 (rd_i64 Try.underlying3) Try.underlying59 (by kernel_rfl)).conv id (fun _ => rfl) (fun l => by simp only [id, sum_one]; omega) fun _ _ => trivial
theorem rdWt {W : World} : Rd Try.prog W 133 (fun w : Wt => [dU w.txn, dL w.pages]) (fun w => w.pages.length + 1) (fun w => True) := by
  have h := rd_struct (W := W) Try.underlying133 (total := 2) (by kernel_rfl) rfl (rdF_cons (k := 1) (rd_u64 Try.underlying27) rfl (by kernel_rfl) (rdF_cons (k := 1) rdInts rfl (by kernel_rfl) rdF_nil))
  exact h.conv (fun x => ⟨x.1, x.2.1⟩) (fun _ => rfl) (fun x => by simp only; omega) fun _ _ => trivial
theorem nW_sum (l : List Wt) : (l.map fun w => w.pages.length + 1).sum = nW l + l.length := by
  induction l with
  | nil => rfl
  | cons a l ih => simp only [nW, List.map_cons, List.sum_cons, List.length_cons] at *; omega
theorem rdPl {W : World} : Rd Try.prog W 79 (fun p : Pl => [dI p.high, dL p.free, .sl 2 false (p.wait.map dW)]) (fun p => p.free.length + nW p.wait + p.wait.length) (fun p => -9223372036854775808 ≤ p.high ∧ p.high ≤ 9223372036854775807) := by
  have h := rd_struct (W := W) Try.underlying79 (total := 3) (by kernel_rfl) rfl (rdF_cons (k := 1) (rd_i64 Try.underlying3) rfl (by kernel_rfl) (rdF_cons (k := 1) rdInts rfl (by kernel_rfl) (rdF_cons (k := 1) (rd_sliceA rdWt Try.underlying77 (k := 2) (by kernel_rfl) (by omega)) rfl (by kernel_rfl) rdF_nil)))
  exact h.conv (fun x => ⟨x.1, x.2.1, x.2.2.1⟩) (fun _ => rfl) (fun x => by simp only [nW_sum]; omega) fun _ h => h.1
end Go.Proofs.Ytkibkahknibgfaa
