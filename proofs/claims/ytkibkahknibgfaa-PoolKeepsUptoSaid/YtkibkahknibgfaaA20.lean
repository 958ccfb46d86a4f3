/-
  The rules as they are used: functions, loops; plain values; wraps. By an AI agent.
-/
import Derived.Test.YtkibkahknibgfaaA19
namespace Aml
open Go Go.RowKit
set_option linter.unusedVariables false
set_option linter.unusedSimpArgs false

def dI (n : Int) : DV := .v (.int .i64 n)
def dU (n : Int) : DV := .v (.int .u64 n)
def dY (n : Int) : DV := .v (.int .u8 n)
def dB (b : Bool) : DV := .v (.bool b)
def dS (s : ByteArray) : DV := .v (.string s)

theorem wu64 {n : Int} (h0 : 0 ≤ n) (h1 : n ≤ 18446744073709551615) : IntKind.u64.wrap n = n := by
  show n % 18446744073709551616 = n
  omega
theorem wu8 {n : Int} (h0 : 0 ≤ n) (h1 : n ≤ 255) : IntKind.u8.wrap n = n := by
  show n % 256 = n
  omega

section
variable {P : Program} {w0 : World}
/-- The length of a slice in a slot is a length. -/
theorem awp_len (i : Nat) {c : Code} {fr : List DV} {S : St} {Q : Exit → List DV → St → Prop} {s : Nat} {f : Bool} {xs : List DV} (hi : fr[i]? = some (.sl s f xs)) (h : xs.length ≤ maxLen → AWp P w0 c fr S Q) : AWp P w0 c fr S Q := by
  intro g a w h1 h2 h3
  have hlt : i < a.tmps.toList.length := by rw [← h2.len]; exact (List.getElem?_eq_some_iff.1 hi).1
  have hr := h2.at_ i _ _ hi (List.getElem?_eq_getElem hlt)
  refine h ?_ g a w h1 h2 h3
  rcases rep_sl hr with ⟨he, _⟩ | ⟨b, o', c', us, hv', hr, hfl, hlc, hcm, _⟩
  · rw [he]; simp
  · omega
/-- The same at a call. -/
theorem acall_len (i : Nat) {f : FuncId} {args : List DV} {S : St} {K : DV → St → Prop} {s : Nat} {fl : Bool} {xs : List DV} (hi : args[i]? = some (.sl s fl xs)) (h : xs.length ≤ 9223372036854775807 → ACall P w0 f args S K) : ACall P w0 f args S K := by
  intro g vs w h1 h2
  have hlt : i < vs.toList.length := by rw [← h2.len]; exact (List.getElem?_eq_some_iff.1 hi).1
  have hr := h2.at_ i _ _ hi (List.getElem?_eq_getElem hlt)
  refine h ?_ g vs w h1 h2
  rcases rep_sl hr with ⟨he, _⟩ | ⟨b, o', c', us, hv', hr, hfl, hlc, hcm, _⟩
  · rw [he]; simp
  · have : maxLen = 9223372036854775807 := rfl
    omega
end
end Aml
