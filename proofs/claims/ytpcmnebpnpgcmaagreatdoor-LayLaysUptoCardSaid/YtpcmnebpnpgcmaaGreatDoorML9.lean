/-
  LayLays. By an AI agent.
-/
import Derived.Test.YtpcmnebpnpgcmaaGreatDoorML8
set_option linter.unusedVariables false
set_option linter.unusedSimpArgs false
set_option maxRecDepth 100000
set_option maxHeartbeats 16000000
namespace Go.Proofs.YtpcmnebpnpgcmaaGreatDoor
open Aml Go Go.RowKit Go.ChangeShapes Go.WideShapes Go.ChangeAt
theorem layLays_own : ownKnob Tryz.prog.godebug = none := by kernel_rfl
theorem layLays_contract (H : Type) (enc : TypeId × Value → H) (W : World) (base : Nat) (args : Array Value) (ds gs : List (DataW H)) (before : List MemPlace)
  (hval : ∀ (j : Nat) t v, Tryz.f3.params[j]? = some t → args[j]? = some v → Value.okWide Tryz.prog W .any base t v)
  (hW : DataW.Whole enc Tryz.prog Tryz.f3.params.toList Rows.layLaysSpec.vars false W args.toList ds gs before) (hk : Rows.uptoBulkAll (ds ++ gs) ≤ 1048576) (hL : laidMetH Tryz.prog Rows.layLaysUptoRow.laid W) :
  Calls Tryz.prog 3 args W fun e W' => ∃ v, e = .returned v ∧ Rows.layLaysSpec.post enc Tryz.prog Tryz.f3 false true false false W args v W' :=
 law_contractG (w0 := ⟨W, gW W⟩) rfl (.refl _) enc (ts := [22, 23]) (tb := 4) (rdA_one rdS19s (by kernel_rfl) (rdA_one rdIs19 (by kernel_rfl) rdA_nil)) Tryz.params3 rfl Tryz.underlying4 rfl (by kernel_rfl) (by intro t ht; revert t; decide +kernel) (fun ds hd => by
  first
  | (match ds, hd with | [_], _ => rfl)
  | (match ds, hd with | [_, _], _ => rfl)
  | (match ds, hd with | [_, _, _], _ => rfl)
  | (match ds, hd with | [_, _, _, _], _ => rfl)) (fun a ha hs => (layLays ⟨W, gW W⟩ (glob_of hL) a.1 a.2.1 ⟨[], []⟩ (by omega) (by omega)).mono fun d S' h => h.1) base args ds gs before hval hW hk
theorem layLays_met (os : Os) : laidMet Tryz.prog Rows.layLaysUptoRow.laid ((laidWorld os).forCall (fun _ _ => 0) ⟨#[], #[.slice none 0 0, .slice none 0 0], []⟩).memory :=
 laidMet_of_run' 8 (by kernel_rfl) (by kernel_rfl)
theorem layLays_reads (os : Os) {H : Type} (enc : TypeId × Value → H) : ∃ places, DataW.whole enc Tryz.prog ((laidWorld os).forCall (fun _ _ => 0) ⟨#[], #[.slice none 0 0, .slice none 0 0], []⟩).memory Tryz.f3.params.toList Rows.layLaysSpec.vars false (#[.slice none 0 0, .slice none 0 0] : Array Value).toList 8 = some ([.nil, .nil], [], places) :=
 ⟨[], by kernel_rfl⟩
theorem layLays_lifted (os : Os) (started : os.Started) (H : Type) (enc : TypeId × Value → H) (F : Stop.Interp) :
  ReturnsInHanded {} Tryz.checked os 3 .any ((Rows.OpenSpec.upto Rows.layLaysSpec).preRow enc Tryz.prog Tryz.f3 Rows.layLaysUptoRow.domain false Rows.layLaysUptoRow.laid) (((Rows.OpenSpec.upto Rows.layLaysSpec).at F).post enc Tryz.prog Tryz.f3 false true false false) := by
 obtain ⟨places, hx⟩ := layLays_reads os enc
 refine returnsInHanded_of_row (C := Tryz.checked) (s := Rows.OpenSpec.upto Rows.layLaysSpec) layLays_own started (by kernel_rfl) Tryz.func3
  (witness_row_at (enc := enc) (C := Tryz.checked) false (laidWorld os) #[.slice none 0 0, .slice none 0 0] rfl (by kernel_rfl) (by kernel_rfl) (by kernel_rfl)
   (OpenSpec.preRow_of_cond 8 hx (by kernel_rfl) (fun k hk => by cases hk; kernel_rfl) (by kernel_rfl) (layLays_met os))) ?_
 intro W base args ds gs before hval hW _ hc _ hL _ _
 exact layLays_contract H enc W base args ds gs before hval hW (of_decide_eq_true (hc _ rfl)) hL
theorem layLays_said : Rows.LayLaysUptoSaid :=
 OpenClaim.holds_of_cond 3 Tryz.f3 rfl rfl rfl rfl rfl rfl rfl ⟨rfl, rfl, rfl, rfl, rfl⟩ rfl rfl rfl rfl rfl (by kernel_rfl) Tryz.func3 (by kernel_rfl)
  (of_decide_eq_true (by kernel_rfl)) (by unfold Func.isWrapper; first | (rw [if_pos (by decide +kernel)]; kernel_rfl) | (rw [if_neg (by decide +kernel)]; exact ⟨rfl, rfl⟩))
  (fun os started H enc _ F => by rw [OpenClaim.pre_eq_preRow]; exact layLays_lifted os started H enc F)
theorem layLays_plain (f : FuncId) (fn : Func) (hf : Tryz.pinned.checked.prog.funcNamed Rows.layLaysUptoRow.func = some f) (hfn : Tryz.pinned.checked.prog.funcs[f]? = some fn) :
  false = Tryz.pinned.checked.prog.looks [] ∧ ∀ (j : Nat) t, fn.params[j]? = some t → Tryz.pinned.checked.prog.wantsStandIn t = false := by
 obtain rfl : f = 3 := Option.some.inj ((show Tryz.prog.funcNamed Rows.layLaysUptoRow.func = some 3 by kernel_rfl).symm.trans hf) |>.symm
 obtain rfl : fn = Tryz.f3 := (Option.some.inj (Tryz.func3.symm.trans hfn)).symm
 refine ⟨by kernel_rfl, fun j t ht => ?_⟩
 rw [Tryz.params3] at ht
 have hm : t ∈ ([22, 23] : List TypeId) := by simpa using Array.mem_of_getElem? ht
 exact (show ∀ t, t ∈ ([22, 23] : List TypeId) → Tryz.prog.wantsStandIn t = false by decide +kernel) t hm
theorem layLays_holds : Rows.LayLaysUptoCardSaid :=
 Claim7.holds_tied_plain_at .later [] _ _ _ _ layLays_said (fun _ h => by cases h) (by kernel_rfl) (fun _ h => by cases h) layLaysUpto_row_tie rfl ⟨rfl, rfl⟩ (by kernel_rfl) rfl layLays_plain (by kernel_rfl)
end Go.Proofs.YtpcmnebpnpgcmaaGreatDoor
