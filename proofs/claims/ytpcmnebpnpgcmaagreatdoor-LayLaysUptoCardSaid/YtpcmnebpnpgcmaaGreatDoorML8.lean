/-
  LayLays. By an AI agent.
-/
import Derived.Test.YtpcmnebpnpgcmaaGreatDoorML7
import Derived.Test.YtpcmnebpnpgcmaaGreatDoorML5
import Derived.Test.YtpcmnebpnpgcmaaGreatDoorML6
import Derived.Test.YtpcmnebpnpgcmaaGreatDoorTie
import Derived.Test.YtpcmnebpnpgcmaaGreatDoorCards
import Derived.Deep.DeepHandedRow
import Derived.Lib.LaidTab
set_option linter.unusedVariables false
set_option linter.unusedSimpArgs false
set_option maxRecDepth 100000
set_option maxHeartbeats 16000000
namespace Go.Proofs.YtpcmnebpnpgcmaaGreatDoor
open Aml Go
theorem byS (s : ByteArray) : okBy (bY s) = true ∧ strOfNums (byD (bY s)) = s := by
 have e : bY s = (s.data.toList.map fun c => (c.toNat : Int)).map fun n => DV.v (.int .u8 n) := by unfold bY; rw [List.map_map]; rfl
 rw [e, (by_map _).1]
 refine ⟨(by_map _).2, ?_⟩
 unfold strOfNums
 rw [List.map_map]
 have : s.data.toList.map ((fun n : Int => UInt8.ofNat n.toNat) ∘ fun c => (c.toNat : Int)) = s.data.toList := by
  refine (List.map_congr_left fun c _ => ?_).trans (List.map_id _)
  simp
 rw [this]
theorem layLays (w0 : W0) (hgl : GlobC w0) (l : List S19) (at_ : List Int) (S : St) (hl : l.length ≤ 1048576) (ha : at_.length ≤ 1048576) : ACall Tryz.prog w0 3 [.sl 3 false (l.map dS19), dL at_] S (fun d S' => d = dB true ∧ S' = S) := by
 refine fnS [14] mx Tryz.func3 rfl rfl (by kernel_rfl) ?_; (refine @goW _ ?_; refine goS1 @Tryz.ntmps3 ?_)
 refine use1 (awake19 w0 hgl _) ?_
 (refine @goW _ ?_; refine goS ?_)
 refine useK (builtL w0 hgl l at_ _ hl) ?_
 rintro _ S ⟨n, b, A, w, r, is, rfl, hc, hla, rfl⟩
 (refine @goW _ ?_; refine goS ?_)
 intro bn hbt hat
 refine use1 (hc.node _) ?_
 (refine @goW _ ?_; refine goS ?_)
 refine use1 (hla.prg (by omega) _) ?_
 (refine @goW _ ?_; refine goS ?_)
 intro ba
 refine use1 (hla.ref (by omega) _) ?_
 (refine @goW _ ?_; refine goS ?_)
 intro bb
 have hrl := hla.rl
 have hwl := hla.wl
 refine useQ (hla.cl.plain _) ?_
 (refine @goW _ ?_; refine goS ?_)
 refine useQ (hla.cl.same _) ?_
 (refine @goW _ ?_; refine goS ?_)
 refine useQ (ints3 w0 r r _ (by omega)) ?_
 (refine @goW _ ?_; refine goS ?_)
 refine loopN [14] w.length [9, 13, 16] (fun k => [(16, dI k)]) (fun _ => ⟨(bb.n, [dI A.page, dB A.leaf, .sl 4 false (A.l.map dC)]) :: (ba.n, [dI A.page, dB A.leaf, .sl 1 false (A.l.map fun c => dS c.key), .sl 2 false ((if A.leaf then A.l else []).map dV2), .sl 5 false ((kidsOf A).map dT)]) :: (bn.n, [dI n.page, dB n.leaf, .sl 4 false (n.l.map dC)]) :: S.box, S.acc⟩) (fun _ => True) mx (by kernel_rfl) ?_ ?_
 ·(refine @goW _ ?_; exact goT)
 ·intro k hk _
  (refine @goW _ ?_; refine goS ?_)
  intro hlt
  refine Y.ordK [] [] [0, 1, 2, 3, 5, 6, 7, 8, 4, 9, 10, 11, 12, 13, 14, 15, 18, 19, 20, 21, 16, 17, 22, 23, 24] mx (by kernel_rfl) ?_
  (refine @goW _ ?_; refine goS ?_)
  refine ⟨hlt, fun a h1 => ⟨hlt, fun a2 h2 => ?_⟩⟩
  cases getE h1 h2
  refine ⟨fun e => e rfl, fun _ => ⟨hlt, fun a3 h3 => ⟨hlt, fun a4 h4 => ?_⟩⟩⟩
  cases getE h1 h3
  cases getE h1 h4
  rw [(byS a.2).2]
  exact ⟨(byS a.2).1, fun _ => ⟨hlt, i_oneV k (by omega)⟩, fun e => by rw [eqS_self] at e; cases e⟩
end Go.Proofs.YtpcmnebpnpgcmaaGreatDoor
namespace Go.Proofs.YtpcmnebpnpgcmaaGreatDoor
open Aml Go Go.RowKit Go.ChangeShapes
theorem gHalf : Tryz.prog.globalNamed "jalousie/crc.half" = some 0 := by kernel_rfl
theorem gHalfT : (Tryz.prog.globals[0]?).map (·.type) = some 240 := by kernel_rfl
theorem glob_of {W : World} (h : laidMetH Tryz.prog [("jalousie/crc.half", Rows.laid_jalousie_crc_half)] W) : GlobC ⟨W, gW W⟩ := by
 have hT : Lib.TabIs Tryz.prog W "jalousie/crc.half" .u32 halfT := Lib.tabIs_of_head (rest := []) gHalf gHalfT Tryz.underlying240 Tryz.underlying178 (by kernel_rfl) (by kernel_rfl) h
 refine ⟨fun j => ?_, fun u hu => ?_⟩
 ·show W.cell? ⟨0, j, none⟩ = halfV[j]?
  rw [World.var?_cell gHalf hT j, List.getElem?_toArray]
  rfl
 ·obtain ⟨z, _, rfl⟩ := List.mem_map.1 hu
  rfl
noncomputable def laidWorld (os : Os) : World :=
 { World.holding Tryz.prog os ⟨#[], #[], []⟩ with heap := (World.holding Tryz.prog os ⟨#[], #[], []⟩).heap.modify 0 fun
   | .cells _ t frozen => .cells halfV.toArray t frozen
   | o => o }
theorem rdS19 {W : World} : Rd Tryz.prog W 65 (fun s : S19 => [dS s.key, dI s.size, dB s.lay]) (fun s => 1) (fun s => True) := by
 have h := rd_struct (W := W) Tryz.underlying65 (total := 3) (by kernel_rfl) rfl (rdF_cons (k := 1) (rd_str Tryz.underlying9) rfl (by kernel_rfl) (rdF_cons (k := 1) (rd_i64 Tryz.underlying3) rfl (by kernel_rfl) (rdF_cons (k := 1) (rd_bool Tryz.underlying4) rfl (by kernel_rfl) rdF_nil)))
 exact h.conv (fun a => ⟨a.1, a.2.1, a.2.2.1⟩) (fun _ => rfl) (fun a => by omega) fun _ _ => trivial
theorem sum_one19 {α : Type} (l : List α) : (l.map fun _ => 1).sum = l.length := by
 induction l with
 | nil => rfl
 | cons a l ih => simp only [List.map_cons, List.sum_cons, List.length_cons, ih]; omega
theorem rdS19s {W : World} : Rd Tryz.prog W 22 (fun l : List S19 => [.sl 3 false (l.map dS19)]) (fun l => l.length) (fun l => True) :=
 (rd_sliceA rdS19 Tryz.underlying22 (k := 3) (by kernel_rfl) (by omega)).conv id (fun _ => rfl) (fun l => by simp only [id, sum_one19]; omega) fun _ _ => trivial
theorem rdIs19 {W : World} : Rd Tryz.prog W 23 (fun l : List Int => [dL l]) (fun l => l.length) (fun l => True) :=
 (rd_slice1 (rd_i64 Tryz.underlying3) Tryz.underlying23 (by kernel_rfl)).conv id (fun _ => rfl) (fun l => by simp only [id, sum_one19]; omega) fun _ _ => trivial
end Go.Proofs.YtpcmnebpnpgcmaaGreatDoor
namespace Go.Proofs.YtpcmnebpnpgcmaaGreatDoor
open Aml Go Go.RowKit Go.ChangeShapes Go.WideShapes Go.ChangeAt
theorem layLays_own : ownKnob Tryz.prog.godebug = none := by kernel_rfl
theorem layLays_contract (H : Type) (enc : TypeId × Value → H) (W : World) (base : Nat) (args : Array Value) (ds gs : List (DataW H)) (before : List MemPlace)
  (hval : ∀ (j : Nat) t v, Tryz.f3.params[j]? = some t → args[j]? = some v → Value.okWide Tryz.prog W .any base t v)
  (hW : DataW.Whole enc Tryz.prog Tryz.f3.params.toList Rows.layLaysSpec.vars false W args.toList ds gs before) (hk : Rows.uptoBulkAll (ds ++ gs) ≤ 1048576) (hL : laidMetH Tryz.prog Rows.layLaysUptoRow.laid W) :
  Calls Tryz.prog 3 args W fun e W' => ∃ v, e = .returned v ∧ Rows.layLaysSpec.post enc Tryz.prog Tryz.f3 false true false false W args v W' :=
 law_contractG (w0 := ⟨W, gW W⟩) rfl (.refl _) enc (ts := [22, 23]) (tb := 4) (rdA_one rdS19s (by kernel_rfl) (rdA_one rdIs19 (by kernel_rfl) rdA_nil)) Tryz.params3 rfl Tryz.underlying4 rfl (by kernel_rfl) (by intro t ht; revert t; decide +kernel) (fun ds hd => by
  first
  | (match ds, hd with | [_], _ => rfl)
  | (match ds, hd with | [_, _], _ => rfl)
  | (match ds, hd with | [_, _, _], _ => rfl)
  | (match ds, hd with | [_, _, _, _], _ => rfl)) (fun a ha hs => (layLays ⟨W, gW W⟩ (glob_of hL) a.1 a.2.1 ⟨[], []⟩ (by omega) (by omega)).mono fun d S' h => h.1) base args ds gs before hval hW hk
theorem layLays_met (os : Os) : laidMet Tryz.prog Rows.layLaysUptoRow.laid ((laidWorld os).forCall (fun _ _ => 0) ⟨#[], #[.slice none 0 0, .slice none 0 0], []⟩).memory :=
 laidMet_of_run' 8 (by kernel_rfl) (by kernel_rfl)
theorem layLays_reads (os : Os) {H : Type} (enc : TypeId × Value → H) : ∃ places, DataW.whole enc Tryz.prog ((laidWorld os).forCall (fun _ _ => 0) ⟨#[], #[.slice none 0 0, .slice none 0 0], []⟩).memory Tryz.f3.params.toList Rows.layLaysSpec.vars false (#[.slice none 0 0, .slice none 0 0] : Array Value).toList 8 = some ([.nil, .nil], [], places) :=
 ⟨[], by kernel_rfl⟩
theorem layLays_lifted (os : Os) (started : os.Started) (H : Type) (enc : TypeId × Value → H) (F : Stop.Interp) :
  ReturnsInHanded {} Tryz.checked os 3 .any ((Rows.OpenSpec.upto Rows.layLaysSpec).preRow enc Tryz.prog Tryz.f3 Rows.layLaysUptoRow.domain false Rows.layLaysUptoRow.laid) (((Rows.OpenSpec.upto Rows.layLaysSpec).at F).post enc Tryz.prog Tryz.f3 false true false false) := by
 obtain ⟨places, hx⟩ := layLays_reads os enc
 refine returnsInHanded_of_row (C := Tryz.checked) (s := Rows.OpenSpec.upto Rows.layLaysSpec) layLays_own started (by kernel_rfl) Tryz.func3
  (witness_row_at (enc := enc) (C := Tryz.checked) false (laidWorld os) #[.slice none 0 0, .slice none 0 0] rfl (by kernel_rfl) (by kernel_rfl) (by kernel_rfl)
   (OpenSpec.preRow_of_cond 8 hx (by kernel_rfl) (fun k hk => by cases hk; kernel_rfl) (by kernel_rfl) (layLays_met os))) ?_
 intro W base args ds gs before hval hW _ hc _ hL _ _
 exact layLays_contract H enc W base args ds gs before hval hW (of_decide_eq_true (hc _ rfl)) hL
theorem layLays_said : Rows.LayLaysUptoSaid :=
 OpenClaim.holds_of_cond 3 Tryz.f3 rfl rfl rfl rfl rfl rfl rfl ⟨rfl, rfl, rfl, rfl, rfl⟩ rfl rfl rfl rfl rfl (by kernel_rfl) Tryz.func3 (by kernel_rfl)
  (of_decide_eq_true (by kernel_rfl)) (by unfold Func.isWrapper; first | (rw [if_pos (by decide +kernel)]; kernel_rfl) | (rw [if_neg (by decide +kernel)]; exact ⟨rfl, rfl⟩))
  (fun os started H enc _ F => by rw [OpenClaim.pre_eq_preRow]; exact layLays_lifted os started H enc F)
theorem layLays_plain (f : FuncId) (fn : Func) (hf : Tryz.pinned.checked.prog.funcNamed Rows.layLaysUptoRow.func = some f) (hfn : Tryz.pinned.checked.prog.funcs[f]? = some fn) :
  false = Tryz.pinned.checked.prog.looks [] ∧ ∀ (j : Nat) t, fn.params[j]? = some t → Tryz.pinned.checked.prog.wantsStandIn t = false := by
 obtain rfl : f = 3 := Option.some.inj ((show Tryz.prog.funcNamed Rows.layLaysUptoRow.func = some 3 by kernel_rfl).symm.trans hf) |>.symm
 obtain rfl : fn = Tryz.f3 := (Option.some.inj (Tryz.func3.symm.trans hfn)).symm
 refine ⟨by kernel_rfl, fun j t ht => ?_⟩
 rw [Tryz.params3] at ht
 have hm : t ∈ ([22, 23] : List TypeId) := by simpa using Array.mem_of_getElem? ht
 exact (show ∀ t, t ∈ ([22, 23] : List TypeId) → Tryz.prog.wantsStandIn t = false by decide +kernel) t hm
theorem layLays_holds : Rows.LayLaysUptoCardSaid :=
 Claim7.holds_tied_plain_at .later [] _ _ _ _ layLays_said (fun _ h => by cases h) (by kernel_rfl) (fun _ h => by cases h) layLaysUpto_row_tie rfl ⟨rfl, rfl⟩ (by kernel_rfl) rfl layLays_plain (by kernel_rfl)
end Go.Proofs.YtpcmnebpnpgcmaaGreatDoor
