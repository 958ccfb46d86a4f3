/-
  LayKeeps, LayPages and LayFew. By an AI agent.
-/
import Derived.Test.YtpcmnebpnpgcmaaGreatDoorML8
import Derived.Test.YtpcmnebpnpgcmaaGreatDoorML5
import Derived.Test.YtpcmnebpnpgcmaaGreatDoorML7
import Derived.Test.YtpcmnebpnpgcmaaGreatDoorML6
import Derived.Test.YtpcmnebpnpgcmaaGreatDoorTie
import Derived.Test.YtpcmnebpnpgcmaaGreatDoorCards
import Derived.Deep.DeepHandedRow
import Derived.Lib.LaidTab
set_option linter.unusedVariables false
set_option linter.unusedSimpArgs false
set_option maxRecDepth 100000
set_option maxHeartbeats 16000000
namespace Go.Proofs.YtpcmnebpnpgcmaaGreatDoor
open Aml Go
theorem layKeeps (w0 : W0) (hgl : GlobC w0) (l : List S19) (S : St) (hl : l.length ≤ 1048576) : ACall Tryz.prog w0 4 [.sl 3 false (l.map dS19)] S (fun d S' => d = dB true ∧ S' = S) := by
 refine fnS [] mx Tryz.func4 rfl rfl (by kernel_rfl) ?_; (refine @goW _ ?_; refine goS1 @Tryz.ntmps4 ?_)
 refine use1 (awake19 w0 hgl _) ?_
 (refine @goW _ ?_; refine goS ?_)
 refine useK (builtU w0 l _ hl) ?_
 rintro _ S ⟨n, b, M, R, W, rfl, hb, hc, hd, rfl⟩
 (refine @goW _ ?_; refine goS ?_)
 intro bn hbt
 refine use1 (hc.unused _) ?_
 (refine @goW _ ?_; refine goS ?_)
 refine use1 (hc.fresh _) ?_
 (refine @goW _ ?_; refine goS ?_)
 intro hge
 have hL := hd (by omega)
 have hm := unu_may0 hb (by omega)
 have hul := unuN_len n
 have hc2 := cl_of w0 hL.bt (by omega)
 have hLay := fun S => LayG w0 hgl n (unuN n) S hc.tree (by omega)
 rw [layO_t hm hL] at hLay
 have hLay2 := fun S => LayG w0 hgl M [] S hc2.tree (by simp)
 rw [layO_again hL.bt hL.fr] at hLay2
 have hwl := hL.wlen (by omega)
 have hrl := hL.rlen
 have hwr := fun (i : Nat) x => hL.wr_at (i := i) (x := x)
 have hen := hL.en
 have hents2 := hc2.ents
 rw [hen] at hents2
 have hsz := hL.sz
 have hfr := hL.fr
 have hflt : fltI (srt (alN M)) (srt (alN n)) = [] := flt_noneL fun p hp => (srt_perm _).mem_iff.2 (hL.al.mem_iff.2 (List.mem_append_left _ ((srt_perm _).mem_iff.1 hp)))
 have hal1 := hc.al
 have hal2 := hc2.al
 have hel := hc.en
 have hwo := fun S => withoutR w0 (srt (alN n)) (srt (alN M)) S (by rw [srt_length]; omega) (by rw [srt_length]; omega)
 rw [hflt] at hwo
 refine use1 (hc.node _) ?_
 (refine @goW _ ?_; refine goS ?_)
 refine use1 (hLay _) ?_
 (refine @goW _ ?_; refine goS ?_)
 intro b2
 refine use1 (hc.fresh _) ?_
 (refine @goW _ ?_; refine goS ?_)
 refine ⟨fun e => e hwl, fun _ => ⟨fun e => e (by rw [w64 (by omega) (by omega)]; omega), fun _ => ?_⟩⟩
 refine loopN [] W.length [4, 6, 7, 8, 11] (fun k => [(11, dI k)]) (fun _ => ⟨(b2.n, [dI M.page, dB M.leaf, .sl 1 false (M.l.map fun c => dS c.key), .sl 2 false ((if M.leaf then M.l else []).map dV2), .sl 5 false ((kidsOf M).map dT)]) :: (bn.n, [dI n.page, dB n.leaf, .sl 4 false (n.l.map dC)]) :: S.box, S.acc⟩) (fun _ => True) mx (by kernel_rfl) ?_ ?_
 ·(refine @goW _ ?_; exact goT)
 ·intro k hk _
  (refine @goW _ ?_; refine goS ?_)
  refine ⟨fun hlt => ⟨hlt, fun a h1 => ⟨by omega, fun a2 h2 => ?_⟩⟩, fun hlt => ?_⟩
  ·have e := hwr k a h1
   cases getE e h2
   refine ⟨fun e => e rfl, fun _ => ⟨hlt, fun a3 h3 => ?_⟩⟩
   cases getE h1 h3
   have hs := hsz a (List.mem_of_getElem? h1)
   exact ⟨fun e => e (by rw [bY_len, hs]; rfl), fun _ => ⟨hlt, i_oneV k (by omega)⟩⟩
  ·refine use1 (hc2.plain _) ?_
   (refine @goW _ ?_; refine goS ?_)
   intro b3
   refine use1 (hc.ents _) ?_
   (refine @goW _ ?_; refine goS ?_)
   refine use1 (hents2 _) ?_
   (refine @goW _ ?_; refine goS ?_)
   refine loopN [] (entsN n).length [4, 7, 12, 13, 14, 15] (fun k => [(15, dI k)]) (fun _ => ⟨(b3.n, [dI M.page, dB M.leaf, .sl 4 false (M.l.map dC)]) :: (b2.n, [dI M.page, dB M.leaf, .sl 1 false (M.l.map fun c => dS c.key), .sl 2 false ((if M.leaf then M.l else []).map dV2), .sl 5 false ((kidsOf M).map dT)]) :: (bn.n, [dI n.page, dB n.leaf, .sl 4 false (n.l.map dC)]) :: S.box, S.acc⟩) (fun _ => True) mx (by kernel_rfl) ?_ ?_
   ·(refine @goW _ ?_; exact goT)
   ·intro k hk _
    (refine @goW _ ?_; refine goS ?_)
    refine ⟨fun hlt => ⟨hlt, fun a h1 => ⟨hlt, fun a2 h2 => ?_⟩⟩, fun hlt => ?_⟩
    ·cases getE h1 h2
     refine ⟨fun e => (by rw [eqS_self] at e; cases e), fun _ => ⟨hlt, fun a3 h3 => ⟨hlt, fun a4 h4 => ?_⟩⟩⟩
     cases getE h1 h3
     cases getE h1 h4
     exact ⟨fun _ => ⟨hlt, i_oneV k (by omega)⟩, fun e => by rw [eqS_self] at e; cases e⟩
    ·refine use1 (hLay2 _) ?_ (.cons (.refl _) (.cons (Wk.nil _ _ _) .nil))
     (refine @goW _ ?_; refine goS ?_)
     intro b4
     refine useQ (hc2.fresh _) ?_
     rw [hfr]
     (refine @goW _ ?_; refine goS ?_)
     refine useQ (hc.pages _) ?_
     (refine @goW _ ?_; refine goS ?_)
     refine useQ (hc2.pages _) ?_
     (refine @goW _ ?_; refine goS ?_)
     refine useQ (hwo _) ?_
     (refine @goW _ ?_; refine goS ?_)
     refine useQ (hc2.plain _) ?_
     (refine @goW _ ?_; refine goS ?_)
     refine useQ (hc2.same _) ?_
     (refine @goW _ ?_; refine goS ?_)
     trivial
end Go.Proofs.YtpcmnebpnpgcmaaGreatDoor
namespace Go.Proofs.YtpcmnebpnpgcmaaGreatDoor
open Aml Go Go.RowKit Go.ChangeShapes
theorem gHalf : Tryz.prog.globalNamed "jalousie/crc.half" = some 0 := by kernel_rfl
theorem gHalfT : (Tryz.prog.globals[0]?).map (·.type) = some 240 := by kernel_rfl
theorem glob_of {W : World} (h : laidMetH Tryz.prog [("jalousie/crc.half", Rows.laid_jalousie_crc_half)] W) : GlobC ⟨W, gW W⟩ := by
 have hT : Lib.TabIs Tryz.prog W "jalousie/crc.half" .u32 halfT := Lib.tabIs_of_head (rest := []) gHalf gHalfT Tryz.underlying240 Tryz.underlying178 (by kernel_rfl) (by kernel_rfl) h
 refine ⟨fun j => ?_, fun u hu => ?_⟩
 ·show W.cell? ⟨0, j, none⟩ = halfV[j]?
  rw [World.var?_cell gHalf hT j, List.getElem?_toArray]
  rfl
 ·obtain ⟨z, _, rfl⟩ := List.mem_map.1 hu
  rfl
noncomputable def laidWorld (os : Os) : World :=
 { World.holding Tryz.prog os ⟨#[], #[], []⟩ with heap := (World.holding Tryz.prog os ⟨#[], #[], []⟩).heap.modify 0 fun
   | .cells _ t frozen => .cells halfV.toArray t frozen
   | o => o }
theorem rdS19 {W : World} : Rd Tryz.prog W 65 (fun s : S19 => [dS s.key, dI s.size, dB s.lay]) (fun s => 1) (fun s => True) := by
 have h := rd_struct (W := W) Tryz.underlying65 (total := 3) (by kernel_rfl) rfl (rdF_cons (k := 1) (rd_str Tryz.underlying9) rfl (by kernel_rfl) (rdF_cons (k := 1) (rd_i64 Tryz.underlying3) rfl (by kernel_rfl) (rdF_cons (k := 1) (rd_bool Tryz.underlying4) rfl (by kernel_rfl) rdF_nil)))
 exact h.conv (fun a => ⟨a.1, a.2.1, a.2.2.1⟩) (fun _ => rfl) (fun a => by omega) fun _ _ => trivial
theorem sum_one19 {α : Type} (l : List α) : (l.map fun _ => 1).sum = l.length := by
 induction l with
 | nil => rfl
 | cons a l ih => simp only [List.map_cons, List.sum_cons, List.length_cons, ih]; omega
theorem rdS19s {W : World} : Rd Tryz.prog W 22 (fun l : List S19 => [.sl 3 false (l.map dS19)]) (fun l => l.length) (fun l => True) :=
 (rd_sliceA rdS19 Tryz.underlying22 (k := 3) (by kernel_rfl) (by omega)).conv id (fun _ => rfl) (fun l => by simp only [id, sum_one19]; omega) fun _ _ => trivial
end Go.Proofs.YtpcmnebpnpgcmaaGreatDoor
namespace Go.Proofs.YtpcmnebpnpgcmaaGreatDoor
open Aml Go Go.RowKit Go.ChangeShapes Go.WideShapes Go.ChangeAt
theorem layKeeps_own : ownKnob Tryz.prog.godebug = none := by kernel_rfl
theorem layKeeps_contract (H : Type) (enc : TypeId × Value → H) (W : World) (base : Nat) (args : Array Value) (ds gs : List (DataW H)) (before : List MemPlace)
  (hval : ∀ (j : Nat) t v, Tryz.f4.params[j]? = some t → args[j]? = some v → Value.okWide Tryz.prog W .any base t v)
  (hW : DataW.Whole enc Tryz.prog Tryz.f4.params.toList Rows.layKeepsSpec.vars false W args.toList ds gs before) (hk : Rows.uptoBulkAll (ds ++ gs) ≤ 1048576) (hL : laidMetH Tryz.prog Rows.layKeepsUptoRow.laid W) :
  Calls Tryz.prog 4 args W fun e W' => ∃ v, e = .returned v ∧ Rows.layKeepsSpec.post enc Tryz.prog Tryz.f4 false true false false W args v W' :=
 law_contractG (w0 := ⟨W, gW W⟩) rfl (.refl _) enc (ts := [22]) (tb := 4) (rdA_one rdS19s (by kernel_rfl) rdA_nil) Tryz.params4 rfl Tryz.underlying4 rfl (by kernel_rfl) (by intro t ht; revert t; decide +kernel) (fun ds hd => by
  first
  | (match ds, hd with | [_], _ => rfl)
  | (match ds, hd with | [_, _], _ => rfl)
  | (match ds, hd with | [_, _, _], _ => rfl)
  | (match ds, hd with | [_, _, _, _], _ => rfl)) (fun a ha hs => (layKeeps ⟨W, gW W⟩ (glob_of hL) a.1 ⟨[], []⟩ (by omega)).mono fun d S' h => h.1) base args ds gs before hval hW hk
theorem layKeeps_met (os : Os) : laidMet Tryz.prog Rows.layKeepsUptoRow.laid ((laidWorld os).forCall (fun _ _ => 0) ⟨#[], #[.slice none 0 0], []⟩).memory :=
 laidMet_of_run' 8 (by kernel_rfl) (by kernel_rfl)
theorem layKeeps_reads (os : Os) {H : Type} (enc : TypeId × Value → H) : ∃ places, DataW.whole enc Tryz.prog ((laidWorld os).forCall (fun _ _ => 0) ⟨#[], #[.slice none 0 0], []⟩).memory Tryz.f4.params.toList Rows.layKeepsSpec.vars false (#[.slice none 0 0] : Array Value).toList 8 = some ([.nil], [], places) :=
 ⟨[], by kernel_rfl⟩
theorem layKeeps_lifted (os : Os) (started : os.Started) (H : Type) (enc : TypeId × Value → H) (F : Stop.Interp) :
  ReturnsInHanded {} Tryz.checked os 4 .any ((Rows.OpenSpec.upto Rows.layKeepsSpec).preRow enc Tryz.prog Tryz.f4 Rows.layKeepsUptoRow.domain false Rows.layKeepsUptoRow.laid) (((Rows.OpenSpec.upto Rows.layKeepsSpec).at F).post enc Tryz.prog Tryz.f4 false true false false) := by
 obtain ⟨places, hx⟩ := layKeeps_reads os enc
 refine returnsInHanded_of_row (C := Tryz.checked) (s := Rows.OpenSpec.upto Rows.layKeepsSpec) layKeeps_own started (by kernel_rfl) Tryz.func4
  (witness_row_at (enc := enc) (C := Tryz.checked) false (laidWorld os) #[.slice none 0 0] rfl (by kernel_rfl) (by kernel_rfl) (by kernel_rfl)
   (OpenSpec.preRow_of_cond 8 hx (by kernel_rfl) (fun k hk => by cases hk; kernel_rfl) (by kernel_rfl) (layKeeps_met os))) ?_
 intro W base args ds gs before hval hW _ hc _ hL _ _
 exact layKeeps_contract H enc W base args ds gs before hval hW (of_decide_eq_true (hc _ rfl)) hL
theorem layKeeps_said : Rows.LayKeepsUptoSaid :=
 OpenClaim.holds_of_cond 4 Tryz.f4 rfl rfl rfl rfl rfl rfl rfl ⟨rfl, rfl, rfl, rfl, rfl⟩ rfl rfl rfl rfl rfl (by kernel_rfl) Tryz.func4 (by kernel_rfl)
  (of_decide_eq_true (by kernel_rfl)) (by unfold Func.isWrapper; first | (rw [if_pos (by decide +kernel)]; kernel_rfl) | (rw [if_neg (by decide +kernel)]; exact ⟨rfl, rfl⟩))
  (fun os started H enc _ F => by rw [OpenClaim.pre_eq_preRow]; exact layKeeps_lifted os started H enc F)
theorem layKeeps_plain (f : FuncId) (fn : Func) (hf : Tryz.pinned.checked.prog.funcNamed Rows.layKeepsUptoRow.func = some f) (hfn : Tryz.pinned.checked.prog.funcs[f]? = some fn) :
  false = Tryz.pinned.checked.prog.looks [] ∧ ∀ (j : Nat) t, fn.params[j]? = some t → Tryz.pinned.checked.prog.wantsStandIn t = false := by
 obtain rfl : f = 4 := Option.some.inj ((show Tryz.prog.funcNamed Rows.layKeepsUptoRow.func = some 4 by kernel_rfl).symm.trans hf) |>.symm
 obtain rfl : fn = Tryz.f4 := (Option.some.inj (Tryz.func4.symm.trans hfn)).symm
 refine ⟨by kernel_rfl, fun j t ht => ?_⟩
 rw [Tryz.params4] at ht
 have hm : t ∈ ([22] : List TypeId) := by simpa using Array.mem_of_getElem? ht
 exact (show ∀ t, t ∈ ([22] : List TypeId) → Tryz.prog.wantsStandIn t = false by decide +kernel) t hm
theorem layKeeps_holds : Rows.LayKeepsUptoCardSaid :=
 Claim7.holds_tied_plain_at .later [] _ _ _ _ layKeeps_said (fun _ h => by cases h) (by kernel_rfl) (fun _ h => by cases h) layKeepsUpto_row_tie rfl ⟨rfl, rfl⟩ (by kernel_rfl) rfl layKeeps_plain (by kernel_rfl)
end Go.Proofs.YtpcmnebpnpgcmaaGreatDoor
namespace Go.Proofs.YtpcmnebpnpgcmaaGreatDoor
open Aml Go
theorem layPages (w0 : W0) (hgl : GlobC w0) (l : List S19) (S : St) (hl : l.length ≤ 1048576) : ACall Tryz.prog w0 5 [.sl 3 false (l.map dS19)] S (fun d S' => d = dB true ∧ S' = S) := by
 refine fnS [] mx Tryz.func5 rfl rfl (by kernel_rfl) ?_; (refine @goW _ ?_; refine goS1 @Tryz.ntmps5 ?_)
 refine use1 (awake19 w0 hgl _) ?_
 (refine @goW _ ?_; refine goS ?_)
 refine useK (builtU w0 l _ hl) ?_
 rintro _ S ⟨n, b, M, R, W, rfl, hb, hc, hd, rfl⟩
 (refine @goW _ ?_; refine goS ?_)
 intro bn
 refine use1 (hc.unused _) ?_
 (refine @goW _ ?_; refine goS ?_)
 refine use1 (hc.fresh _) ?_
 (refine @goW _ ?_; refine goS ?_)
 intro hbt hge
 have hL := hd (by omega)
 have hm := unu_may0 hb (by omega)
 have hul := unuN_len n
 have hc2 := cl_of w0 hL.bt (by omega)
 have hLay := fun S => LayG w0 hgl n (unuN n) S hc.tree (by omega)
 rw [layO_t hm hL] at hLay
 have hpe := hL.al
 have hnd := hL.bt.nd
 have hal1 := hc.al
 have hal2 := hc2.al
 have hlen : (srt (alN M)).length = (srt (alN n)).length + frT n := by rw [srt_length, srt_length, hpe.length_eq, List.length_append, List.length_take]; omega
 have hflt : fltI (srt (alN M)) (srt (alN n)) = [] := flt_noneL fun p hp => (srt_perm _).mem_iff.2 (hpe.mem_iff.2 (List.mem_append_left _ ((srt_perm _).mem_iff.1 hp)))
 have hflt2 : fltI (srt (alN M)) ((unuN n).take (frT n)) = [] := flt_noneL fun p hp => (srt_perm _).mem_iff.2 (hpe.mem_iff.2 (List.mem_append_right _ hp))
 have hwo := fun S => withoutR w0 (srt (alN n)) (srt (alN M)) S (by rw [srt_length]; omega) (by rw [srt_length]; omega)
 rw [hflt] at hwo
 have hwo2 := fun S => withoutR w0 ((unuN n).take (frT n)) (srt (alN M)) S (by rw [List.length_take]; omega) (by rw [srt_length]; omega)
 rw [hflt2] at hwo2
 have hup : (srt (alN M)).Pairwise (· < ·) := List.Pairwise.imp (R := fun x y => x ≤ y ∧ x ≠ y) (fun h => by omega) ((srt_up _).and ((srt_perm _).nodup_iff.2 hnd))
 have hsl : (srt (alN n)).length = (alN n).length := srt_length _
 refine use1 (hc.node _) ?_
 (refine @goW _ ?_; refine goS ?_)
 refine use1 (hLay _) ?_
 (refine @goW _ ?_; refine goS ?_)
 intro b2
 refine use1 (hc.pages _) ?_
 (refine @goW _ ?_; refine goS ?_)
 refine use1 (hc2.plain _) ?_
 (refine @goW _ ?_; refine goS ?_)
 refine use1 (hc2.pages _) ?_
 (refine @goW _ ?_; refine goS ?_)
 rw [show IntKind.i64.wrap (((srt (alN n)).length : Int) + (frT n : Int)) = (((srt (alN n)).length + frT n : Nat) : Int) from by rw [w64 (by omega) (by omega)]; omega]
 refine ⟨fun e => e (by rw [hlen]), fun _ => use1 (hwo _) ?_⟩
 (refine @goW _ ?_; refine goS ?_)
 refine ⟨fun e => absurd e (by omega), fun _ => ⟨by omega, use1 (hwo2 _) ?_⟩⟩
 (refine @goW _ ?_; refine goS ?_)
 refine ⟨fun e => absurd e (by omega), fun _ => ?_⟩
 refine loopN [] ((srt (alN M)).length - 1) [13, 14] (fun k => [(14, dI (k + 1 : Nat))]) (fun _ => ⟨(b2.n, [dI M.page, dB M.leaf, .sl 1 false (M.l.map fun c => dS c.key), .sl 2 false ((if M.leaf then M.l else []).map dV2), .sl 5 false ((kidsOf M).map dT)]) :: (bn.n, [dI n.page, dB n.leaf, .sl 4 false (n.l.map dC)]) :: S.box, S.acc⟩) (fun _ => True) mx (by kernel_rfl) ?_ ?_
 ·(refine @goW _ ?_; exact goT)
 ·intro k hk _
  (refine @goW _ ?_; refine goS ?_)
  have ew : IntKind.i64.wrap (((k + 1 : Nat) : Int) - 1) = (k : Int) := by rw [w64 (by omega) (by omega)]; omega
  have ew2 : IntKind.i64.wrap (((k + 1 : Nat) : Int) + 1) = ((k + 1 + 1 : Nat) : Int) := by rw [w64 (by omega) (by omega)]; omega
  rw [ew, ew2, Int.toNat_natCast]
  intro hlt
  refine ⟨hlt, fun a h1 => ⟨by omega, by omega, fun a2 h2 => ?_⟩⟩
  obtain ⟨u1, e1⟩ := List.getElem?_eq_some_iff.1 h1
  obtain ⟨u2, e2⟩ := List.getElem?_eq_some_iff.1 h2
  have := List.pairwise_iff_getElem.1 hup k (k + 1) u2 u1 (by omega)
  rw [e1, e2] at this
  exact ⟨fun e => absurd e (by omega), fun _ => ⟨by omega, rfl⟩⟩
end Go.Proofs.YtpcmnebpnpgcmaaGreatDoor
namespace Go.Proofs.YtpcmnebpnpgcmaaGreatDoor
open Aml Go Go.RowKit Go.ChangeShapes Go.WideShapes Go.ChangeAt
theorem layPages_own : ownKnob Tryz.prog.godebug = none := by kernel_rfl
theorem layPages_contract (H : Type) (enc : TypeId × Value → H) (W : World) (base : Nat) (args : Array Value) (ds gs : List (DataW H)) (before : List MemPlace)
  (hval : ∀ (j : Nat) t v, Tryz.f5.params[j]? = some t → args[j]? = some v → Value.okWide Tryz.prog W .any base t v)
  (hW : DataW.Whole enc Tryz.prog Tryz.f5.params.toList Rows.layPagesSpec.vars false W args.toList ds gs before) (hk : Rows.uptoBulkAll (ds ++ gs) ≤ 1048576) (hL : laidMetH Tryz.prog Rows.layPagesUptoRow.laid W) :
  Calls Tryz.prog 5 args W fun e W' => ∃ v, e = .returned v ∧ Rows.layPagesSpec.post enc Tryz.prog Tryz.f5 false true false false W args v W' :=
 law_contractG (w0 := ⟨W, gW W⟩) rfl (.refl _) enc (ts := [22]) (tb := 4) (rdA_one rdS19s (by kernel_rfl) rdA_nil) Tryz.params5 rfl Tryz.underlying4 rfl (by kernel_rfl) (by intro t ht; revert t; decide +kernel) (fun ds hd => by
  first
  | (match ds, hd with | [_], _ => rfl)
  | (match ds, hd with | [_, _], _ => rfl)
  | (match ds, hd with | [_, _, _], _ => rfl)
  | (match ds, hd with | [_, _, _, _], _ => rfl)) (fun a ha hs => (layPages ⟨W, gW W⟩ (glob_of hL) a.1 ⟨[], []⟩ (by omega)).mono fun d S' h => h.1) base args ds gs before hval hW hk
theorem layPages_met (os : Os) : laidMet Tryz.prog Rows.layPagesUptoRow.laid ((laidWorld os).forCall (fun _ _ => 0) ⟨#[], #[.slice none 0 0], []⟩).memory :=
 laidMet_of_run' 8 (by kernel_rfl) (by kernel_rfl)
theorem layPages_reads (os : Os) {H : Type} (enc : TypeId × Value → H) : ∃ places, DataW.whole enc Tryz.prog ((laidWorld os).forCall (fun _ _ => 0) ⟨#[], #[.slice none 0 0], []⟩).memory Tryz.f5.params.toList Rows.layPagesSpec.vars false (#[.slice none 0 0] : Array Value).toList 8 = some ([.nil], [], places) :=
 ⟨[], by kernel_rfl⟩
theorem layPages_lifted (os : Os) (started : os.Started) (H : Type) (enc : TypeId × Value → H) (F : Stop.Interp) :
  ReturnsInHanded {} Tryz.checked os 5 .any ((Rows.OpenSpec.upto Rows.layPagesSpec).preRow enc Tryz.prog Tryz.f5 Rows.layPagesUptoRow.domain false Rows.layPagesUptoRow.laid) (((Rows.OpenSpec.upto Rows.layPagesSpec).at F).post enc Tryz.prog Tryz.f5 false true false false) := by
 obtain ⟨places, hx⟩ := layPages_reads os enc
 refine returnsInHanded_of_row (C := Tryz.checked) (s := Rows.OpenSpec.upto Rows.layPagesSpec) layPages_own started (by kernel_rfl) Tryz.func5
  (witness_row_at (enc := enc) (C := Tryz.checked) false (laidWorld os) #[.slice none 0 0] rfl (by kernel_rfl) (by kernel_rfl) (by kernel_rfl)
   (OpenSpec.preRow_of_cond 8 hx (by kernel_rfl) (fun k hk => by cases hk; kernel_rfl) (by kernel_rfl) (layPages_met os))) ?_
 intro W base args ds gs before hval hW _ hc _ hL _ _
 exact layPages_contract H enc W base args ds gs before hval hW (of_decide_eq_true (hc _ rfl)) hL
theorem layPages_said : Rows.LayPagesUptoSaid :=
 OpenClaim.holds_of_cond 5 Tryz.f5 rfl rfl rfl rfl rfl rfl rfl ⟨rfl, rfl, rfl, rfl, rfl⟩ rfl rfl rfl rfl rfl (by kernel_rfl) Tryz.func5 (by kernel_rfl)
  (of_decide_eq_true (by kernel_rfl)) (by unfold Func.isWrapper; first | (rw [if_pos (by decide +kernel)]; kernel_rfl) | (rw [if_neg (by decide +kernel)]; exact ⟨rfl, rfl⟩))
  (fun os started H enc _ F => by rw [OpenClaim.pre_eq_preRow]; exact layPages_lifted os started H enc F)
theorem layPages_plain (f : FuncId) (fn : Func) (hf : Tryz.pinned.checked.prog.funcNamed Rows.layPagesUptoRow.func = some f) (hfn : Tryz.pinned.checked.prog.funcs[f]? = some fn) :
  false = Tryz.pinned.checked.prog.looks [] ∧ ∀ (j : Nat) t, fn.params[j]? = some t → Tryz.pinned.checked.prog.wantsStandIn t = false := by
 obtain rfl : f = 5 := Option.some.inj ((show Tryz.prog.funcNamed Rows.layPagesUptoRow.func = some 5 by kernel_rfl).symm.trans hf) |>.symm
 obtain rfl : fn = Tryz.f5 := (Option.some.inj (Tryz.func5.symm.trans hfn)).symm
 refine ⟨by kernel_rfl, fun j t ht => ?_⟩
 rw [Tryz.params5] at ht
 have hm : t ∈ ([22] : List TypeId) := by simpa using Array.mem_of_getElem? ht
 exact (show ∀ t, t ∈ ([22] : List TypeId) → Tryz.prog.wantsStandIn t = false by decide +kernel) t hm
theorem layPages_holds : Rows.LayPagesUptoCardSaid :=
 Claim7.holds_tied_plain_at .later [] _ _ _ _ layPages_said (fun _ h => by cases h) (by kernel_rfl) (fun _ h => by cases h) layPagesUpto_row_tie rfl ⟨rfl, rfl⟩ (by kernel_rfl) rfl layPages_plain (by kernel_rfl)
end Go.Proofs.YtpcmnebpnpgcmaaGreatDoor
namespace Go.Proofs.YtpcmnebpnpgcmaaGreatDoor
open Aml Go
theorem layFew (w0 : W0) (hgl : GlobC w0) (l : List S19) (S : St) (hl : l.length ≤ 1048576) : ACall Tryz.prog w0 6 [.sl 3 false (l.map dS19)] S (fun d S' => d = dB true ∧ S' = S) := by
 refine fnS [9, 10] mx Tryz.func6 rfl rfl (by kernel_rfl) ?_; (refine @goW _ ?_; refine goS1 @Tryz.ntmps6 ?_)
 refine use1 (awake19 w0 hgl _) ?_
 (refine @goW _ ?_; refine goS ?_)
 refine useK (builtU w0 l _ hl) ?_
 rintro _ S ⟨n, b, M, R, W, rfl, hb, hc, hd, rfl⟩
 (refine @goW _ ?_; refine goS ?_)
 intro bn
 refine use1 (hc.unused _) ?_
 (refine @goW _ ?_; refine goS ?_)
 refine use1 (hc.fresh _) ?_
 (refine @goW _ ?_; refine goS ?_)
 intro hbt hge h0
 have hul := unuN_len n
 have hm := unu_may hb (Nat.le_refl _) (by omega : frT n ≤ (unuN n).length)
 have hno : ¬ MayC n ((unuN n).take (frT n - 1)) := fun h => by
  have := h.2.2
  rw [List.length_take] at this
  omega
 have hLn := fun S => LayG w0 hgl n ((unuN n).take (frT n - 1)) S hc.tree (by rw [List.length_take]; omega)
 rw [layO_f hno] at hLn
 obtain ⟨V, P, X, hY⟩ := ld_of hb hm
 have hLy := fun S => LayG w0 hgl n ((unuN n).take (frT n)) S hc.tree (by rw [List.length_take]; omega)
 rw [layO_t hm hY] at hLy
 have hXl : X.length = frT n := hY.wlen (by rw [List.length_take]; omega)
 have hPl : P.length = 0 := by rw [hY.rlen, List.length_take]; omega
 obtain ⟨x0, hx0⟩ : ∃ x, (unuN n)[0]? = some x := ⟨_, List.getElem?_eq_getElem (by omega)⟩
 have hno2 : ¬ MayC n ((unuN n).take (frT n) ++ [x0]) := fun h => by
  have h1 := (List.nodup_append.1 h.1).1
  have h2 := (List.nodup_append.1 h1).2.2 x0 (List.mem_of_getElem? (i := 0) (by rw [List.getElem?_take, if_pos (by omega)]; exact hx0)) x0 List.mem_cons_self
  exact h2 rfl
 have hLt := fun S => LayG w0 hgl n ((unuN n).take (frT n) ++ [x0]) S hc.tree (by rw [List.length_append, List.length_take]; simp; omega)
 rw [layO_f hno2] at hLt
 refine Y.ordK [] [] [2, 3, 4, 5, 0, 1, 6, 7, 8, 9, 10, 11, 12, 13, 14, 15, 16] mx (by kernel_rfl) ?_
 (refine @goW _ ?_; refine goS ?_)
 have ew : IntKind.i64.wrap ((frT n : Int) - 1) = ((frT n - 1 : Nat) : Int) := by rw [w64 (by omega) (by omega)]; omega
 rw [ew, Int.toNat_natCast]
 refine ⟨by omega, by omega, Y.useO (fun T _ => hc.node T) ?_⟩
 (refine @goW _ ?_; refine goS ?_)
 refine Y.useO (fun T _ => hLn T) ?_
 (refine @goW _ ?_; refine goS ?_)
 intro b2
 refine Y.ordK [] [] [2, 3, 4, 0, 1, 5, 6, 7, 8, 9, 10, 11, 12, 13, 14, 15] mx (by kernel_rfl) ?_
 (refine @goW _ ?_; refine goS ?_)
 refine ⟨by omega, Y.useO (fun T _ => hc.node T) ?_⟩
 (refine @goW _ ?_; refine goS ?_)
 refine Y.useO (fun T _ => hLy T) ?_
 (refine @goW _ ?_; refine goS ?_)
 have hm8 : maxLen = 9223372036854775807 := rfl
 refine fun b3 => ⟨by omega, by omega, by omega, fun la => ⟨by omega, fun a ha => ?_⟩⟩
 cases getE hx0 ha
 refine ⟨by omega, by omega, use1 (hc.node _) ?_⟩
 have hmp : ((unuN n).take (frT n) ++ [x0]).map dI = ((unuN n).take (frT n)).map dI ++ [dI x0] := by simp
 unfold dL at hLt
 rw [hmp] at hLt
 (refine @goW _ ?_; refine goS ?_)
 refine .inr (use1 (hLt _) ?_)
 (refine @goW _ ?_; refine goS ?_)
 exact fun b => ⟨fun _ e => e (by rw [hPl]; rfl), fun e => e hXl⟩
end Go.Proofs.YtpcmnebpnpgcmaaGreatDoor
namespace Go.Proofs.YtpcmnebpnpgcmaaGreatDoor
open Aml Go Go.RowKit Go.ChangeShapes Go.WideShapes Go.ChangeAt
theorem layFew_own : ownKnob Tryz.prog.godebug = none := by kernel_rfl
theorem layFew_contract (H : Type) (enc : TypeId × Value → H) (W : World) (base : Nat) (args : Array Value) (ds gs : List (DataW H)) (before : List MemPlace)
  (hval : ∀ (j : Nat) t v, Tryz.f6.params[j]? = some t → args[j]? = some v → Value.okWide Tryz.prog W .any base t v)
  (hW : DataW.Whole enc Tryz.prog Tryz.f6.params.toList Rows.layFewSpec.vars false W args.toList ds gs before) (hk : Rows.uptoBulkAll (ds ++ gs) ≤ 1048576) (hL : laidMetH Tryz.prog Rows.layFewUptoRow.laid W) :
  Calls Tryz.prog 6 args W fun e W' => ∃ v, e = .returned v ∧ Rows.layFewSpec.post enc Tryz.prog Tryz.f6 false true false false W args v W' :=
 law_contractG (w0 := ⟨W, gW W⟩) rfl (.refl _) enc (ts := [22]) (tb := 4) (rdA_one rdS19s (by kernel_rfl) rdA_nil) Tryz.params6 rfl Tryz.underlying4 rfl (by kernel_rfl) (by intro t ht; revert t; decide +kernel) (fun ds hd => by
  first
  | (match ds, hd with | [_], _ => rfl)
  | (match ds, hd with | [_, _], _ => rfl)
  | (match ds, hd with | [_, _, _], _ => rfl)
  | (match ds, hd with | [_, _, _, _], _ => rfl)) (fun a ha hs => (layFew ⟨W, gW W⟩ (glob_of hL) a.1 ⟨[], []⟩ (by omega)).mono fun d S' h => h.1) base args ds gs before hval hW hk
theorem layFew_met (os : Os) : laidMet Tryz.prog Rows.layFewUptoRow.laid ((laidWorld os).forCall (fun _ _ => 0) ⟨#[], #[.slice none 0 0], []⟩).memory :=
 laidMet_of_run' 8 (by kernel_rfl) (by kernel_rfl)
theorem layFew_reads (os : Os) {H : Type} (enc : TypeId × Value → H) : ∃ places, DataW.whole enc Tryz.prog ((laidWorld os).forCall (fun _ _ => 0) ⟨#[], #[.slice none 0 0], []⟩).memory Tryz.f6.params.toList Rows.layFewSpec.vars false (#[.slice none 0 0] : Array Value).toList 8 = some ([.nil], [], places) :=
 ⟨[], by kernel_rfl⟩
theorem layFew_lifted (os : Os) (started : os.Started) (H : Type) (enc : TypeId × Value → H) (F : Stop.Interp) :
  ReturnsInHanded {} Tryz.checked os 6 .any ((Rows.OpenSpec.upto Rows.layFewSpec).preRow enc Tryz.prog Tryz.f6 Rows.layFewUptoRow.domain false Rows.layFewUptoRow.laid) (((Rows.OpenSpec.upto Rows.layFewSpec).at F).post enc Tryz.prog Tryz.f6 false true false false) := by
 obtain ⟨places, hx⟩ := layFew_reads os enc
 refine returnsInHanded_of_row (C := Tryz.checked) (s := Rows.OpenSpec.upto Rows.layFewSpec) layFew_own started (by kernel_rfl) Tryz.func6
  (witness_row_at (enc := enc) (C := Tryz.checked) false (laidWorld os) #[.slice none 0 0] rfl (by kernel_rfl) (by kernel_rfl) (by kernel_rfl)
   (OpenSpec.preRow_of_cond 8 hx (by kernel_rfl) (fun k hk => by cases hk; kernel_rfl) (by kernel_rfl) (layFew_met os))) ?_
 intro W base args ds gs before hval hW _ hc _ hL _ _
 exact layFew_contract H enc W base args ds gs before hval hW (of_decide_eq_true (hc _ rfl)) hL
theorem layFew_said : Rows.LayFewUptoSaid :=
 OpenClaim.holds_of_cond 6 Tryz.f6 rfl rfl rfl rfl rfl rfl rfl ⟨rfl, rfl, rfl, rfl, rfl⟩ rfl rfl rfl rfl rfl (by kernel_rfl) Tryz.func6 (by kernel_rfl)
  (of_decide_eq_true (by kernel_rfl)) (by unfold Func.isWrapper; first | (rw [if_pos (by decide +kernel)]; kernel_rfl) | (rw [if_neg (by decide +kernel)]; exact ⟨rfl, rfl⟩))
  (fun os started H enc _ F => by rw [OpenClaim.pre_eq_preRow]; exact layFew_lifted os started H enc F)
theorem layFew_plain (f : FuncId) (fn : Func) (hf : Tryz.pinned.checked.prog.funcNamed Rows.layFewUptoRow.func = some f) (hfn : Tryz.pinned.checked.prog.funcs[f]? = some fn) :
  false = Tryz.pinned.checked.prog.looks [] ∧ ∀ (j : Nat) t, fn.params[j]? = some t → Tryz.pinned.checked.prog.wantsStandIn t = false := by
 obtain rfl : f = 6 := Option.some.inj ((show Tryz.prog.funcNamed Rows.layFewUptoRow.func = some 6 by kernel_rfl).symm.trans hf) |>.symm
 obtain rfl : fn = Tryz.f6 := (Option.some.inj (Tryz.func6.symm.trans hfn)).symm
 refine ⟨by kernel_rfl, fun j t ht => ?_⟩
 rw [Tryz.params6] at ht
 have hm : t ∈ ([22] : List TypeId) := by simpa using Array.mem_of_getElem? ht
 exact (show ∀ t, t ∈ ([22] : List TypeId) → Tryz.prog.wantsStandIn t = false by decide +kernel) t hm
theorem layFew_holds : Rows.LayFewUptoCardSaid :=
 Claim7.holds_tied_plain_at .later [] _ _ _ _ layFew_said (fun _ h => by cases h) (by kernel_rfl) (fun _ h => by cases h) layFewUpto_row_tie rfl ⟨rfl, rfl⟩ (by kernel_rfl) rfl layFew_plain (by kernel_rfl)
end Go.Proofs.YtpcmnebpnpgcmaaGreatDoor
namespace Go.Proofs.YtpcmnebpnpgcmaaGreatDoor
theorem layThree : Rows.LayKeepsUptoCardSaid ∧ Rows.LayPagesUptoCardSaid ∧ Rows.LayFewUptoCardSaid := ⟨layKeeps_holds, layPages_holds, layFew_holds⟩
end Go.Proofs.YtpcmnebpnpgcmaaGreatDoor
