/-
  CommitPlans: the reader and the card. By an AI agent.
-/
import Derived.Test.YtpjenciplibdnaaGreatDoorMQ10
import Derived.Test.YtpjenciplibdnaaGreatDoorTie
import Derived.Test.YtpjenciplibdnaaGreatDoorCards
import Derived.Deep.DeepHandedRow
import Derived.Lib.LaidTab
set_option linter.unusedVariables false
set_option linter.unusedSimpArgs false
set_option maxRecDepth 100000
set_option maxHeartbeats 16000000
namespace Go.Proofs.YtpjenciplibdnaaGreatDoor
open Aml Go Go.RowKit Go.ChangeShapes
theorem SF:Tryz.prog.globalNamed "jalousie/crc.half" =some 1:=by kernel_rfl
theorem Uo:(Tryz.prog.globals[1]?).map (·.type)=some 317:=by kernel_rfl
theorem Q4{W:World}(h:laidMetH Tryz.prog [("jalousie/crc.half",Rows.laid_jalousie_crc_half)] W):gn ⟨W,gW W⟩:=by
 have hT:Lib.TabIs Tryz.prog W "jalousie/crc.half" .u32 vU:=Lib.tabIs_of_head (rest:=[]) SF Uo Tryz.underlying317 Tryz.underlying197 (by kernel_rfl) (by kernel_rfl) h;refine⟨fun j=>?_,fun u hu=>?_⟩
 ·show W.cell? ⟨1,j,none⟩=o9[j]?;rw[World.var?_cell SF hT j,afs];rfl
 ·obtain⟨z,_,rfl⟩:=adS.1 hu;rfl
noncomputable def sD(os:Os):World:=
 {World.holding Tryz.prog os ⟨#[], #[],[]⟩with heap:=(World.holding Tryz.prog os ⟨#[], #[],[]⟩).heap.modify 1 fun
  | .cells _ t frozen=> .cells o9.toArray t frozen
  |o=>o}
theorem Jo{α:Type}(l:List α):(l.map fun _=>1).sum=l.length:=by
 induction l with
 |nil=>rfl
 |cons a l ih=>simp only[aa9,adb,abx,ih];omega
end Go.Proofs.YtpjenciplibdnaaGreatDoor
namespace Go.Proofs.YtpjenciplibdnaaGreatDoor
open Aml Go Go.RowKit Go.ChangeShapes Go.WideShapes Go.ChangeAt
theorem UX{W:World}{t:TypeId}(ht:Tryz.prog.underlying t=some (.int .u16)):Rd Tryz.prog W t (fun n:Int=>[.v (.int .u16 n)]) (fun _=>1) (fun n=>0≤n∧n≤65535):=
 (Kd .u16 ht).conv id (fun _=>rfl) (fun _=>abI _) fun n h=>by
  simp[Lit.wf,IntKind.min,IntKind.max,IntKind.signed,IntKind.bits]at h;exact h
def XK(s:Sp):Prop:= -9223372036854775808≤s.size∧s.size≤9223372036854775807
theorem YH{W:World}:Rd Tryz.prog W 58 (fun s:Sp=>[dI s.kind,dS s.name,dS s.key,dI s.size]) (fun s=>1) XK:=by
 have h:=Ho (W:=W) Tryz.underlying58 (total:=4) (by kernel_rfl) rfl (qx (k:=1) (NR Tryz.underlying3) rfl (by kernel_rfl) (qx (k:=1) (J5 Tryz.underlying9) rfl (by kernel_rfl) (qx (k:=1) (J5 Tryz.underlying9) rfl (by kernel_rfl) (qx (k:=1) (NR Tryz.underlying3) rfl (by kernel_rfl) Pf))));exact h.conv (fun a=>⟨a.1,a.2.1,a.2.2.1,a.2.2.2.1⟩) (fun _=>rfl) (fun a=>by omega) fun a ha=>ha.2.2.2.1
theorem Ut{W:World}:Rd Tryz.prog W 22 (fun l:List Sp=>[.sl 4 false (l.map ZR)]) (fun l=>l.length) (fun l=>∀s,s∈l→XK s):=
 (JD YH Tryz.underlying22 (k:=4) (by kernel_rfl) (by omega)).conv id (fun _=>rfl) (fun l=>by simp only[id,Jo];omega) fun _ h=>h
theorem tw:ownKnob Tryz.prog.godebug=none:=by kernel_rfl
theorem n8(H:Type)(enc:TypeId×Value→H)(W:World)(base:Nat)(args:Array Value)(ds gs:List (DataW H))(before:List MemPlace)
 (hval:∀(j:Nat) t v,Tryz.f3.params[j]? =some t→args[j]? =some v→Value.okWide Tryz.prog W .any base t v)
 (hW:DataW.Whole enc Tryz.prog Tryz.f3.params.toList Rows.commitPlansSpec.vars false W args.toList ds gs before) (hk:Rows.uptoBulkAll (ds++gs)≤1048576) (hL:laidMetH Tryz.prog Rows.commitPlansUptoRow.laid W):
 Calls Tryz.prog 3 args W fun e W'=>∃v,e= .returned v∧Rows.commitPlansSpec.post enc Tryz.prog Tryz.f3 false true false false W args v W':=
 wL (w0:=⟨W,gW W⟩) rfl (.refl _) enc (ts:=[22,23]) (tb:=4) (F0 Ut (by kernel_rfl) (F0 (UX Tryz.underlying23) (by kernel_rfl) QV)) Tryz.params3 rfl Tryz.underlying4 rfl (by kernel_rfl) (by intro t ht;revert t;decide +kernel) (fun ds hd=>by
  first
  |(match ds,hd with|[_],_=>rfl)
  |(match ds,hd with|[_,_],_=>rfl)
  |(match ds,hd with|[_,_,_],_=>rfl)
  |(match ds,hd with|[_,_,_,_],_=>rfl)) (fun a ha hs=>(Oe ⟨W,gW W⟩ (Q4 hL) a.1 a.2.1 ⟨[],[]⟩ (by omega) ha.1 ha.2.1).mono fun d S' h=>h.1) base args ds gs before hval hW hk
theorem tE(os:Os):laidMet Tryz.prog Rows.commitPlansUptoRow.laid ((sD os).forCall (fun _ _=>0) ⟨#[], #[.slice none 0 0,.int .u16 0],[]⟩).memory:=
 laidMet_of_run' 8 (by kernel_rfl) (by kernel_rfl)
theorem qY(os:Os){H:Type}(enc:TypeId×Value→H):∃places,DataW.whole enc Tryz.prog ((sD os).forCall (fun _ _=>0) ⟨#[], #[.slice none 0 0,.int .u16 0],[]⟩).memory Tryz.f3.params.toList Rows.commitPlansSpec.vars false (#[.slice none 0 0,.int .u16 0]:Array Value).toList 8=some ([.nil,.lit (.int .u16 0)],[],places):=
 ⟨[],by kernel_rfl⟩
theorem pR(os:Os)(started:os.Started)(H:Type)(enc:TypeId×Value→H)(F:Stop.Interp):
 ReturnsInHanded {} Tryz.checked os 3 .any ((Rows.OpenSpec.upto Rows.commitPlansSpec).preRow enc Tryz.prog Tryz.f3 Rows.commitPlansUptoRow.domain false Rows.commitPlansUptoRow.laid) (((Rows.OpenSpec.upto Rows.commitPlansSpec).at F).post enc Tryz.prog Tryz.f3 false true false false):=by
 obtain⟨places,hx⟩:=qY os enc
 refine returnsInHanded_of_row (C:=Tryz.checked) (s:=Rows.OpenSpec.upto Rows.commitPlansSpec) tw started (by kernel_rfl) Tryz.func3
  (witness_row_at (enc:=enc) (C:=Tryz.checked) false (sD os) #[.slice none 0 0,.int .u16 0] rfl (by kernel_rfl) (by kernel_rfl) (by kernel_rfl)
   (OpenSpec.preRow_of_cond 8 hx (by kernel_rfl) (fun k hk=>by cases hk;kernel_rfl) (by kernel_rfl) (tE os))) ?_
 intro W base args ds gs before hval hW _ hc _ hL _ _;exact n8 H enc W base args ds gs before hval hW (of_decide_eq_true (hc _ rfl)) hL
theorem rM:Rows.CommitPlansUptoSaid:=
 OpenClaim.holds_of_cond 3 Tryz.f3 rfl rfl rfl rfl rfl rfl rfl ⟨rfl,rfl,rfl,rfl,rfl⟩ rfl rfl rfl rfl rfl (by kernel_rfl) Tryz.func3 (by kernel_rfl)
  (of_decide_eq_true (by kernel_rfl)) (by unfold Func.isWrapper;first|(rw[if_pos (by decide +kernel)];kernel_rfl)|(rw[if_neg (by decide +kernel)];exact⟨rfl,rfl⟩))
  (fun os started H enc _ F=>by rw[OpenClaim.pre_eq_preRow];exact pR os started H enc F)
theorem qz(f:FuncId)(fn:Func)(hf:Tryz.pinned.checked.prog.funcNamed Rows.commitPlansUptoRow.func=some f)(hfn:Tryz.pinned.checked.prog.funcs[f]? =some fn):
 false=Tryz.pinned.checked.prog.looks []∧∀(j:Nat) t,fn.params[j]? =some t→Tryz.pinned.checked.prog.wantsStandIn t=false:=by
 obtain rfl:f=3:=aen ((show Tryz.prog.funcNamed Rows.commitPlansUptoRow.func=some 3 by kernel_rfl).symm.trans hf) |>.symm;obtain rfl:fn=Tryz.f3:=(aen (Tryz.func3.symm.trans hfn)).symm;refine⟨by kernel_rfl,fun j t ht=>?_⟩;rw[Tryz.params3]at ht;have hm:t∈([22,23]:List TypeId):=by simpa using Array.mem_of_getElem? ht
 exact(show∀t,t∈([22,23]:List TypeId)→Tryz.prog.wantsStandIn t=false by decide +kernel) t hm
theorem commitPlans_holds:Rows.CommitPlansUptoCardSaid:=
 Claim7.holds_tied_plain_at .later [] _ _ _ _ rM (fun _ h=>by cases h) (by kernel_rfl) (fun _ h=>by cases h) commitPlansUpto_row_tie rfl ⟨rfl,rfl⟩ (by kernel_rfl) rfl qz (by kernel_rfl)
end Go.Proofs.YtpjenciplibdnaaGreatDoor
