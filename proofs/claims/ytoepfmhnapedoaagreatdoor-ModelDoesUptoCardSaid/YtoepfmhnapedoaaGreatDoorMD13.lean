/-
  ModelDoes. By an AI agent.
-/
import Derived.Test.YtoepfmhnapedoaaGreatDoorMD11
import Derived.Test.YtoepfmhnapedoaaGreatDoorMD12
import Derived.Test.YtoepfmhnapedoaaGreatDoorTie
import Derived.Test.YtoepfmhnapedoaaGreatDoorCards
import Derived.Deep.DeepHandedRow
import Derived.Lib.LaidTab
import Derived.Lib.LaidU8T
import Derived.Stop.LaidErr
import Derived.Shelf.Vars
import Derived.Lib.SmallJoins
set_option linter.unusedVariables false
set_option linter.unusedSimpArgs false
set_option maxRecDepth 100000
set_option maxHeartbeats 16000000
namespace Go.Proofs.YtoepfmhnapedoaaGreatDoor
open Aml Go Go.RowKit Go.ChangeShapes Lat Grs Rn
def kJ:List (String×DataW Unit):=[("math/bits.deBruijn64tab",Rows.laid_math_bits_deBruijn64tab),("unicode/utf8.acceptRanges",Rows.laid_unicode_utf8_acceptRanges),("jalousie/crc.half",Rows.laid_jalousie_crc_half),("jalousie/op.names",Rows.laid_jalousie_op_names),("unicode/utf8.first",Rows.laid_unicode_utf8_first)]
theorem Hn:Rows.laid_unicode_utf8_first=Lib.firstData:=by kernel_rfl
theorem FP:(Rows.laid_unicode_utf8_acceptRanges:DataW Unit)=Lib.acceptData:=by kernel_rfl
theorem WO:(Rows.laid_math_bits_deBruijn64tab:DataW Unit)=Lib.tabData .u8 UF:=by kernel_rfl
theorem gDb:Tryz.prog.globalNamed "math/bits.deBruijn64tab" =some 4:=by kernel_rfl
abbrev UW(W:World):W0:=⟨{W with drawn:=0},gW W,fun _ _=>False⟩
theorem KV{W:World}(h:laidMetH Tryz.prog kJ W):jv (UW W):=by
 have hL:laidMet Tryz.prog kJ W:=h
 have hT:Lib.TabIs Tryz.prog W "math/bits.deBruijn64tab" .u8 UF:=
  Lib.tabIs_of_head (rest:=kJ.drop 1) (g:=4) (t:=245) (by kernel_rfl) (by kernel_rfl) Tryz.underlying245 Tryz.underlying5 (by kernel_rfl) (by kernel_rfl) (WO▸hL)
 refine⟨fun j=>?_,fun u hu=>?_⟩
 ·show W.cell? ⟨4,j,none⟩=US[j]?;rw[World.var?_cell gDb hT j,List.getElem?_toArray];rfl
 ·obtain⟨z,_,rfl⟩:=aaT.1 hu;rfl
theorem V2{W:World}(h:laidMetH Tryz.prog kJ W):KU (UW W):=by
 have hL:laidMet Tryz.prog kJ W:=h
 have hU:Lib.Utf8Tabs 1 2 W:=
  utf8Tabs_of_readsT (U8Types.of196 Tryz.DX) ⟨by kernel_rfl,by kernel_rfl,by kernel_rfl,by kernel_rfl,by kernel_rfl,by kernel_rfl,by kernel_rfl⟩
   (Hn▸Lib.laidMet.reads hL (by simp[kJ])) (FP▸Lib.laidMet.reads hL (by simp[kJ]))
 have hU:Lib.Utf8Tabs 1 2 {W with drawn:=0}:=hU;refine⟨rfl,fun w hw=>?_⟩;exact Utf8Tabs_below hU hw
theorem uU{H:Type}{enc:TypeId×Value→H}{P:Program}{w:World}{base:Nat}{sp:Nat→Bool}{held:Bool}{fuel:Nat}{t e:TypeId}{n:Nat}{cs:List Value}{zs:List (List UInt8)}{p:List MemPlace}
 (ht:P.underlying t=some (.array n e)) (he:P.underlying e=some .string) (hce:P.cellsOf e=1) (hct:P.cellsOf t=n)
 (h:DataW.trod enc P w base sp held fuel t cs=some (.agg (zs.map fun z=> .lit (.string z)),p)):cs=zs.map fun z=>Value.string (tx z):=by
 cases fuel with
 |zero=>simp[DataW.trod]at h
 |succ fuel=>
  simp only[DataW.trod,ht,hce,hct,adt]at h;split at h
  ·rename_i hl;obtain⟨xs,hm,hx⟩:=aay.1 h
   have hxs:xs.map (·.1)=zs.map fun z=>(DataW.lit (.string z):DataW H):=by
    have:=congrArg Prod.fst hx;simpa using this
   have hxl:xs.length=n:=by simpa using Lib.mapM_length hm
   have hzl:zs.length=n:=by
    have:=congrArg List.length hxs;simp at this;omega
   apply acy;intro i;by_cases hi:i<n
   ·obtain⟨b,hb,hf⟩:=Lib.mapM_at hm i i (by simp[hi]);obtain⟨z,hc,rfl,_⟩:=DataW.trod_string he hf
    have h1:cs[i]? =some (.string z):=by
     have:=congrArg (·[0]?) hc;simpa[acr,acm]using this
    have h2:(xs.map (·.1))[i]? =some (DataW.lit (.string z.data.toList):DataW H):=by simp[hb]
    rw[hxs]at h2;simp only[aaE,aay,DataW.lit.injEq,Lit.string.injEq]at h2;obtain⟨z',hz',e2⟩:=h2;rw[h1,aaE,hz',abH,e2,xw]
   ·rw[aaS (by omega),aaS (by simp;omega)]
  ·cases h
theorem J3:(Rows.laid_jalousie_op_names:DataW Unit)= .agg (J1.map fun z=> .lit (.string z)):=by kernel_rfl
theorem J6:Tryz.prog.globalNamed "jalousie/op.names" =some 0:=by kernel_rfl
theorem OH:(Tryz.prog.globals[0]?).map (·.type)=some 162:=by kernel_rfl
theorem K7{W:World}(h:laidMetH Tryz.prog kJ W):qZ (UW W):=by
 have hL:laidMet Tryz.prog kJ W:=h;obtain⟨g,t,cs,fuel,p,hg,hty,hvar,hd⟩:=Lib.laidMet.reads hL (n:= "jalousie/op.names") (d:=Rows.laid_jalousie_op_names) (by simp[kJ]);obtain rfl:=abR (J6.symm.trans hg);obtain rfl:=abR (OH.symm.trans hty);rw[J3]at hd;have hcs:=uU Tryz.underlying162 Tryz.underlying9 (by kernel_rfl) (by kernel_rfl) hd;refine⟨fun j=>?_,fun u hu=>?_⟩
 ·show W.cell? ⟨0,j,none⟩=uI[j]?;rw[World.var?_cell J6 hvar j,←acv,hcs];rfl
 ·obtain⟨z,_,rfl⟩:=aaT.1 hu;rfl
theorem NW:(Rows.laid_jalousie_crc_half:DataW Unit)=Lib.tabData .u32 qS:=by kernel_rfl
theorem P3:Tryz.prog.globalNamed "jalousie/crc.half" =some 3:=by kernel_rfl
theorem Uc:(Tryz.prog.globals[3]?).map (·.type)=some 241:=by kernel_rfl
theorem HK{W:World}(h:laidMetH Tryz.prog kJ W):nE (UW W):=by
 have hL:laidMet Tryz.prog kJ W:=h;have hT:Lib.TabIs Tryz.prog W "jalousie/crc.half" .u32 qS:=Lib.tabIs_of_head (rest:=kJ.drop 3) P3 Uc Tryz.underlying241 Tryz.underlying148 (by kernel_rfl) (by kernel_rfl) (NW▸hL.tail.tail);refine⟨fun j=>?_,fun u hu=>?_⟩
 ·show W.cell? ⟨3,j,none⟩=nB[j]?;rw[World.var?_cell P3 hT j,List.getElem?_toArray];rfl
 ·obtain⟨z,_,rfl⟩:=aaT.1 hu;rfl
noncomputable def qE(os:Os):World:=
 let w0:=World.holding Tryz.prog os ⟨#[], #[],[]⟩
 let put (h:Array Obj) (g:Nat) (cs:Array Value):Array Obj:=h.modify g fun
  | .cells _ t frozen=> .cells cs t frozen
  |o=>o
 let h1:=put w0.heap 1 (Lib.firstTab.map fun z=>Value.int .u8 z).toArray
 let h2:=put h1 2 ((List.range 16).flatMap fun i=>[Value.int .u8 (Lib.accLo i),Value.int .u8 (Lib.accHi i)]).toArray
 let h3:=put h2 4 US.toArray
 let h4:=put h3 3 nB.toArray
 let h5:=put h4 0 uI.toArray
 {w0 with heap:=h5}
theorem WD{P:Program}{W:World}{t:TypeId}{α β:Type}{en:α→List DV}{sz:α→Nat}{ok:α→Prop}{en':β→List DV}{sz':β→Nat}{ok':β→Prop}(h:Rd P W t en sz ok)(f:α→β)(he:∀a,ok a→en a=en' (f a))(hs:∀a,sz' (f a)≤sz a)(ho:∀a,ok a→ok' (f a)):Rd P W t en' sz' ok':=
 fun H enc n cs x hx=>let⟨a,h1,h2,h3,h4⟩:=h H enc n cs x hx;⟨f a,ho a h1,ack (hs a) h2,by rw[←he a h1];exact h3,h4⟩
theorem Ju(l:List Nat)(x:Nat)(hx:x∈l):x≤l.sum:=by
 induction l with
 |nil=>cases hx
 |cons y l ih=>
  rw[ac6];rcases aaJ.1 hx with rfl|hx
  ·omega
  ·have:=ih hx;omega
theorem rY{α:Type}(l:List α):(l.map fun _=>1).sum=l.length:=by
 induction l with
 |nil=>rfl
 |cons a l ih=>simp only[abB,ac6,aaW,ih];omega
def PX(l:List (List UInt8)):Nat:=(l.map fun s=>s.length+1).sum
theorem Oc(l:List (List UInt8)):l.length≤PX l:=by
 unfold PX
 induction l with
 |nil=>exact aar _
 |cons a l ih=>simp only[abB,ac6,aaW];omega
theorem OP{l:List (List UInt8)}{s:List UInt8}(h:s∈l):s.length≤PX l:=by
 have:=Ju _ _ (abL (f:=fun s:List UInt8=>s.length+1) h);unfold PX;omega
theorem WL{W:World}:Rd Tryz.prog W 22 (fun l:List (List UInt8)=>[.sl 1 false (aA l)]) PX (fun l=>True):=
 (mP (Lc Tryz.underlying9) Tryz.underlying22 (by kernel_rfl)).conv (fun l=>l.map fun s=>s.data.toList) (fun l=>by
  unfold aA;rw[adu];rfl) (fun l=>by
  unfold PX;rw[adu];have e:((fun s:List UInt8=>s.length+1)∘fun s:ByteArray=>s.data.toList)=fun s=>s.size+1:=funext fun s=>by simp[iJ]
  rw[e];omega) fun _ _=>trivial
theorem ZR{W:World}:Rd Tryz.prog W 23 (fun l:List Nat=>[dH l]) (fun l=>l.length) eN:=
 WD (mP (Sq Tryz.underlying75) Tryz.underlying23 (by kernel_rfl)) (fun l=>l.map Int.toNat) (fun l h=>by
  unfold dH;rw[adu];refine congrArg (fun z=>[DV.sl 1 false z]) (adp fun x hx=>?_);show dU x=dU ((x.toNat:Nat):Int);rw[Int.toNat_of_nonneg (h x hx).1]) (fun l=>by rw[rY,abI];omega) fun l h x hx=>by
  obtain⟨y,hy,rfl⟩:=aaT.1 hx;have:=h y hy;omega
theorem Y9{W:World}:Rd Tryz.prog W 24 (fun l:List Int=>[iH l]) (fun l=>l.length) (fun _=>True):=
 (mP (AZ Tryz.underlying3) Tryz.underlying24 (by kernel_rfl)).conv id (fun _=>rfl) (fun l=>by simp only[id,rY];omega) fun _ _=>trivial
theorem ZI{W:World}:Rd Tryz.prog W 25 (fun l:List G=>[gL l]) (fun l=>l.length) (fun _=>True):=by
 have rI:=fun{W:World}=>AZ (P:=Tryz.prog) (W:=W) Tryz.underlying3
 have h:Rd Tryz.prog W 79 (fun g:G=>[dI g.a,dI g.f,dI g.t]) (fun _=>1) (fun _=>True):=
  (qK (W:=W) Tryz.underlying79 (total:=3) (by kernel_rfl) rfl (bO (k:=1) rI rfl (by kernel_rfl) (bO (k:=1) rI rfl (by kernel_rfl) (bO (k:=1) rI rfl (by kernel_rfl) xM)))).conv (fun a=>⟨a.1,a.2.1,a.2.2.1⟩) (fun _=>rfl) (fun a=>by omega) fun _ _=>trivial
 exact(u6 h Tryz.underlying25 (k:=3) (by kernel_rfl) (by omega)).conv id (fun _=>rfl) (fun l=>by simp only[id,rY];omega) fun _ _=>trivial
def XH(c:Cf):Nat:=PX c.nm+c.up.length+c.qu.length+c.gr.length
theorem Y8{W:World}:Rd Tryz.prog W 27 (fun c:Cf=>[.sl 1 false (aA c.nm),dH c.up,iH c.qu,gL c.gr]) XH (fun c=>eN c.up):=
 (qK (W:=W) Tryz.underlying27 (total:=4) (by kernel_rfl) rfl (bO (k:=1) WL rfl (by kernel_rfl) (bO (k:=1) ZR rfl (by kernel_rfl) (bO (k:=1) Y9 rfl (by kernel_rfl) (bO (k:=1) ZI rfl (by kernel_rfl) xM))))).conv (fun a=>⟨a.1,a.2.1,a.2.2.1,a.2.2.2.1⟩) (fun _=>rfl) (fun a=>by unfold XH;dsimp only;omega) fun a h=>h.2.1
theorem Wy{c:Cf}(h:eN c.up)(hs:XH c≤1048576):zu c:=by
 unfold XH at hs;have:=Oc c.nm;exact⟨by omega,fun s hm=>by have:=OP hm;omega,by omega,h,by omega,by omega⟩
def VS(o:aV):Nat:=o.bucket.length+o.key.length+o.value.length+PX o.cC+1
theorem Zn{W:World}:Rd Tryz.prog W 47 aV.ds VS (fun _=>True):=by
 have rI:=fun{W:World}=>AZ (P:=Tryz.prog) (W:=W) Tryz.underlying3;have rS:=fun{W:World}=>Lc (P:=Tryz.prog) (W:=W) Tryz.underlying9
 have h:=qK (W:=W) Tryz.underlying47 (total:=11) (by kernel_rfl) rfl
  (bO (k:=1) rI rfl (by kernel_rfl) (bO (k:=1) rI rfl (by kernel_rfl) (bO (k:=1) rI rfl (by kernel_rfl) (bO (k:=1) rI rfl (by kernel_rfl)
  (bO (k:=1) rS rfl (by kernel_rfl) (bO (k:=1) rS rfl (by kernel_rfl) (bO (k:=1) rS rfl (by kernel_rfl)
  (bO (k:=1) rI rfl (by kernel_rfl) (bO (k:=1) rI rfl (by kernel_rfl) (bO (k:=1) rI rfl (by kernel_rfl) (bO (k:=1) WL rfl (by kernel_rfl) xM)))))))))))
 exact h.conv (fun a=>⟨a.1,a.2.1,a.2.2.1,a.2.2.2.1,a.2.2.2.2.1.data.toList,a.2.2.2.2.2.1.data.toList,a.2.2.2.2.2.2.1.data.toList,a.2.2.2.2.2.2.2.1,a.2.2.2.2.2.2.2.2.1,a.2.2.2.2.2.2.2.2.2.1,a.2.2.2.2.2.2.2.2.2.2.1⟩) (fun a=>rfl) (fun a=>by
  unfold VS;simp only[iJ];omega) fun _ _=>trivial
theorem WW{W:World}:Rd Tryz.prog W 28 (fun l:List aV=>[Pv l]) (fun l=>(l.map VS).sum) (fun _=>True):=
 (u6 Zn Tryz.underlying28 (k:=11) (by kernel_rfl) (by omega)).conv id (fun _=>rfl) (fun l=>by simp only[id];omega) fun _ _=>trivial
theorem N8(l:List aV):l.length≤(l.map VS).sum:=by
 induction l with
 |nil=>exact aar _
 |cons a l ih=>simp only[abB,ac6,aaW];unfold VS at *;omega
end Go.Proofs.YtoepfmhnapedoaaGreatDoor
namespace Go.Proofs.YtoepfmhnapedoaaGreatDoor
open Aml Go Go.RowKit Go.ChangeShapes Go.WideShapes Go.ChangeAt Lat Grs Rn
theorem Y7{W:World}:Rd Tryz.prog W 29 (fun l:List Bool=>[.sl 1 false (l.map dB)]) (fun l=>l.length) (fun _=>True):=
 (mP (OC Tryz.underlying4) Tryz.underlying29 (by kernel_rfl)).conv id (fun _=>rfl) (fun l=>by simp only[id,rY];omega) fun _ _=>trivial
theorem uE:ownKnob Tryz.prog.godebug=none:=by kernel_rfl
theorem oc(H:Type)(enc:TypeId×Value→H)(W:World)(base:Nat)(args:Array Value)(ds gs:List (DataW H))(before:List MemPlace)
 (hval:∀(j:Nat) t v,Tryz.f3.params[j]? =some t→args[j]? =some v→Value.okWide Tryz.prog W .any base t v)
 (hW:DataW.Whole enc Tryz.prog Tryz.f3.params.toList Rows.modelDoesSpec.vars false W args.toList ds gs before) (hk:Rows.uptoBulkAll (ds++gs)≤1048576) (hL:laidMetH Tryz.prog Rows.modelDoesUptoRow.laid W) (hsh:W.ShapedOpen Tryz.prog):
 Calls Tryz.prog 3 args W fun e W'=>∃v,e= .returned v∧Rows.modelDoesSpec.post enc Tryz.prog Tryz.f3 false true false false W args v W':=
 uL (w0:=UW W) rfl (.refl _) enc (ts:=[27,28,29]) (tb:=4) (Nj Y8 Tryz.underlying27 (DF WW (by kernel_rfl) (DF Y7 (by kernel_rfl) MZ))) Tryz.params3 rfl Tryz.underlying4 rfl (by kernel_rfl) (by intro t ht;revert t;decide +kernel) (fun ds hd=>by
  first
  |(match ds,hd with|[_],_=>rfl)
  |(match ds,hd with|[_,_],_=>rfl)
  |(match ds,hd with|[_,_,_],_=>rfl)
  |(match ds,hd with|[_,_,_,_],_=>rfl)) (fun a ha hs=>(V0 (w0:=UW W) (KV hL) (V2 hL) (K7 hL) (HK hL) a.1 (Wy ha.1 (by omega)) a.2.1 a.2.2.1 (by have:=N8 a.2.1;omega) (by omega) ⟨[],[]⟩).mono fun d S' h=>h) base args ds gs before hval hW hk
theorem uK(os:Os):laidMet Tryz.prog Rows.modelDoesUptoRow.laid ((qE os).forCall (fun _ _=>0) ⟨#[], #[.agg #[.slice none 0 0,.slice none 0 0,.slice none 0 0,.slice none 0 0],.slice none 0 0,.slice none 0 0],[]⟩).memory:=
 laidMet_of_run' 8 (by kernel_rfl) (by kernel_rfl)
theorem ru(os:Os){H:Type}(enc:TypeId×Value→H):∃places,DataW.whole enc Tryz.prog ((qE os).forCall (fun _ _=>0) ⟨#[], #[.agg #[.slice none 0 0,.slice none 0 0,.slice none 0 0,.slice none 0 0],.slice none 0 0,.slice none 0 0],[]⟩).memory Tryz.f3.params.toList Rows.modelDoesSpec.vars false (#[.agg #[.slice none 0 0,.slice none 0 0,.slice none 0 0,.slice none 0 0],.slice none 0 0,.slice none 0 0]:Array Value).toList 8=some ([.agg [.nil,.nil,.nil,.nil],.nil,.nil],[],places):=
 ⟨[],by kernel_rfl⟩
theorem pK(os:Os)(started:os.Started)(H:Type)(enc:TypeId×Value→H)(F:Stop.Interp):
 ReturnsInHanded {} Tryz.checked os 3 .any ((Rows.OpenSpec.upto Rows.modelDoesSpec).preRow enc Tryz.prog Tryz.f3 Rows.modelDoesUptoRow.domain false Rows.modelDoesUptoRow.laid) (((Rows.OpenSpec.upto Rows.modelDoesSpec).at F).post enc Tryz.prog Tryz.f3 false true false false):=by
 obtain⟨places,hx⟩:=ru os enc
 refine returnsInHanded_of_row (C:=Tryz.checked) (s:=Rows.OpenSpec.upto Rows.modelDoesSpec) uE started (by kernel_rfl) Tryz.func3
  (witness_row_at (enc:=enc) (C:=Tryz.checked) false (qE os) #[.agg #[.slice none 0 0,.slice none 0 0,.slice none 0 0,.slice none 0 0],.slice none 0 0,.slice none 0 0] rfl (by kernel_rfl) (by kernel_rfl) (by kernel_rfl)
   (OpenSpec.preRow_of_cond 8 hx (by kernel_rfl) (fun k hk=>by cases hk;kernel_rfl) (by kernel_rfl) (uK os))) ?_
 intro W base args ds gs before hval hW _ hc _ hL hsh _;exact oc H enc W base args ds gs before hval hW (of_decide_eq_true (hc _ rfl)) hL hsh
theorem tW:Rows.ModelDoesUptoSaid:=
 OpenClaim.holds_of_cond 3 Tryz.f3 rfl rfl rfl rfl rfl rfl rfl ⟨rfl,rfl,rfl,rfl,rfl⟩ rfl rfl rfl rfl rfl (by kernel_rfl) Tryz.func3 (by kernel_rfl)
  (of_decide_eq_true (by kernel_rfl)) (by unfold Func.isWrapper;first|(rw[if_pos (by decide +kernel)];kernel_rfl)|(rw[if_neg (by decide +kernel)];exact⟨rfl,rfl⟩))
  (fun os started H enc _ F=>by rw[OpenClaim.pre_eq_preRow];exact pK os started H enc F)
theorem rr(f:FuncId)(fn:Func)(hf:Tryz.pinned.checked.prog.funcNamed Rows.modelDoesUptoRow.func=some f)(hfn:Tryz.pinned.checked.prog.funcs[f]? =some fn):
 true=Tryz.pinned.checked.prog.looks []∧∀(j:Nat) t,fn.params[j]? =some t→Tryz.pinned.checked.prog.wantsStandIn t=false:=by
 obtain rfl:f=3:=abR ((show Tryz.prog.funcNamed Rows.modelDoesUptoRow.func=some 3 by kernel_rfl).symm.trans hf) |>.symm;obtain rfl:fn=Tryz.f3:=(abR (Tryz.func3.symm.trans hfn)).symm;refine⟨by kernel_rfl,fun j t ht=>?_⟩;rw[Tryz.params3]at ht;have hm:t∈([27,28,29]:List TypeId):=by simpa using Array.mem_of_getElem? ht
 exact(show∀t,t∈([27,28,29]:List TypeId)→Tryz.prog.wantsStandIn t=false by decide +kernel) t hm
theorem modelDoes_holds:Rows.ModelDoesUptoCardSaid:=
 Claim7.holds_tied_plain_at .later [] _ _ _ _ tW (fun _ h=>by cases h) (by kernel_rfl) (fun _ h=>by cases h) modelDoesUpto_row_tie rfl ⟨rfl,rfl⟩ (by kernel_rfl) rfl rr (by kernel_rfl)
end Go.Proofs.YtoepfmhnapedoaaGreatDoor
