/-
  ModelHides. By an AI agent.
-/
import Derived.Test.YtoepfmhnapedoaaGreatDoorMK12
import Derived.Test.YtoepfmhnapedoaaGreatDoorTie
import Derived.Test.YtoepfmhnapedoaaGreatDoorCards
import Derived.Deep.DeepHandedRow
import Derived.Lib.LaidTab
import Derived.Lib.LaidU8T
import Derived.Stop.LaidErr
import Derived.Shelf.Vars
import Derived.Lib.SmallJoins
set_option linter.unusedVariables false
set_option linter.unusedSimpArgs false
set_option maxRecDepth 100000
set_option maxHeartbeats 16000000
namespace Go.Proofs.YtoepfmhnapedoaaGreatDoor
open Aml Go Go.RowKit Go.ChangeShapes Lat Grs Rn
def ix:List (String×DataW Unit):=[("math/bits.deBruijn64tab",Rows.laid_math_bits_deBruijn64tab),("unicode/utf8.acceptRanges",Rows.laid_unicode_utf8_acceptRanges),("jalousie/crc.half",Rows.laid_jalousie_crc_half),("jalousie/op.names",Rows.laid_jalousie_op_names),("unicode/utf8.first",Rows.laid_unicode_utf8_first)]
theorem Fl:Rows.laid_unicode_utf8_first=Lib.firstData:=by kernel_rfl
theorem BS:(Rows.laid_unicode_utf8_acceptRanges:DataW Unit)=Lib.acceptData:=by kernel_rfl
theorem QZ:(Rows.laid_math_bits_deBruijn64tab:DataW Unit)=Lib.tabData .u8 OW:=by kernel_rfl
theorem Vf:Tryz.prog.globalNamed "math/bits.deBruijn64tab" =some 4:=by kernel_rfl
abbrev OJ(W:World):W0:=⟨{W with drawn:=0},gW W,fun _ _=>False⟩
theorem Gs{W:World}(h:laidMetH Tryz.prog ix W):ib (OJ W):=by
 have hL:laidMet Tryz.prog ix W:=h
 have hT:Lib.TabIs Tryz.prog W "math/bits.deBruijn64tab" .u8 OW:=
  Lib.tabIs_of_head (rest:=ix.drop 1) (g:=4) (t:=245) (by kernel_rfl) (by kernel_rfl) Tryz.underlying245 Tryz.underlying5 (by kernel_rfl) (by kernel_rfl) (QZ▸hL)
 refine⟨fun j=>?_,fun u hu=>?_⟩
 ·show W.cell? ⟨4,j,none⟩=OP[j]?;rw[World.var?_cell Vf hT j,List.getElem?_toArray];rfl
 ·obtain⟨z,_,rfl⟩:=Xk.1 hu;rfl
theorem PA{W:World}(h:laidMetH Tryz.prog ix W):KU (OJ W):=by
 have hL:laidMet Tryz.prog ix W:=h
 have hU:Lib.Utf8Tabs 1 2 W:=
  utf8Tabs_of_readsT (U8Types.of196 Tryz.Ab) ⟨by kernel_rfl,by kernel_rfl,by kernel_rfl,by kernel_rfl,by kernel_rfl,by kernel_rfl,by kernel_rfl⟩
   (Fl▸Lib.laidMet.reads hL (by simp[ix])) (BS▸Lib.laidMet.reads hL (by simp[ix]))
 have hU:Lib.Utf8Tabs 1 2 {W with drawn:=0}:=hU;refine⟨rfl,fun w hw=>?_⟩;exact Utf8Tabs_below hU hw
theorem rk{H:Type}{enc:TypeId×Value→H}{P:Program}{w:World}{base:Nat}{sp:Nat→Bool}{held:Bool}{fuel:Nat}{t e:TypeId}{n:Nat}{cs:List Value}{zs:List (List UInt8)}{p:List MemPlace}
 (ht:P.underlying t=some (.array n e)) (he:P.underlying e=some .string) (hce:P.cellsOf e=1) (hct:P.cellsOf t=n)
 (h:DataW.trod enc P w base sp held fuel t cs=some (.agg (zs.map fun z=> .lit (.string z)),p)):cs=zs.map fun z=>Value.string (tx z):=by
 cases fuel with
 |zero=>simp[DataW.trod]at h
 |succ fuel=>
  simp only[DataW.trod,ht,hce,hct,YP]at h;split at h
  ·rename_i hl;obtain⟨xs,hm,hx⟩:=Xb.1 h
   have hxs:xs.map (·.1)=zs.map fun z=>(DataW.lit (.string z):DataW H):=by
    have:=congrArg Prod.fst hx;simpa using this
   have hxl:xs.length=n:=by simpa using Lib.mapM_length hm
   have hzl:zs.length=n:=by
    have:=congrArg List.length hxs;simp at this;omega
   apply X4;intro i;by_cases hi:i<n
   ·obtain⟨b,hb,hf⟩:=Lib.mapM_at hm i i (by simp[hi]);obtain⟨z,hc,rfl,_⟩:=DataW.trod_string he hf
    have h1:cs[i]? =some (.string z):=by
     have:=congrArg (·[0]?) hc;simpa[XU,XV]using this
    have h2:(xs.map (·.1))[i]? =some (DataW.lit (.string z.data.toList):DataW H):=by simp[hb]
    rw[hxs]at h2;simp only[Xd,Xb,DataW.lit.injEq,Lit.string.injEq]at h2;obtain⟨z',hz',e2⟩:=h2;rw[h1,Xd,hz',XB,e2,tq]
   ·rw[Xe (by omega),Xe (by simp;omega)]
  ·cases h
theorem Ez:(Rows.laid_jalousie_op_names:DataW Unit)= .agg (Dd.map fun z=> .lit (.string z)):=by kernel_rfl
theorem Df:Tryz.prog.globalNamed "jalousie/op.names" =some 0:=by kernel_rfl
theorem Jm:(Tryz.prog.globals[0]?).map (·.type)=some 162:=by kernel_rfl
theorem E5{W:World}(h:laidMetH Tryz.prog ix W):nW (OJ W):=by
 have hL:laidMet Tryz.prog ix W:=h;obtain⟨g,t,cs,fuel,p,hg,hty,hvar,hd⟩:=Lib.laidMet.reads hL (n:= "jalousie/op.names") (d:=Rows.laid_jalousie_op_names) (by simp[ix]);obtain rfl:=XG (Df.symm.trans hg);obtain rfl:=XG (Jm.symm.trans hty);rw[Ez]at hd;have hcs:=rk Tryz.underlying162 Tryz.underlying9 (by kernel_rfl) (by kernel_rfl) hd;refine⟨fun j=>?_,fun u hu=>?_⟩
 ·show W.cell? ⟨0,j,none⟩=ru[j]?;rw[World.var?_cell Df hvar j,←XX,hcs];rfl
 ·obtain⟨z,_,rfl⟩:=Xk.1 hu;rfl
theorem JD:(Rows.laid_jalousie_crc_half:DataW Unit)=Lib.tabData .u32 nR:=by kernel_rfl
theorem Lk:Tryz.prog.globalNamed "jalousie/crc.half" =some 3:=by kernel_rfl
theorem Mh:(Tryz.prog.globals[3]?).map (·.type)=some 241:=by kernel_rfl
theorem Gi{W:World}(h:laidMetH Tryz.prog ix W):kW (OJ W):=by
 have hL:laidMet Tryz.prog ix W:=h;have hT:Lib.TabIs Tryz.prog W "jalousie/crc.half" .u32 nR:=Lib.tabIs_of_head (rest:=ix.drop 3) Lk Mh Tryz.underlying241 Tryz.underlying148 (by kernel_rfl) (by kernel_rfl) (JD▸hL.tail.tail);refine⟨fun j=>?_,fun u hu=>?_⟩
 ·show W.cell? ⟨3,j,none⟩=kO[j]?;rw[World.var?_cell Lk hT j,List.getElem?_toArray];rfl
 ·obtain⟨z,_,rfl⟩:=Xk.1 hu;rfl
noncomputable def mU(os:Os):World:=
 let w0:=World.holding Tryz.prog os ⟨#[], #[],[]⟩
 let put (h:Array Obj) (g:Nat) (cs:Array Value):Array Obj:=h.modify g fun
  | .cells _ t frozen=> .cells cs t frozen
  |o=>o
 let h1:=put w0.heap 1 (Lib.firstTab.map fun z=>Value.int .u8 z).toArray
 let h2:=put h1 2 ((List.range 16).flatMap fun i=>[Value.int .u8 (Lib.accLo i),Value.int .u8 (Lib.accHi i)]).toArray
 let h3:=put h2 4 OP.toArray
 let h4:=put h3 3 kO.toArray
 let h5:=put h4 0 ru.toArray
 {w0 with heap:=h5}
theorem Ri{P:Program}{W:World}{t:TypeId}{α β:Type}{en:α→List DV}{sz:α→Nat}{ok:α→Prop}{en':β→List DV}{sz':β→Nat}{ok':β→Prop}(h:Rd P W t en sz ok)(f:α→β)(he:∀a,ok a→en a=en' (f a))(hs:∀a,sz' (f a)≤sz a)(ho:∀a,ok a→ok' (f a)):Rd P W t en' sz' ok':=
 fun H enc n cs x hx=>let⟨a,h1,h2,h3,h4⟩:=h H enc n cs x hx;⟨f a,ho a h1,Yf (hs a) h2,by rw[←he a h1];exact h3,h4⟩
theorem He(l:List Nat)(x:Nat)(hx:x∈l):x≤l.sum:=by
 induction l with
 |nil=>cases hx
 |cons y l ih=>
  rw[Yx];rcases Xm.1 hx with rfl|hx
  ·omega
  ·have:=ih hx;omega
theorem th{α:Type}(l:List α):(l.map fun _=>1).sum=l.length:=by
 induction l with
 |nil=>rfl
 |cons a l ih=>simp only[Xy,Yx,Xi,ih];omega
def KR(l:List (List UInt8)):Nat:=(l.map fun s=>s.length+1).sum
theorem Ig(l:List (List UInt8)):l.length≤KR l:=by
 unfold KR
 induction l with
 |nil=>exact Xa _
 |cons a l ih=>simp only[Xy,Yx,Xi];omega
theorem I5{l:List (List UInt8)}{s:List UInt8}(h:s∈l):s.length≤KR l:=by
 have:=He _ _ (Xz (f:=fun s:List UInt8=>s.length+1) h);unfold KR;omega
theorem Qj{W:World}:Rd Tryz.prog W 22 (fun l:List (List UInt8)=>[.sl 1 false (aA l)]) KR (fun l=>True):=
 (mH (Eo Tryz.underlying9) Tryz.underlying22 (by kernel_rfl)).conv (fun l=>l.map fun s=>s.data.toList) (fun l=>by
  unfold aA;rw[List.map_map];rfl) (fun l=>by
  unfold KR;rw[List.map_map];have e:((fun s:List UInt8=>s.length+1)∘fun s:ByteArray=>s.data.toList)=fun s=>s.size+1:=funext fun s=>by simp[fS]
  rw[e];omega) fun _ _=>trivial
theorem TD{W:World}:Rd Tryz.prog W 23 (fun l:List Nat=>[ec l]) (fun l=>l.length) di:=
 Ri (mH (Ng Tryz.underlying75) Tryz.underlying23 (by kernel_rfl)) (fun l=>l.map Int.toNat) (fun l h=>by
  unfold ec;rw[List.map_map];refine congrArg (fun z=>[DV.sl 1 false z]) (List.map_congr_left fun x hx=>?_);show dU x=dU ((x.toNat:Nat):Int);rw[Int.toNat_of_nonneg (h x hx).1]) (fun l=>by rw[th,XJ];omega) fun l h x hx=>by
  obtain⟨y,hy,rfl⟩:=Xk.1 hx;have:=h y hy;omega
theorem TR{W:World}:Rd Tryz.prog W 24 (fun l:List Int=>[lN l]) (fun l=>l.length) (fun _=>True):=
 (mH (yK Tryz.underlying3) Tryz.underlying24 (by kernel_rfl)).conv id (fun _=>rfl) (fun l=>by simp only[id,th];omega) fun _ _=>trivial
theorem Tt{W:World}:Rd Tryz.prog W 25 (fun l:List G=>[jN l]) (fun l=>l.length) (fun _=>True):=by
 have rI:=fun{W:World}=>yK (P:=Tryz.prog) (W:=W) Tryz.underlying3
 have h:Rd Tryz.prog W 79 (fun g:G=>[dI g.a,dI g.f,dI g.t]) (fun _=>1) (fun _=>True):=
  (mP (W:=W) Tryz.underlying79 (total:=3) (by kernel_rfl) rfl (bl (k:=1) rI rfl (by kernel_rfl) (bl (k:=1) rI rfl (by kernel_rfl) (bl (k:=1) rI rfl (by kernel_rfl) sX)))).conv (fun a=>⟨a.1,a.2.1,a.2.2.1⟩) (fun _=>rfl) (fun a=>by omega) fun _ _=>trivial
 exact(rH h Tryz.underlying25 (k:=3) (by kernel_rfl) (by omega)).conv id (fun _=>rfl) (fun l=>by simp only[id,th];omega) fun _ _=>trivial
def Rz(c:Cf):Nat:=KR c.nm+c.up.length+c.qu.length+c.gr.length
theorem TE{W:World}:Rd Tryz.prog W 27 (fun c:Cf=>[.sl 1 false (aA c.nm),ec c.up,lN c.qu,jN c.gr]) Rz (fun c=>di c.up):=
 (mP (W:=W) Tryz.underlying27 (total:=4) (by kernel_rfl) rfl (bl (k:=1) Qj rfl (by kernel_rfl) (bl (k:=1) TD rfl (by kernel_rfl) (bl (k:=1) TR rfl (by kernel_rfl) (bl (k:=1) Tt rfl (by kernel_rfl) sX))))).conv (fun a=>⟨a.1,a.2.1,a.2.2.1,a.2.2.2.1⟩) (fun _=>rfl) (fun a=>by unfold Rz;dsimp only;omega) fun a h=>h.2.1
theorem Q7{c:Cf}(h:di c.up)(hs:Rz c≤1048576):Bm c:=by
 unfold Rz at hs;have:=Ig c.nm;exact⟨by omega,fun s hm=>by have:=I5 hm;omega,by omega,h,by omega,by omega⟩
def Qm(o:bp):Nat:=o.bucket.length+o.key.length+o.value.length+KR o.ba+1
theorem Sl{W:World}:Rd Tryz.prog W 47 bp.ds Qm (fun _=>True):=by
 have rI:=fun{W:World}=>yK (P:=Tryz.prog) (W:=W) Tryz.underlying3;have rS:=fun{W:World}=>Eo (P:=Tryz.prog) (W:=W) Tryz.underlying9
 have h:=mP (W:=W) Tryz.underlying47 (total:=11) (by kernel_rfl) rfl
  (bl (k:=1) rI rfl (by kernel_rfl) (bl (k:=1) rI rfl (by kernel_rfl) (bl (k:=1) rI rfl (by kernel_rfl) (bl (k:=1) rI rfl (by kernel_rfl)
  (bl (k:=1) rS rfl (by kernel_rfl) (bl (k:=1) rS rfl (by kernel_rfl) (bl (k:=1) rS rfl (by kernel_rfl)
  (bl (k:=1) rI rfl (by kernel_rfl) (bl (k:=1) rI rfl (by kernel_rfl) (bl (k:=1) rI rfl (by kernel_rfl) (bl (k:=1) Qj rfl (by kernel_rfl) sX)))))))))))
 exact h.conv (fun a=>⟨a.1,a.2.1,a.2.2.1,a.2.2.2.1,a.2.2.2.2.1.data.toList,a.2.2.2.2.2.1.data.toList,a.2.2.2.2.2.2.1.data.toList,a.2.2.2.2.2.2.2.1,a.2.2.2.2.2.2.2.2.1,a.2.2.2.2.2.2.2.2.2.1,a.2.2.2.2.2.2.2.2.2.2.1⟩) (fun a=>rfl) (fun a=>by
  unfold Qm;simp only[fS];omega) fun _ _=>trivial
theorem Pd{W:World}:Rd Tryz.prog W 28 (fun l:List bp=>[I9 l]) (fun l=>(l.map Qm).sum) (fun _=>True):=
 (rH Sl Tryz.underlying28 (k:=11) (by kernel_rfl) (by omega)).conv id (fun _=>rfl) (fun l=>by simp only[id];omega) fun _ _=>trivial
theorem Kj(l:List bp):l.length≤(l.map Qm).sum:=by
 induction l with
 |nil=>exact Xa _
 |cons a l ih=>simp only[Xy,Yx,Xi];unfold Qm at *;omega
end Go.Proofs.YtoepfmhnapedoaaGreatDoor
namespace Go.Proofs.YtoepfmhnapedoaaGreatDoor
open Aml Go Go.RowKit Go.ChangeShapes Go.WideShapes Go.ChangeAt Lat Grs Rn
theorem qz:ownKnob Tryz.prog.godebug=none:=by kernel_rfl
theorem kK(H:Type)(enc:TypeId×Value→H)(W:World)(base:Nat)(args:Array Value)(ds gs:List (DataW H))(before:List MemPlace)
 (hval:∀(j:Nat) t v,Tryz.f4.params[j]? =some t→args[j]? =some v→Value.okWide Tryz.prog W .any base t v)
 (hW:DataW.Whole enc Tryz.prog Tryz.f4.params.toList Rows.modelHidesSpec.vars false W args.toList ds gs before) (hk:Rows.uptoBulkAll (ds++gs)≤1048576) (hL:laidMetH Tryz.prog Rows.modelHidesUptoRow.laid W) (hsh:W.ShapedOpen Tryz.prog):
 Calls Tryz.prog 4 args W fun e W'=>∃v,e= .returned v∧Rows.modelHidesSpec.post enc Tryz.prog Tryz.f4 false true false false W args v W':=
 rh (w0:=OJ W) rfl (.refl _) enc (ts:=[27,28,5]) (tb:=4) (JA TE Tryz.underlying27 (Ah Pd (by kernel_rfl) (Ah (Rf Tryz.underlying5) (by kernel_rfl) I3))) Tryz.params4 rfl Tryz.underlying4 rfl (by kernel_rfl) (by intro t ht;revert t;decide +kernel) (fun ds hd=>by
  first
  |(match ds,hd with|[_],_=>rfl)
  |(match ds,hd with|[_,_],_=>rfl)
  |(match ds,hd with|[_,_,_],_=>rfl)
  |(match ds,hd with|[_,_,_,_],_=>rfl)) (fun a ha hs=>(Mo (w0:=OJ W) (Gs hL) (PA hL) (E5 hL) (Gi hL) a.1 (Q7 ha.1 (by omega)) a.2.1 a.2.2.1 (by have:=Kj a.2.1;omega) ha.2.2.1 ⟨[],[]⟩).mono fun d S' h=>h) base args ds gs before hval hW hk
theorem qQ(os:Os):laidMet Tryz.prog Rows.modelHidesUptoRow.laid ((mU os).forCall (fun _ _=>0) ⟨#[], #[.agg #[.slice none 0 0,.slice none 0 0,.slice none 0 0,.slice none 0 0],.slice none 0 0,.int .u8 0],[]⟩).memory:=
 laidMet_of_run' 8 (by kernel_rfl) (by kernel_rfl)
theorem mL(os:Os){H:Type}(enc:TypeId×Value→H):∃places,DataW.whole enc Tryz.prog ((mU os).forCall (fun _ _=>0) ⟨#[], #[.agg #[.slice none 0 0,.slice none 0 0,.slice none 0 0,.slice none 0 0],.slice none 0 0,.int .u8 0],[]⟩).memory Tryz.f4.params.toList Rows.modelHidesSpec.vars false (#[.agg #[.slice none 0 0,.slice none 0 0,.slice none 0 0,.slice none 0 0],.slice none 0 0,.int .u8 0]:Array Value).toList 8=some ([.agg [.nil,.nil,.nil,.nil],.nil,.lit (.int .u8 0)],[],places):=
 ⟨[],by kernel_rfl⟩
theorem lV(os:Os)(started:os.Started)(H:Type)(enc:TypeId×Value→H)(F:Stop.Interp):
 ReturnsInHanded {} Tryz.checked os 4 .any ((Rows.OpenSpec.upto Rows.modelHidesSpec).preRow enc Tryz.prog Tryz.f4 Rows.modelHidesUptoRow.domain false Rows.modelHidesUptoRow.laid) (((Rows.OpenSpec.upto Rows.modelHidesSpec).at F).post enc Tryz.prog Tryz.f4 false true false false):=by
 obtain⟨places,hx⟩:=mL os enc
 refine returnsInHanded_of_row (C:=Tryz.checked) (s:=Rows.OpenSpec.upto Rows.modelHidesSpec) qz started (by kernel_rfl) Tryz.func4
  (witness_row_at (enc:=enc) (C:=Tryz.checked) false (mU os) #[.agg #[.slice none 0 0,.slice none 0 0,.slice none 0 0,.slice none 0 0],.slice none 0 0,.int .u8 0] rfl (by kernel_rfl) (by kernel_rfl) (by kernel_rfl)
   (OpenSpec.preRow_of_cond 8 hx (by kernel_rfl) (fun k hk=>by cases hk;kernel_rfl) (by kernel_rfl) (qQ os))) ?_
 intro W base args ds gs before hval hW _ hc _ hL hsh _;exact kK H enc W base args ds gs before hval hW (of_decide_eq_true (hc _ rfl)) hL hsh
theorem oq:Rows.ModelHidesUptoSaid:=
 OpenClaim.holds_of_cond 4 Tryz.f4 rfl rfl rfl rfl rfl rfl rfl ⟨rfl,rfl,rfl,rfl,rfl⟩ rfl rfl rfl rfl rfl (by kernel_rfl) Tryz.func4 (by kernel_rfl)
  (of_decide_eq_true (by kernel_rfl)) (by unfold Func.isWrapper;first|(rw[if_pos (by decide +kernel)];kernel_rfl)|(rw[if_neg (by decide +kernel)];exact⟨rfl,rfl⟩))
  (fun os started H enc _ F=>by rw[OpenClaim.pre_eq_preRow];exact lV os started H enc F)
theorem mN(f:FuncId)(fn:Func)(hf:Tryz.pinned.checked.prog.funcNamed Rows.modelHidesUptoRow.func=some f)(hfn:Tryz.pinned.checked.prog.funcs[f]? =some fn):
 true=Tryz.pinned.checked.prog.looks []∧∀(j:Nat) t,fn.params[j]? =some t→Tryz.pinned.checked.prog.wantsStandIn t=false:=by
 obtain rfl:f=4:=XG ((show Tryz.prog.funcNamed Rows.modelHidesUptoRow.func=some 4 by kernel_rfl).symm.trans hf) |>.symm;obtain rfl:fn=Tryz.f4:=(XG (Tryz.func4.symm.trans hfn)).symm;refine⟨by kernel_rfl,fun j t ht=>?_⟩;rw[Tryz.params4]at ht;have hm:t∈([27,28,5]:List TypeId):=by simpa using Array.mem_of_getElem? ht
 exact(show∀t,t∈([27,28,5]:List TypeId)→Tryz.prog.wantsStandIn t=false by decide +kernel) t hm
theorem modelHides_holds:Rows.ModelHidesUptoCardSaid:=
 Claim7.holds_tied_plain_at .later [] _ _ _ _ oq (fun _ h=>by cases h) (by kernel_rfl) (fun _ h=>by cases h) modelHidesUpto_row_tie rfl ⟨rfl,rfl⟩ (by kernel_rfl) rfl mN (by kernel_rfl)
end Go.Proofs.YtoepfmhnapedoaaGreatDoor
