/-
  CommitMetas. By an AI agent.
-/
import Derived.Test.YtpjenciplibdnaaGreatDoorMO8
import Derived.Test.YtpjenciplibdnaaGreatDoorMO6
import Derived.Test.YtpjenciplibdnaaGreatDoorMO7
import Derived.Test.YtpjenciplibdnaaGreatDoorTie
import Derived.Test.YtpjenciplibdnaaGreatDoorCards
import Derived.Deep.DeepHandedRow
import Derived.Lib.LaidTab
set_option linter.unusedVariables false
set_option linter.unusedSimpArgs false
set_option maxRecDepth 100000
set_option maxHeartbeats 16000000
namespace Go.Proofs.YtpjenciplibdnaaGreatDoor
open Aml Go
@[go_sem] def eZ (z:Zt):DV:= .agg (dI z.label::dU z.bE::dI z.root::dI z.nT::dI z.high::dI z.n.aq::dB z.n.leaf:: .sl 1 false (z.n.l.map fun c=>dS c.key):: .sl 2 false ((if z.n.leaf then z.n.l else []).map fS):: .sl 5 false ((aN z.n).map dT):: .sl 6 false (z.l.map lP):: .sl 1 false (z.own.map dI)::dI z.p.high:: .sl 1 false (z.p.free.map dI):: .sl 2 false (z.p.wait.map dW)::[])
@[go_sem] def RG:DV:= .sl 1 false [.agg [.v (.func (.func 74) #[] #[])],.agg [.v (.func (.func 75) #[] #[])],.agg [.v (.func (.func 76) #[] #[])],.agg [.v (.func (.func 77) #[] #[])],.agg [.v (.func (.func 78) #[] #[])],.agg [.v (.func (.func 79) #[] #[])]]
theorem Kq(w0:W0)(S:St):aa Tryz.prog w0 33 [] S (fun d S'=>d=RG∧S'=S):=by
 refine aZ [] mx Tryz.func33 rfl rfl (by kernel_rfl) ?_;(refine @ab _ ?_;refine an @Tryz.ntmps33 ?_)
 trivial
structure Sg where
 z:Zt
 W:DV
 A:DV
 ws:List (Int×ByteArray)
def qe(w0:W0)(f:FuncId)(o:Zt)(q:Int)(x y:Sg):Prop:=∀S b lw,Dc S b lw x.z o (yp x.z.l) x.W q x.A x.ws→aa Tryz.prog w0 f [BF b] S (fun d S'=>d=dB true∧S'=dp S b lw y.z o (yp y.z.l) y.W q y.A y.ws)
section
theorem Wb(w0:W0)(hg:fw w0)(o:Zt)(n:N)(l:List C)(q t:Int)(hd:Bool)(S:St)(p:Pl)(X:Nat→Sg)(htx:0≤o.bE∧o.bE≤1000000)(hrel:∀S,aa Tryz.prog w0 32 [dP o.p,dU t,dB hd] S (fun d S'=>d=dP p∧S'=S))
 (h0:X 0=⟨{o with bE:=o.bE+1,n:=n,l:=l,own:=[],p:=p},.sl 0 true [],.sl 0 true [],[]⟩) (h6:(X 6).W=dL (X 6).z.own) (hmt:pv (X 6).z.label (X 6).z.bE (X 6).z.root (X 6).z.nT (X 6).z.high)
 (s0:qe w0 74 o q (X 0) (X 1)) (s1:qe w0 75 o q (X 1) (X 2)) (s2:qe w0 76 o q (X 2) (X 3)) (s3:qe w0 77 o q (X 3) (X 4)) (s4:qe w0 78 o q (X 4) (X 5)) (s5:qe w0 79 o q (X 5) (X 6)):
 aa Tryz.prog w0 13 [eZ o,eV n l,dI q,dU t,dB hd] S (fun d S'=>d= .bD [eZ (X 6).z,.sl 2 false ((X 6).ws.map nH),fC (mE (X 6).z.label (X 6).z.bE (X 6).z.root (X 6).z.nT (X 6).z.high),dB true]∧S'=S):=by
 have etx:IntKind.u64.wrap (o.bE+1)=o.bE+1:=gJ (by omega) (by omega)
 refine aZ [3,10] mx Tryz.func13 rfl rfl (by kernel_rfl) ?_;(refine @ab _ ?_;refine an @Tryz.ntmps13 ?_)
 intro b5 b6 b10
 refine aS (hrel _) ?_
 (refine @ab _ ?_;refine an @etx ?_)
 intro b
 refine ib b.n 32 2 (by omega) (nF _ _ _) rfl fun lw=>?_
 refine lE [10] [] mx (by kernel_rfl) ?_
 (refine @ab _ ?_;refine an @etx ?_)
 refine ao (Kq w0 _) ?_
 (refine @ab _ ?_;refine au ?_)
 refine aF [10] 6 [5,10,14,43,44,45] (fun k=>[(45,dI k)]) (fun k=>⟨(b.n,gj (X k).z o (yp (X k).z.l) (X k).W q (X k).A lw.n (X k).ws.length)::(b10.n,[dI 0,dU 0,dI 0,dI 0,dI 0,dI 0,dB false,.sl 0 true [],.sl 0 true [],.sl 0 true [],.sl 0 true [],.sl 0 true [],dI 0,.sl 0 true [],.sl 0 true []])::(b6.n,[dI n.aq,dB n.leaf,.sl 1 false (n.l.map fun c=>dS c.key),.sl 2 false ((if n.leaf then n.l else []).map fS),.sl 5 false ((aN n).map dT),.sl 6 false (l.map lP)])::(b5.n,dI o.label::dU o.bE::dI o.root::dI o.nT::dI o.high::dI o.n.aq::dB o.n.leaf:: .sl 1 false (o.n.l.map fun c=>dS c.key):: .sl 2 false ((if o.n.leaf then o.n.l else []).map fS):: .sl 5 false ((aN o.n).map dT)::yp o.l::dL o.own::dI o.p.high:: .sl 1 false (o.p.free.map dI):: .sl 2 false (o.p.wait.map dW)::[])::S.box,(lw.n,.arr 2 ((X k).ws.map nH))::S.acc⟩) (fun _=>True) mx (by kernel_rfl) ?_ ?_
 ·rw[h0]
  simp(maxDischargeDepth:=12) (maxSteps:=1000000) -implicitDefEqProofs only[go_sem,Nat.reduceAdd,Nat.reduceSub,Nat.reduceMul,Nat.reduceLeDiff,Nat.reduceEqDiff,Nat.reduceGT,Nat.reduceBEq,reduceCtorEq,↓reduceIte,Int.reduceToNat,Int.reduceLE,Int.reduceLT,Int.reduceNe,Int.reduceEq,gj]
 ·intro k hk _
  match k,hk with
  |0,_=>
   (refine @ab _ ?_;refine au ?_)
   intro b16
   refine nL (s0 _ b.n lw.n ⟨by(refine @ab _ ?_;exact aV),by(refine @ab _ ?_;exact aV)⟩) ?_
   simp(maxDischargeDepth:=12) (maxSteps:=1000000) -implicitDefEqProofs only[go_sem,Nat.reduceAdd,Nat.reduceSub,Nat.reduceMul,Nat.reduceLeDiff,Nat.reduceEqDiff,Nat.reduceGT,Nat.reduceBEq,reduceCtorEq,↓reduceIte,Int.reduceToNat,Int.reduceLE,Int.reduceLT,Int.reduceNe,Int.reduceEq,dp]
   rfl
  |1,_=>
   (refine @ab _ ?_;refine au ?_)
   intro b16
   refine nL (s1 _ b.n lw.n ⟨by(refine @ab _ ?_;exact aV),by(refine @ab _ ?_;exact aV)⟩) ?_
   simp(maxDischargeDepth:=12) (maxSteps:=1000000) -implicitDefEqProofs only[go_sem,Nat.reduceAdd,Nat.reduceSub,Nat.reduceMul,Nat.reduceLeDiff,Nat.reduceEqDiff,Nat.reduceGT,Nat.reduceBEq,reduceCtorEq,↓reduceIte,Int.reduceToNat,Int.reduceLE,Int.reduceLT,Int.reduceNe,Int.reduceEq,dp]
   rfl
  |2,_=>
   (refine @ab _ ?_;refine au ?_)
   intro b16
   refine nL (s2 _ b.n lw.n ⟨by(refine @ab _ ?_;exact aV),by(refine @ab _ ?_;exact aV)⟩) ?_
   simp(maxDischargeDepth:=12) (maxSteps:=1000000) -implicitDefEqProofs only[go_sem,Nat.reduceAdd,Nat.reduceSub,Nat.reduceMul,Nat.reduceLeDiff,Nat.reduceEqDiff,Nat.reduceGT,Nat.reduceBEq,reduceCtorEq,↓reduceIte,Int.reduceToNat,Int.reduceLE,Int.reduceLT,Int.reduceNe,Int.reduceEq,dp]
   rfl
  |3,_=>
   (refine @ab _ ?_;refine au ?_)
   intro b16
   refine nL (s3 _ b.n lw.n ⟨by(refine @ab _ ?_;exact aV),by(refine @ab _ ?_;exact aV)⟩) ?_
   simp(maxDischargeDepth:=12) (maxSteps:=1000000) -implicitDefEqProofs only[go_sem,Nat.reduceAdd,Nat.reduceSub,Nat.reduceMul,Nat.reduceLeDiff,Nat.reduceEqDiff,Nat.reduceGT,Nat.reduceBEq,reduceCtorEq,↓reduceIte,Int.reduceToNat,Int.reduceLE,Int.reduceLT,Int.reduceNe,Int.reduceEq,dp]
   rfl
  |4,_=>
   (refine @ab _ ?_;refine au ?_)
   intro b16
   refine nL (s4 _ b.n lw.n ⟨by(refine @ab _ ?_;exact aV),by(refine @ab _ ?_;exact aV)⟩) ?_
   simp(maxDischargeDepth:=12) (maxSteps:=1000000) -implicitDefEqProofs only[go_sem,Nat.reduceAdd,Nat.reduceSub,Nat.reduceMul,Nat.reduceLeDiff,Nat.reduceEqDiff,Nat.reduceGT,Nat.reduceBEq,reduceCtorEq,↓reduceIte,Int.reduceToNat,Int.reduceLE,Int.reduceLT,Int.reduceNe,Int.reduceEq,dp]
   rfl
  |5,_=>
   (refine @ab _ ?_;refine au ?_)
   intro b16
   refine nL (s5 _ b.n lw.n ⟨by(refine @ab _ ?_;exact aV),by(refine @ab _ ?_;exact aV)⟩) ?_
   simp(maxDischargeDepth:=12) (maxSteps:=1000000) -implicitDefEqProofs only[go_sem,Nat.reduceAdd,Nat.reduceSub,Nat.reduceMul,Nat.reduceLeDiff,Nat.reduceEqDiff,Nat.reduceGT,Nat.reduceBEq,reduceCtorEq,↓reduceIte,Int.reduceToNat,Int.reduceLE,Int.reduceLT,Int.reduceNe,Int.reduceEq,dp]
   rfl
  |6,_=>
   simp(maxDischargeDepth:=12) (maxSteps:=1000000) -implicitDefEqProofs only[go_sem,Nat.reduceAdd,Nat.reduceSub,Nat.reduceMul,Nat.reduceLeDiff,Nat.reduceEqDiff,Nat.reduceGT,Nat.reduceBEq,reduceCtorEq,↓reduceIte,Int.reduceToNat,Int.reduceLE,Int.reduceLT,Int.reduceNe,Int.reduceEq,gj,h6]
   refine ao (PE w0 hg _ hmt) ?_
   simp(maxDischargeDepth:=12) (maxSteps:=1000000) -implicitDefEqProofs only[go_sem,Nat.reduceAdd,Nat.reduceSub,Nat.reduceMul,Nat.reduceLeDiff,Nat.reduceEqDiff,Nat.reduceGT,Nat.reduceBEq,reduceCtorEq,↓reduceIte,Int.reduceToNat,Int.reduceLE,Int.reduceLT,Int.reduceNe,Int.reduceEq,gj,h6]
   refine Kw ⟨[(b.n,dI (X 6).z.label::dU (X 6).z.bE::dI (X 6).z.root::dI (X 6).z.nT::dI (X 6).z.high::dI (X 6).z.n.aq::dB (X 6).z.n.leaf:: .sl 1 false ((X 6).z.n.l.map fun c=>dS c.key):: .sl 2 false ((if(X 6).z.n.leaf then(X 6).z.n.l else []).map fS):: .sl 5 false ((aN (X 6).z.n).map dT)::yp (X 6).z.l::dL (X 6).z.own::dI (X 6).z.p.high:: .sl 1 false ((X 6).z.p.free.map dI):: .sl 2 false ((X 6).z.p.wait.map dW)::dI o.label::dU o.bE::dI o.root::dI o.nT::dI o.high::dI o.n.aq::dB o.n.leaf:: .sl 1 false (o.n.l.map fun c=>dS c.key):: .sl 2 false ((if o.n.leaf then o.n.l else []).map fS):: .sl 5 false ((aN o.n).map dT)::yp o.l::dL o.own::dI o.p.high:: .sl 1 false (o.p.free.map dI):: .sl 2 false (o.p.wait.map dW)::dI q::(X 6).A:: .acc lw.n (X 6).ws.length::[])],[]⟩ [11] [] [0,1,2,4,5,6,8,9,10,3,7,11,12,13,14] mx (by kernel_rfl) ?_
   simp(maxDischargeDepth:=12) (maxSteps:=1000000) -implicitDefEqProofs only[go_sem,Nat.reduceAdd,Nat.reduceSub,Nat.reduceMul,Nat.reduceLeDiff,Nat.reduceEqDiff,Nat.reduceGT,Nat.reduceBEq,reduceCtorEq,↓reduceIte,Int.reduceToNat,Int.reduceLE,Int.reduceLT,Int.reduceNe,Int.reduceEq,gj,h6]
   repeat (refine⟨l7 (by simp(maxDischargeDepth:=12) (maxSteps:=1000000) -implicitDefEqProofs only[go_sem,Nat.reduceAdd,Nat.reduceSub,Nat.reduceMul,Nat.reduceLeDiff,Nat.reduceEqDiff,Nat.reduceGT,Nat.reduceBEq,reduceCtorEq,↓reduceIte,Int.reduceToNat,Int.reduceLE,Int.reduceLT,Int.reduceNe,Int.reduceEq]),?_⟩)
   exact l7 (by simp(maxDischargeDepth:=12) (maxSteps:=1000000) -implicitDefEqProofs only[go_sem,Nat.reduceAdd,Nat.reduceSub,Nat.reduceMul,Nat.reduceLeDiff,Nat.reduceEqDiff,Nat.reduceGT,Nat.reduceBEq,reduceCtorEq,↓reduceIte,Int.reduceToNat,Int.reduceLE,Int.reduceLT,Int.reduceNe,Int.reduceEq])
theorem Ww(w0:W0)(o:Zt)(n:N)(l:List C)(q t:Int)(hd:Bool)(S:St)(p:Pl)(htx:0≤o.bE∧o.bE≤1000000)(hrel:∀S,aa Tryz.prog w0 32 [dP o.p,dU t,dB hd] S (fun d S'=>d=dP p∧S'=S))
 (hf:∀S,aa Tryz.prog w0 127 [eV o.n o.l,eV n l,dL o.own,dP p,dI q] S (fun d S'=>d=dB false∧S'=S)):
 aa Tryz.prog w0 13 [eZ o,eV n l,dI q,dU t,dB hd] S (fun d S'=>d= .bD [eZ o,.sl 0 true [],.sl 0 true [],dB false]∧S'=S):=by
 have etx:IntKind.u64.wrap (o.bE+1)=o.bE+1:=gJ (by omega) (by omega)
 refine aZ [3,10] mx Tryz.func13 rfl rfl (by kernel_rfl) ?_;(refine @ab _ ?_;refine an @Tryz.ntmps13 ?_)
 intro b5 b6 b10
 refine aS (hrel _) ?_
 (refine @ab _ ?_;refine an @etx ?_)
 intro b
 refine ib b.n 32 2 (by omega) (nF _ _ _) rfl fun lw=>?_
 refine lE [10] [] mx (by kernel_rfl) ?_
 (refine @ab _ ?_;refine an @etx ?_)
 refine ao (Kq w0 _) ?_
 (refine @ab _ ?_;refine au ?_)
 refine aF [10] 6 [5,10,14,43,44,45] (fun k=>[(45,dI k)]) (fun k=>⟨(b.n,gj ({o with bE:=o.bE+1,n:=n,l:=l,own:=[],p:=p}:Zt) o (yp l) (.sl 0 true []) q (.sl 0 true []) lw.n 0)::(b10.n,[dI 0,dU 0,dI 0,dI 0,dI 0,dI 0,dB false,.sl 0 true [],.sl 0 true [],.sl 0 true [],.sl 0 true [],.sl 0 true [],dI 0,.sl 0 true [],.sl 0 true []])::(b6.n,[dI n.aq,dB n.leaf,.sl 1 false (n.l.map fun c=>dS c.key),.sl 2 false ((if n.leaf then n.l else []).map fS),.sl 5 false ((aN n).map dT),.sl 6 false (l.map lP)])::(b5.n,dI o.label::dU o.bE::dI o.root::dI o.nT::dI o.high::dI o.n.aq::dB o.n.leaf:: .sl 1 false (o.n.l.map fun c=>dS c.key):: .sl 2 false ((if o.n.leaf then o.n.l else []).map fS):: .sl 5 false ((aN o.n).map dT)::yp o.l::dL o.own::dI o.p.high:: .sl 1 false (o.p.free.map dI):: .sl 2 false (o.p.wait.map dW)::[])::S.box,(lw.n,.arr 2 [])::S.acc⟩) (fun k=>k=0) mx (by kernel_rfl) ?_ ?_
 ·simp(maxDischargeDepth:=12) (maxSteps:=1000000) -implicitDefEqProofs only[go_sem,Nat.reduceAdd,Nat.reduceSub,Nat.reduceMul,Nat.reduceLeDiff,Nat.reduceEqDiff,Nat.reduceGT,Nat.reduceBEq,reduceCtorEq,↓reduceIte,Int.reduceToNat,Int.reduceLE,Int.reduceLT,Int.reduceNe,Int.reduceEq,gj]
 ·intro k hk h0
  subst h0
  (refine @ab _ ?_;refine au ?_)
  intro b16
  refine ao (Rs w0 (z:={o with bE:=o.bE+1,n:=n,l:=l,own:=[],p:=p}) (b:=b.n) (lw:=lw.n) (ws:=[]) (W:= .sl 0 true []) (A:= .sl 0 true []) ⟨by(refine @ab _ ?_;exact aV),by(refine @ab _ ?_;exact aV)⟩ false hf) ?_
  simp(maxDischargeDepth:=12) (maxSteps:=1000000) -implicitDefEqProofs only[go_sem,Nat.reduceAdd,Nat.reduceSub,Nat.reduceMul,Nat.reduceLeDiff,Nat.reduceEqDiff,Nat.reduceGT,Nat.reduceBEq,reduceCtorEq,↓reduceIte,Int.reduceToNat,Int.reduceLE,Int.reduceLT,Int.reduceNe,Int.reduceEq]
end
theorem yA{k:Nat}{m:N}{l X:List C}{name:ByteArray}(hm:TB k m)(hc:kq (fun a b=>zA l a b∧a≠name) m)(h:∀c,c∈l→c.key≠name→c∈X):kq (zA X) m:=by
 obtain⟨_,d,hg,_⟩:=hm
 refine nB (az hg) ?_ hc
 rintro e he ⟨⟨c,h1,h2,h3,h4⟩,h5⟩
 exact⟨c,h c h1 (by rw[h2];exact h5),h2,h3,h4⟩
theorem VO{k:Nat}{n:N}{l:List C}(h:VI k n l)(hk:k≤116)(hc:kq (zA l) n)(name:ByteArray):kq (zA (mG name n l).1.2) (mG name n l).1.1:=by
 have hv:=(J8 h hk name).dir
 unfold mG at hv ⊢
 cases hok:gl name with
 |false=>exact hc
 |true=>
  cases hh:dH l name with
  |true=>exact hc
  |false=>
   rw[hok,hh]at hv
   simp only[if_true,if_false,Bool.false_eq_true]at hv ⊢
   obtain⟨hne,hsz⟩:=dt hok
   obtain⟨_,d,hg,_⟩:=h.dir
   refine yA hv (Ec hsz (by decide) hg hc) fun c hc _=>?_
   rw[←List.take_append_drop (bd l name) l]at hc
   rw[List.append_assoc]
   rcases List.mem_append.1 hc with hc|hc
   ·exact List.mem_append_left _ hc
   ·exact List.mem_append_right _ (List.mem_append_right _ hc)
theorem W3{k:Nat}{n:N}{l:List C}(h:VI k n l)(hk:k≤116)(hc:kq (zA l) n)(name:ByteArray):kq (zA (wQ name n l).1.2) (wQ name n l).1.1:=by
 have hv:=(QD h hk name).dir
 unfold wQ at hv ⊢
 cases hh:dH l name with
 |false=>exact hc
 |true=>
  rw[hh]at hv
  simp only[if_true]at hv ⊢
  obtain⟨A,b,B,hl,hb,hi,h1,h2⟩:=yg h.bQ hh
  obtain⟨_,d,hg,_⟩:=h.dir
  have e:l.take (bd l name)++l.drop (bd l name+1)=A++B:=by rw[hi,hl];simp
  rw[e]
  refine yA hv (S4 hg hc) fun c hc hne=>?_
  rw[hl]at hc
  rcases List.mem_append.1 hc with hc|hc
  ·exact List.mem_append_left _ hc
  ·rcases List.mem_cons.1 hc with rfl|hc
   ·exact absurd hb hne
   ·exact List.mem_append_right _ hc
theorem Jk{k:Nat}{n:N}{l:List C}(h:VI k n l)(hk:k≤116)(hc:kq (zA l) n)(name:ByteArray)(f:N→N×Int)(hf:∀t,TB k t→TB (k+1) (f t).1):kq (zA (uU name f n l).1.2) (uU name f n l).1.1:=by
 have hv:=(Q6 h hk name f hf).dir
 unfold uU at hv ⊢
 cases hh:dH l name with
 |false=>exact hc
 |true=>
  rw[hh]at hv
  obtain⟨A,b,B,hl,hb,hi,h1,h2⟩:=yg h.bQ hh
  have hgb:l[bd l name]? =some b:=by rw[hi,hl];simp
  simp only[if_true,hgb]at hv ⊢
  by_cases e0:(f (aA b)).2=0
  ·rw[if_pos e0]at hv ⊢
   obtain⟨hne,hsz⟩:=dt (h.cell b (List.mem_of_getElem? hgb)).2.2
   rw[hb]at hne hsz
   obtain⟨_,d,hg,_⟩:=h.dir
   have e:l.set (bd l name) (af b.key (f (aA b)).1)=A++af b.key (f (aA b)).1::B:=by rw[hi,hl];simp
   simp only at hv ⊢
   rw[e]
   refine yA hv (Ec hsz (by decide) hg hc) fun c hc hne=>?_
   rw[hl]at hc
   rcases List.mem_append.1 hc with hc|hc
   ·exact List.mem_append_left _ hc
   ·rcases List.mem_cons.1 hc with rfl|hc
    ·exact absurd hb hne
    ·exact List.mem_append_right _ (List.mem_cons_of_mem _ hc)
  ·rw[if_neg e0]
   exact hc
theorem Ro{j k:Nat}{z:Zt}{n:N}{l:List C}(hz:ZI j z)(hv:ZV k z n l)(hj:j≤k):BI k (n,l) (z.n,z.l) z.p.high:=
 ⟨hv.vi,fD hz.vi hj,hv.tv,hz.fr,hv.sub,List.nodup_iff_count.1 (List.nodup_append.1 hz.nd).1,fun p hp=>hz.re p (List.mem_append_left _ hp),hz.keep.qV.2.2.1,hz.keep.qV.2.2.2.1⟩
theorem Ae{k:Nat}{z:Zt}{q:N×List C}(hb:BI k q (z.n,z.l) z.p.high)(hc:kq (zA q.2) q.1):ZV k z q.1 q.2:=⟨hb.v,hb.tv,hc,hb.sub⟩
theorem Nt{k m:Nat}{z:Zt}{n:N}{l:List C}(h:ZV k z n l)(hm:k≤m):ZV m z n l:=⟨fD h.vi hm,h.tv,h.cl,h.sub⟩
structure Sp where
 kind:Int
 name:ByteArray
 key:ByteArray
 size:Int
@[go_sem] def W6 (s:Sp):DV:= .agg [dI s.kind,dS s.name,dS s.key,dI s.size]
def ma(s:Sp)(q:N×List C):N×List C:=
 if s.kind=0 then(mG s.name q.1 q.2).1 else if s.kind=1 then(wQ s.name q.1 q.2).1
 else if s.kind=2 then(sc s.name s.key (strOfNums (List.replicate s.size.toNat 0)) q.1 q.2).1
 else if s.kind=3 then(Nr s.name s.key q.1 q.2).1 else q
theorem ME{j k:Nat}{z:Zt}{q:N×List C}(hz:ZI j z)(hj:j≤k)(hk:k≤116)(h:ZV k z q.1 q.2)(s:Sp):ZV (k+1) z (ma s q).1 (ma s q).2:=by
 have hb:=Ro hz h hj
 unfold ma
 by_cases h0:s.kind=0
 ·rw[if_pos h0]
  exact Ae (Vg hb hk s.name) (VO h.vi hk h.cl s.name)
 ·rw[if_neg h0]
  by_cases h1:s.kind=1
  ·rw[if_pos h1]
   exact Ae (U5 hb hk s.name) (W3 h.vi hk h.cl s.name)
  ·rw[if_neg h1]
   by_cases h2:s.kind=2
   ·rw[if_pos h2]
    refine Ae (QH hb hk s.name s.key _) ?_
    unfold sc
    split
    ·rename_i hc
     simp only[Bool.and_eq_true,decide_eq_true_eq]at hc
     obtain⟨hne,hsz⟩:=dt hc.1
     exact Jk h.vi hk h.cl s.name _ fun t ht=>tB ht hk hne hsz hc.2
    ·exact h.cl
   ·rw[if_neg h2]
    by_cases h3:s.kind=3
    ·rw[if_pos h3]
     refine Ae (WK hb hk s.name s.key) ?_
     unfold Nr
     refine Jk h.vi hk h.cl s.name _ fun t ht=>?_
     split
     ·exact DY ht hk
     ·exact lz ht (by omega)
    ·rw[if_neg h3]
     exact Nt h (by omega)
def z0(label:Int):Zt:=⟨label,0,0,0,2,l5,[],[],⟨2,[],[]⟩⟩
theorem EH{label:Int}(h:0≤label∧label≤63):ZI 0 (z0 label):=by
 have hk:=DK 1000 (by omega)
 refine⟨Rg 0,⟨⟨xk,tU,Rv⟩,fun c hc=>absurd hc List.not_mem_nil⟩,rfl,?_,List.nodup_nil,fun x hx=>(by cases hx),EV hk fun i=>rfl,rfl,rfl,⟨Int.le_refl _,Int.le_refl _⟩,h⟩
 exact Df (az (wX:Good 0 l5)) fun e he=>by cases he
theorem lY{k:Nat}{z:Zt}(h:ZI k z):(cu z.n z.l++z.own++listed z.p).Perm (bQ 2 (z.p.high-2).toNat):=by
 obtain⟨c1,c2⟩:=sx h.keep.qV
 have h2:=h.keep.qV.2.2.1
 have hP:(cu z.n z.l++z.own++listed z.p).Perm (gO (z.n,z.l)++z.own++jL z.p):=by
  rw[cD]
  exact((wJ h.vi).append_right _).append (bN _)
 have hnot:∀x,x∈gO (z.n,z.l)++z.own→x∉jL z.p:=fun x hx=>by
  have h3:=h.re x hx
  have:=(h.keep.own x.toNat (by unfold dE;rw[decide_eq_true_eq,Int.toNat_of_nonneg (by omega)];exact hx)).2.2
  rwa [Int.toNat_of_nonneg (by omega)]at this
 have hN:(gO (z.n,z.l)++z.own++jL z.p).Nodup:=List.nodup_append.2 ⟨h.nd,c2,fun a ha b hb e=>hnot a ha (e▸hb)⟩
 refine hP.trans ((List.perm_ext_iff_of_nodup hN (j4 (sn _ _))).2 fun x=>?_)
 rw[List.mem_append,ll]
 constructor
 ·rintro(hx|hx)
  ·have:=h.re x hx;omega
  ·have:=c1 x hx;omega
 ·rintro⟨g1,g2⟩
  rcases h.keep.all x g1 (by omega)with hx|hx
  ·exact .inr hx
  ·unfold dE at hx
   rw[decide_eq_true_eq,Int.toNat_of_nonneg (by omega)]at hx
   exact .inl hx
theorem HU{k:Nat}{z:Zt}(h:ZI k z):dh (cu z.n z.l++z.own++listed z.p)=bQ 2 (z.p.high-2).toNat:=
 (oJ ((sn _ _).imp fun h=>by omega) (lY h).symm).symm
theorem LP{h:Int}{n i:Nat}{x:Int}(e:(bQ h n)[i]? =some x):x=h+i:=by
 unfold bQ at e
 rw[List.getElem?_map]at e
 cases hr:(List.range n)[i]? with
 |none=>rw[hr]at e;cases e
 |some j=>
  rw[hr]at e
  have hj:j=i:=by
   obtain⟨u,e2⟩:=List.getElem?_eq_some_iff.1 hr
   rw[List.getElem_range]at e2;exact e2.symm
  subst hj
  exact(Option.some.inj e).symm
theorem FB{k:Nat}{z:Zt}(h:ZI k z)(hl:z.nT=z.own.headD 0):(z.root=0∨(2≤z.root∧z.root<z.high))∧(z.nT=0∨(2≤z.nT∧z.nT<z.high))∧(z.root=0∨z.root≠z.nT)∧2≤z.high∧z.high≤1000:=by
 have hr:z.root≠0→z.root∈gO (z.n,z.l):=fun e=>by
  rw[h.root]at e ⊢
  exact List.mem_append_left _ (xm e)
 have ho:z.nT≠0→z.nT∈z.own:=fun e=>by
  rw[hl]at e ⊢
  cases ho:z.own with
  |nil=>rw[ho]at e;exact absurd rfl e
  |cons a r=>exact List.mem_cons_self
 have hh:=h.high
 have hc:=h.keep.qV
 refine⟨?_,?_,?_,by rw[hh];exact hc.2.2.1,by rw[hh];exact hc.2.2.2.1⟩
 ·by_cases e:z.root=0
  ·exact .inl e
  ·have:=h.re _ (List.mem_append_left _ (hr e))
   exact .inr (by rw[hh];exact this)
 ·by_cases e:z.nT=0
  ·exact .inl e
  ·have:=h.re _ (List.mem_append_right _ (ho e))
   exact .inr (by rw[hh];exact this)
 ·by_cases e:z.root=0
  ·exact .inl e
  ·refine .inr fun e2=>?_
   exact(List.nodup_append.1 h.nd).2.2 _ (hr e) _ (ho (by rw[←e2];exact e)) e2
theorem Km{p:Pl}{q:Int}(hc:F7 p q):p.wait.length≤nW p.wait:=by
 have:∀l:List Wt,(∀w,w∈l→w.ak≠[])→l.length≤nW l:=by
  intro l
  induction l with
  |nil=>intro _;exact Nat.zero_le _
  |cons a l ih=>
   intro h
   have h1:=ih fun w hw=>h w (List.mem_cons_of_mem _ hw)
   have h2:0<a.ak.length:=List.length_pos_iff.2 (h a List.mem_cons_self)
   simp only[nW,List.map_cons,List.sum_cons,List.length_cons]at*
   omega
 exact this _ fun w hw e=>hc.2.1 w hw (.inl e)
theorem fM{top:Nat}{p:Pl}{h:Nat→Bool}{t:Int}(k:og top p h t):p.free.length+nW p.wait≤top∧p.wait.length≤top∧2≤p.high∧p.high≤top:=by
 have h1:=tJ k
 have h2:=Km k.qV
 rw[lU]at h1
 have:=k.qV.2.2.1
 have:=k.qV.2.2.2.1
 omega
theorem oQ{k:Nat}{z:Zt}(h:ZI k z)(n:N)(l:List C):(cg z n l).length≤1000∧(gg (cu n l) (cu z.n z.l)).length+z.own.length≤1000∧z.own.length≤1000:=by
 have h1:=(lY h).length_eq
 rw[ix,List.length_append,List.length_append]at h1
 have h2:=h.keep.qV.2.2.2.1
 have h3:(gg (cu n l) (cu z.n z.l)).length≤(cu z.n z.l).length:=by unfold gg;exact List.length_filter_le _ _
 unfold cg
 rw[List.length_append]
 omega
def QR(z:Zt)(n:N)(l:List C)(p:Pl)(W:List (Int×ByteArray)):List (Int×ByteArray):=W++(fy z n l p).zip (gM (listed (o6 z n l p)) (fy z n l p))
theorem QV(w0:W0){k:Nat}{z:Zt}{n:N}{l:List C}{q t:Int}{hd:Bool}(S:St)(hz:ZI k z)(hv:ZV k z n l)(hk:k≤116)(hq0:0≤q)(hq:q≤1000)(hf:¬mO z n l q (release z.p t hd)):
 aa Tryz.prog w0 13 [eZ z,eV n l,dI q,dU t,dB hd] S (fun d S'=>d= .bD [eZ z,.sl 0 true [],.sl 0 true [],dB false]∧S'=S):=by
 have ks:=fM hz.keep
 have kr:=fM (pJ hz.keep t hd)
 obtain⟨b1,b2,b3⟩:=oQ hz n l
 refine Ww w0 z n l q t hd S (release z.p t hd) ⟨hz.bE.1,by have:=hz.bE.2;omega⟩ (fun S=>y9 w0 z.p t hd S (by omega) (by omega)) fun S=>?_
 have:=wj w0 k z.n z.l n l z.own (release z.p t hd) q S hz.vi hv.vi hk (by omega) (by omega) (by omega) (by omega) (by omega) (by omega) (by omega)
 have e:decide ((mX (n,l) (release z.p t hd) ((gg (cu n l) (cu z.n z.l)).length+z.own.length):Int)≤du (release z.p t hd) q)=false:=decide_eq_false fun h=>hf (by unfold mO cg;rw[List.length_append];exact h)
 rw[e]at this
 exact this
def XR(n:N)(l:List C)(q:List Int)(M:N)(X:List C)(R:List Int)(W:List (Int×ByteArray)):Prop:=∃V,X=(eP l n q).l∧W=(eP l n q).w++V∧bq (eP l n q).n ((eP l n q).q,[])=(M,(R,V))
theorem QK(w0:W0)(hg:fw w0){k:Nat}{z:Zt}{n:N}{l:List C}{q t:Int}{hd:Bool}(hz:ZI k z)(hv:ZV k z n l)(hk:k≤115)(hq0:0≤q)(hq:q≤1000)(hf:mO z n l q (release z.p t hd)):
 ∃M X R W,PA k n l (cX (release z.p t hd) (eJ (n,l))) M X R W∧PO k z n l q (release z.p t hd) M X∧XR n l (cX (release z.p t hd) (eJ (n,l))) M X R W∧∀S,
  aa Tryz.prog w0 13 [eZ z,eV n l,dI q,dU t,dB hd] S (fun d S'=>d= .bD [eZ (lT z n l (release z.p t hd) M X),.sl 2 false ((QR z n l (release z.p t hd) W).map nH),fC (mE (lT z n l (release z.p t hd) M X).label (lT z n l (release z.p t hd) M X).bE (lT z n l (release z.p t hd) M X).root (lT z n l (release z.p t hd) M X).nT (lT z n l (release z.p t hd) M X).high),dB true]∧S'=S):=by
 have ks:=fM hz.keep
 have kp:=pJ hz.keep t hd
 have kr:=fM kp
 obtain⟨b1,b2,b3⟩:=oQ hz n l
 have hrel:=fun S=>y9 w0 z.p t hd S (by omega) (by omega)
 have hfi:=fun S=>wj w0 k z.n z.l n l z.own (release z.p t hd) q S hz.vi hv.vi (by omega) (by omega) (by omega) (by omega) (by omega) (by omega) (by omega) (by omega)
 have e:decide ((mX (n,l) (release z.p t hd) ((gg (cu n l) (cu z.n z.l)).length+z.own.length):Int)≤du (release z.p t hd) q)=true:=decide_eq_true (by unfold mO cg at hf;rw[List.length_append]at hf;exact hf)
 rw[e]at hfi
 have hph:(release z.p t hd).high=z.p.high:=rfl
 generalize release z.p t hd=p at*
 have hm1:may p q (eJ (n,l)):=by
  have hfit:mX (n,l) p (cg z n l).length=eJ (n,l)+oY (p.free.length-eJ (n,l)) (nW p.wait+(cg z n l).length):=rfl
  unfold mO at hf
  rw[hfit]at hf
  exact⟨by omega,by omega⟩
 have hmt:=sK hm1 hq
 have hpv:=Rh hz hv kp hmt
 obtain⟨hmC,hbC,M,R,V,hld,hpa⟩:=JR hpv
 have hpo:=Po hz hv kp hph hq hf hpa
 refine⟨M,(eP l n (cX p (eJ (n,l)))).l,R,(eP l n (cX p (eJ (n,l)))).w++V,hpa,hpo,⟨V,rfl,rfl,hld.eq⟩,fun S=>?_⟩
 have htl:(cX p (eJ (n,l))).length=eJ (n,l):=by rw[nj];omega
 have hfl:eJ (n,l)≤1000:=by
  have h1:=tJ kp
  rw[lU]at h1
  have h2:=hm1.2
  unfold du at h2
  split at h2 <;>omega
 obtain⟨t1,t2,t3⟩:=kU kp hmt
 have k2:=fM t3
 generalize hC:eP l n (cX p (eJ (n,l)))=C at*
 have hback:=hpo.back
 obtain⟨b4,b5,b6⟩:=oQ hz M C.l
 have hg1:=wL (l:=cg z n l) t3.old
 have hp3:mj (take p (eJ (n,l))) (z.bE+1) (cg z n l)=nv z n l p:=rfl
 have hp4:take (nv z n l p) (vu z n l p)=o6 z n l p:=rfl
 have hp5:cX (nv z n l p) (vu z n l p)=fy z n l p:=rfl
 rw[hp3]at hg1
 obtain⟨g1,g2,g3⟩:=hg1
 have k4:=fM hpo.zi.keep
 have hm2:=hpo.m2
 have hw3:(nv z n l p).wait.length≤1000:=k4.2.1
 have hf3:(nv z n l p).free.length≤1000:=by rw[g1];omega
 have h4a:(o6 z n l p).free.length+nW (o6 z n l p).wait≤1000:=k4.1
 have h4b:(o6 z n l p).wait.length≤1000:=k4.2.1
 have hCq:C.q.length≤1000:=by
  have:=(xF hpv l.length (Nat.le_refl _)).left
  rw[List.take_length,hC]at this
  rw[this,List.length_drop];omega
 have hwl:(C.w++V).length≤1000:=by
  have:=congrArg List.length hpa.wr
  rw[List.length_map,List.length_take]at this;omega
 have hol:(fy z n l p).length≤3000:=by
  rw[←hp5,nj]
  have h2:=hm2.2
  unfold du at h2
  split at h2 <;>omega
 have hlz:(gM (listed (o6 z n l p)) (fy z n l p)).length=(fy z n l p).length:=rk _ _
 have hpv2:VI k M C.l:=hpa.vi
 let z0:Zt:={z with bE:=z.bE+1,n:=n,l:=l,own:=[],p:=p}
 let X:Nat→Sg:=fun i=>match i with
  |0=>⟨z0,.sl 0 true [],.sl 0 true [],[]⟩
  |1=>⟨z0,.sl 0 true [],.sl 0 true [],[]⟩
  |2=>⟨{z0 with p:=take p (eJ (n,l))},.sl 0 true [],dL (cX p (eJ (n,l))),[]⟩
  |3=>⟨{z0 with p:=take p (eJ (n,l)),n:=C.n,l:=C.l},.sl 0 true [],dL C.q,C.w⟩
  |4=>⟨{z0 with p:=take p (eJ (n,l)),n:=M,l:=C.l,root:=M.aq},.sl 0 true [],dL R,C.w++V⟩
  |5=>⟨{z0 with p:=nv z n l p,n:=M,l:=C.l,root:=M.aq},.sl 0 true [],dL R,C.w++V⟩
  |_=>⟨lT z n l p M C.l,dL (fy z n l p),dL R,QR z n l p (C.w++V)⟩
 have hmo:=FB hpo.zi rfl
 refine Wb w0 hg z n l q t hd S p X ⟨hz.bE.1,by have:=hz.bE.2;omega⟩ hrel rfl rfl ?_ ?_ ?_ ?_ ?_ ?_ ?_
 ·have hx:=hpo.zi
  exact⟨hx.label,⟨by have:=hz.bE.1;show 0<z.bE+1;omega,by have:=hx.bE.2;show z.bE+1≤_;have h2:z.bE+1≤((k+1:Nat):Int):=this;omega⟩,hmo.2.2.2,hmo.1,hmo.2.1,hmo.2.2.1⟩
 ·intro S b lw h
  refine aa.mono (Rs w0 h true hfi) fun d S' e=>⟨e.1,?_⟩
  rw[e.2];exact(MI h).symm
 ·intro S b lw h
  exact Wa w0 (eJ (n,l)) h (take p (eJ (n,l))) (cX p (eJ (n,l))) true (fun S=>uK w0 k n l S hv.vi (by omega)) fun S=>Q9 w0 p q _ S hm1 (by omega) (by omega) (by omega) (by omega) (by omega)
 ·intro S b lw h
  have:=Ky w0 hg k (by omega) (cX p (eJ (n,l))) (by omega) (z:=(X 2).z) hpv h
  rw[show eP (X 2).z.l (X 2).z.n (cX p (eJ (n,l)))=C from hC]at this
  exact this
 ·intro S b lw h
  refine YO w0 C.q R M V h (by rw[List.length_append]at hwl;show C.w.length+V.length≤_;omega) fun S=>?_
  have:=U4 w0 hg C.n C.q S (AQ hbC (by omega)) (by omega)
  rw[Mb hmC hld]at this
  exact this
 ·intro S b lw h
  refine WX w0 (gg (cu M C.l) (cu z.n z.l)) h (by omega) (nv z n l p) (fun S=>vD w0 k z.n z.l M C.l S hz.vi hpv2 (by omega)) fun S=>?_
  have:=VU w0 (take p (eJ (n,l))) (z.bE+1) (cg z n l) S (by omega) (by omega)
  rw[hp3,←hback]at this
  exact this
 ·intro S b lw h
  have hzz:((QR z n l p (C.w++V))=(C.w++V)++(fy z n l p).zip (gM (listed (o6 z n l p)) (fy z n l p))):=rfl
  refine Wd w0 h (nW (nv z n l p).wait) (vu z n l p) (o6 z n l p) (fy z n l p) (listed (o6 z n l p)) (gM (listed (o6 z n l p)) (fy z n l p)) (by rw[hlz];show(C.w++V).length+_≤_;omega) hlz (by show(nv z n l p).free.length≤_;omega) (fun S=>waiting w0 (nv z n l p) S (by omega) (by omega)) (fun S=>?_) (fun S=>?_) (fun S=>yk w0 (o6 z n l p) S (by omega) (by omega)) fun S=>N2 w0 hg _ _ S (by rw[lU];omega) (by omega) hpo.row hpo.many hpo.nd hpo.re
  ·have:=Bx w0 ((nv z n l p).free.length:Int) (nW (nv z n l p).wait:Int) S (by omega) (by omega) (by omega) (by omega)
   rw[Int.toNat_natCast,Int.toNat_natCast]at this
   exact this
  ·have:=Q9 w0 (nv z n l p) q (vu z n l p) S hm2 (by omega) (by omega) (by omega) (by omega) (by omega)
   exact this
theorem WM(w0:W0)(label:Int)(S:St):aa Tryz.prog w0 9 [dI label] S (fun d S'=>d=eZ (z0 label)∧S'=S):=by
 refine aZ [] mx Tryz.func9 rfl rfl (by kernel_rfl) ?_;(refine @ab _ ?_;refine an @Tryz.ntmps9 ?_)
 intro b
 refine ao (Tk w0 _) ?_
 (refine @ab _ ?_;refine au ?_)
 exact .agg (.cons (.refl _) (.cons (.refl _) (.cons (.refl _) (.cons (.refl _) (.cons (.refl _) (.cons (.refl _) (.cons (.refl _) (.cons (.refl _) (.cons (.refl _) (.cons (.refl _) (.cons (.refl _) (.cons (.nil _ _ _) (.cons (.refl _) (.cons (.nil _ _ _) (.cons (.nil _ _ _) .nil)))))))))))))))
theorem LU(w0:W0){k:Nat}{z:Zt}(S:St)(hz:ZI k z)(hk:k≤116):aa Tryz.prog w0 18 [eZ z] S (fun d S'=>d=dB true∧S'=S):=by
 have ks:=fM hz.keep
 have hL:=(lY hz).length_eq
 have hS:=HU hz
 rw[ix,List.length_append,List.length_append]at hL
 have efl:flat [cu z.n z.l,z.own,listed z.p]=cu z.n z.l++z.own++listed z.p:=by simp[flat]
 have hcc:=fun S=>concat w0 [cu z.n z.l,z.own,listed z.p] S (by simp) (by rw[efl,List.length_append,List.length_append];omega)
 rw[efl]at hcc
 have hhi:=hz.high
 have hch:=fun S=>check w0 z.p 1000 S (by omega) (by omega)
 have hc1:pB (F7 z.p 1000)=true:=by unfold pB;exact @decide_eq_true _ (Classical.propDecidable _) hz.keep.qV
 rw[hc1]at hch
 refine aZ [1] mx Tryz.func18 rfl rfl (by kernel_rfl) ?_;(refine @ab _ ?_;refine an @Tryz.ntmps18 ?_)
 intro b1
 refine Y.l8 [] [9] [0,3,5,1,2,4,6,7,8,9,10] mx (by kernel_rfl) ?_
 (refine @ab _ ?_;refine au ?_)
 refine Y.tc (fun T _=>CF w0 k z.n z.l T hz.vi hk) ?_
 (refine @ab _ ?_;refine au ?_)
 refine Y.tc (fun T _=>yk w0 z.p T (by omega) (by omega)) ?_
 (refine @ab _ ?_;refine au ?_)
 refine Wh (hcc _) ?_ (.cons (Wk.full _ _ _) .nil)
 intro m
 (refine @ab _ ?_;refine au ?_)
 have eA:(cu z.n z.l).length+z.own.length+(listed z.p).length=(cu z.n z.l++z.own++listed z.p).length:=by rw[List.length_append,List.length_append]
 rw[eA]
 rw[eA]at hL
 generalize cu z.n z.l++z.own++listed z.p=A at*
 refine .inl ?_
 refine nL (mS w0 (l:=m.n) (zs:=A) (by(refine @ab _ ?_;exact aV)) (by omega)) ?_
 rw[hS]
 (refine @ab _ ?_;refine au ?_)
 have TT:(bQ 2 (z.p.high-2).toNat).length=A.length:=by rw[ix,hL]
 refine aF [] A.length [1,3,18,19,20] (fun k=>[(20,dI k)]) (fun _=>⟨(b1.n,dI z.label::dU z.bE::dI z.root::dI z.nT::dI z.high::dI z.n.aq::dB z.n.leaf:: .sl 1 false (z.n.l.map fun c=>dS c.key):: .sl 2 false ((if z.n.leaf then z.n.l else []).map fS):: .sl 5 false ((aN z.n).map dT)::yp z.l::dL z.own::dI z.p.high:: .sl 1 false (z.p.free.map dI):: .sl 2 false (z.p.wait.map dW)::[])::S.box,(m.n,.arr 1 ((bQ 2 (z.p.high-2).toNat).map dI))::S.acc⟩) (fun _=>True) mx (by kernel_rfl) ?_ ?_
 ·(refine @ab _ ?_;exact aV)
 ·intro j hj _
  have ej:IntKind.i64.wrap ((j:Int)+1)=((j+1:Nat):Int):=by rw[aX (by omega) (by omega)];omega
  have e2:IntKind.i64.wrap (2+(j:Int))=2+(j:Int):=by rw[aX (by omega) (by omega)]
  have e3:IntKind.i64.wrap (z.p.high-2)=((A.length:Nat):Int):=by rw[aX (by omega) (by omega)];omega
  (refine @ab _ ?_;refine DW @ej @e2 @e3 @hhi ?_)
  refine⟨fun hlt=>⟨hlt,TT,by omega,fun a ha=>?_⟩,fun hge=>ao (hch _) ?_⟩
  ·have:=LP ha
   exact⟨fun h=>h this,fun _=>hlt⟩
  ·(refine @ab _ ?_;refine au ?_)
   try trivial
def mn(s:Sp):Bool:=decide (s.name.size≤40)&&decide (s.key.size≤40)&&decide (s.size≤400)
def mH(l:List Sp):Bool:=l.all mn&&decide (l.length≤70)
theorem OC{l:List Sp}{k:Nat}{a:Sp}(ha:l[k]? =some a)(h:mn a=false):mH l=false:=by
 unfold mH
 rw[List.all_eq_false.2 ⟨a,List.mem_of_getElem? ha,by rw[h];simp⟩];rfl
theorem Pz(w0:W0)(l:List Sp)(S:St)(hl:l.length≤1048576):aa Tryz.prog w0 8 [.sl 4 false (l.map W6)] S (fun d S'=>d=dB (mH l)∧S'=S):=by
 have hno:=fun k a=>OC (l:=l) (k:=k) (a:=a)
 have hyes:l.all mn=true→mH l=decide (l.length≤70):=fun e=>by unfold mH;rw[e];rfl
 generalize mH l=R at*
 refine aZ [] mx Tryz.func8 rfl rfl (by kernel_rfl) ?_;(refine @ab _ ?_;refine an @Tryz.ntmps8 ?_)
 refine aF [] l.length [0,3] (fun k=>[(3,dI k)]) (fun _=>S) (fun k=>(l.take k).all mn=true) mx (by kernel_rfl) ?_ ?_
 ·(refine @ab _ ?_;exact aV)
 ·intro k hk ha
  (refine @ab _ ?_;refine au ?_)
  refine⟨fun h=>⟨h,fun a e=>⟨fun q=>(hno k a e (by unfold mn;rw[decide_eq_false (by omega)];rfl)).symm,fun q1=>⟨h,fun a' e'=>?_⟩⟩⟩,fun h=>?_⟩
  ·cases eE e e'
   refine⟨fun q=>(hno k a e (by unfold mn;rw[decide_eq_false (p:=a.key.size≤40) (by omega),Bool.and_false];rfl)).symm,fun q2=>⟨h,fun a' e'=>?_⟩⟩
   cases eE e e'
   refine⟨fun q=>(hno k a e (by unfold mn;rw[decide_eq_false (p:=a.size≤400) (by omega),Bool.and_false])).symm,fun q3=>⟨h,?_,cm k (by omega)⟩⟩
   rw[List.take_add_one,e,List.all_append,ha]
   simp only[Option.toList_some,List.all_cons,List.all_nil,Bool.and_true,Bool.true_and]
   unfold mn
   rw[decide_eq_true (by omega),decide_eq_true (by omega),decide_eq_true (by omega)];rfl
  ·have:k=l.length:=by omega
   rw[this,List.take_length]at ha
   rw[hyes ha,Bool.eq_iff_iff,decide_eq_true_iff,decide_eq_true_iff];omega
theorem Jj(w0:W0)(k:Nat)(n:N)(l:List C)(s:Sp)(S:St)(h:VI k n l)(hk:k≤116)(hs:s.size≤400):aa Tryz.prog w0 11 [eV n l,W6 s] S (fun d S'=>d=eV (ma s (n,l)).1 (ma s (n,l)).2∧S'=S):=by
 have hmk:=fun S=>QT w0 k s.name n l S h hk
 have hdr:=fun S=>WQ w0 k s.name n l S h hk
 have hpu:=fun v S=>VZ w0 k s.name s.key v n l S h hk
 have hde:=fun S=>Qc w0 k s.name s.key n l S h hk
 have e1:(if s.size<0 then 0 else s.size)=(s.size.toNat:Int):=by split <;>omega
 have q0:s.kind=0→ma s (n,l)=(mG s.name n l).1:=fun e=>by unfold ma;rw[if_pos e]
 have q1:¬s.kind=0→s.kind=1→ma s (n,l)=(wQ s.name n l).1:=fun a e=>by unfold ma;rw[if_neg a,if_pos e]
 have q2:¬s.kind=0→¬s.kind=1→s.kind=2→ma s (n,l)=(sc s.name s.key (strOfNums (List.replicate s.size.toNat 0)) n l).1:=fun a c e=>by unfold ma;rw[if_neg a,if_neg c,if_pos e]
 have q3:¬s.kind=0→¬s.kind=1→¬s.kind=2→s.kind=3→ma s (n,l)=(Nr s.name s.key n l).1:=fun a c d e=>by unfold ma;rw[if_neg a,if_neg c,if_neg d,if_pos e]
 have q4:¬s.kind=0→¬s.kind=1→¬s.kind=2→¬s.kind=3→ma s (n,l)=(n,l):=fun a c d e=>by unfold ma;rw[if_neg a,if_neg c,if_neg d,if_neg e]
 generalize ma s (n,l)=R at*
 refine aZ [7] mx Tryz.func11 rfl rfl (by kernel_rfl) ?_;(refine @ab _ ?_;refine an @Tryz.ntmps11 ?_)
 intro b b1 b2
 refine⟨fun h0=>ao (hmk _) ?_,fun h0=>⟨fun h1=>ao (hdr _) ?_,fun h1=>⟨fun h2=>?_,fun h2=>⟨fun h3=>ao (hde _) ?_,fun h3=>?_⟩⟩⟩⟩
 ·rw[q0 h0];(refine @ab _ ?_;exact aV)
 ·rw[q1 h0 h1];(refine @ab _ ?_;exact aV)
 ·refine Y.l8 [8,9] [] [1,3,5,0,2,4,6,7,8,9,10,11,12,13,14] mx (by kernel_rfl) ?_
  rw[q2 h0 h1 h2]
  (refine @ab _ ?_;refine an @e1 ?_)
  refine⟨by omega,by omega,fun b3=>⟨List.length_replicate,Y.tc (fun T _=>hpu _ T) ?_⟩⟩
  (refine @ab _ ?_;exact aV)
 ·rw[q3 h0 h1 h2 h3];(refine @ab _ ?_;exact aV)
 ·rw[q4 h0 h1 h2 h3];exact .refl _
def kB:ByteArray:={data:= #[98]}
def kK:ByteArray:={data:= #[107]}
def kV:ByteArray:={data:= #[118]}
theorem Yv:eJ (sc kB kK kV (mG kB l5 []).1.1 (mG kB l5 []).1.2).1=2:=by kernel_rfl
theorem Ac{n:N}{l:List C}(h:((gS n l).flatMap fun n=>me (dj qC n))=[]):cu n l=[]:=by
 have h2:(flat ((gS n l).map iV)).length=0:=by
  unfold flat
  rw[List.length_flatten,List.map_map]
  have:∀V:List N,(V.flatMap fun n=>me (dj qC n))=[]→(V.map (List.length∘iV)).sum=0:=fun V=>by
   induction V with
   |nil=>intro _;rfl
   |cons a V ih=>
    intro h
    rw[List.flatMap_cons,List.append_eq_nil_iff]at h
    rw[List.map_cons,List.sum_cons,ih h.2]
    show(iV a).length+0=0
    unfold iV
    rw[bc,h.1];rfl
  exact this _ h
 unfold cu
 exact List.eq_nil_of_length_eq_zero (by rw[bc];exact h2)
theorem Y0:cu (sc kB kK kV (mG kB l5 []).1.1 (mG kB l5 []).1.2).1.1 (sc kB kK kV (mG kB l5 []).1.1 (mG kB l5 []).1.2).1.2=[]:=Ac (by kernel_rfl)
theorem YM:cu l5 []=[]:=Ac (by kernel_rfl)
theorem sC{k m:Nat}{z:Zt}(h:ZI k z)(hm:k≤m):ZI m z:=⟨fD h.vi hm,h.tv,h.fr,h.cl,h.nd,h.re,h.keep,h.high,h.root,⟨h.bE.1,by have:=h.bE.2;omega⟩,h.label⟩
theorem BH(a t r l h:Int):(mE a t r l h).size=128:=by
 unfold mE
 refine je _ ?_
 simp only[bO,List.map_cons,List.map_nil,List.sum_cons,List.sum_nil,jn];omega
theorem VN{j k:Nat}{z:Zt}{q:N×List C}(hz:ZI j z)(hj:j≤k)(hk:k≤116)(h:ZV k z q.1 q.2)(name key val:ByteArray):ZV (k+1) z (sc name key val q.1 q.2).1.1 (sc name key val q.1 q.2).1.2:=by
 have hb:=Ro hz h hj
 refine Ae (QH hb hk name key val) ?_
 unfold sc
 split
 ·rename_i hc
  simp only[Bool.and_eq_true,decide_eq_true_eq]at hc
  obtain⟨hne,hsz⟩:=dt hc.1
  exact Jk h.vi hk h.cl name _ fun t ht=>tB ht hk hne hsz hc.2
 ·exact h.cl
theorem Np:cX ⟨2,[],[]⟩ 2=[2,3]:=by kernel_rfl
theorem OJ(w0:W0)(hg:fw w0)(S:St):aa Tryz.prog w0 7 [] S (fun d S'=>d=dB true∧S'=S):=by
 have v0:=Rg 0
 have v1:=J8 v0 (by omega) kB
 have hz:=EH (label:=3) (by omega)
 have z0v:=hz.zv
 have z1:ZV 1 (z0 3) (mG kB l5 []).1.1 (mG kB l5 []).1.2:=ME (q:=(l5,[])) hz (Nat.le_refl 0) (by omega) z0v ⟨0,kB,aJ,0⟩
 have z2:=VN (q:=(mG kB l5 []).1) hz (Nat.zero_le 1) (by omega) z1 kB kK kV
 have w1:=fun S=>QT w0 0 kB l5 [] S v0 (by omega)
 have w2:=fun S=>VZ w0 1 kB kK kV (mG kB l5 []).1.1 (mG kB l5 []).1.2 S v1 (by omega)
 have hf:=Yv
 have hp:=Y0
 generalize sc kB kK kV (mG kB l5 []).1.1 (mG kB l5 []).1.2=Q at*
 generalize mG kB l5 []=R at*
 have hz2:=sC hz (show 0≤2 by omega)
 have hfq:eJ (Q.1.1,Q.1.2)=2:=hf
 have hrel:release (z0 3).p 0 false=⟨2,[],[]⟩:=by kernel_rfl
 have hbk:cg (z0 3) Q.1.1 Q.1.2=[]:=by unfold cg;rw[show cu (z0 3).n (z0 3).l=[]from YM];rfl
 have hnd:mX (Q.1.1,Q.1.2) ⟨2,[],[]⟩ (cg (z0 3) Q.1.1 Q.1.2).length=2:=by
  rw[hbk];unfold mX;rw[hfq];kernel_rfl
 obtain⟨M,X,R1,W,hpa,hpo,_,w4⟩:=QK w0 hg (q:=4) (t:=0) (hd:=false) hz2 z2 (by omega) (by omega) (by omega) (by unfold mO;rw[hrel,hnd];decide)
 have w3:=fun S=>QV w0 (q:=3) (t:=0) (hd:=false) S hz2 z2 (by omega) (by omega) (by omega) (by unfold mO;rw[hrel,hnd];decide)
 rw[hrel]at hpa hpo w4
 have hfi:((eJ (Q.1.1,Q.1.2):Nat):Int)=2:=by rw[hfq];rfl
 have hp3:nv (z0 3) Q.1.1 Q.1.2 ⟨2,[],[]⟩=⟨4,[],[]⟩:=by unfold nv;rw[hbk,hfi];kernel_rfl
 have hm2:vu (z0 3) Q.1.1 Q.1.2 ⟨2,[],[]⟩=0:=by unfold vu;rw[hp3];kernel_rfl
 have hown:fy (z0 3) Q.1.1 Q.1.2 ⟨2,[],[]⟩=[]:=by unfold fy;rw[hp3,hm2];kernel_rfl
 have hp4:o6 (z0 3) Q.1.1 Q.1.2 ⟨2,[],[]⟩=⟨4,[],[]⟩:=by unfold o6;rw[hp3,hm2];kernel_rfl
 have hwr:=hpa.wr
 rw[hfi,Np,hfq]at hwr
 obtain⟨A,bL,hW⟩:=hpa.last (by rw[hfq];omega)
 have hws:QR (z0 3) Q.1.1 Q.1.2 ⟨2,[],[]⟩ W=W:=by unfold QR;rw[hown];exact List.append_nil _
 obtain⟨x,y,hW2,hM⟩:∃x y,W=[(2,x),(3,y)]∧M.aq=3:=by
  match W,hwr with
  |[(_,x),(_,y)],hwr=>
   simp only[List.map_cons,List.map_nil,List.take_succ_cons,List.take_zero,List.cons.injEq,and_true]at hwr
   obtain⟨rfl,rfl⟩:=hwr
   refine⟨x,y,rfl,?_⟩
   match A,hW with
   |[a],hW=>simp only[List.cons_append,List.nil_append,List.cons.injEq,Prod.mk.injEq,and_true]at hW;exact hW.2.1.symm
   |[],hW=>simp at hW
   |_::_::_,hW=>simp at hW
 have wh1:=fun S=>LU w0 S hpo.zi (by omega)
 have wh0:=fun S=>LU w0 S hz (by omega)
 have hN:lT (z0 3) Q.1.1 Q.1.2 ⟨2,[],[]⟩ M X=⟨3,1,3,0,4,M,X,[],⟨4,[],[]⟩⟩:=by
  unfold lT;rw[hown,hp4,hM];rfl
 rw[hN]at w4 wh1
 rw[hws,hW2]at w4
 have hms:=BH 3 1 3 0 4
 generalize mE 3 1 3 0 4=ms at*
 unfold kB kK kV at*
 refine aZ [] mx Tryz.func7 rfl rfl (by kernel_rfl) ?_;(refine @ab _ ?_;refine an @Tryz.ntmps7 ?_)
 refine ao (WM w0 3 _) ?_
 (refine @ab _ ?_;refine au ?_)
 intro b1
 refine ao (w1 _) ?_
 (refine @ab _ ?_;refine au ?_)
 intro b2
 refine ao (w2 _) ?_
 (refine @ab _ ?_;refine au ?_)
 intro b3
 refine ao (w4 _) ?_
 (refine @ab _ ?_;refine au ?_)
 intro b4
 refine ao (w3 _) ?_
 (refine @ab _ ?_;refine au ?_)
 intro b5
 have hml:((bY ms).length:Int)=128:=by rw[bg,hms];rfl
 refine⟨fun _=>ao (wh1 _) ?_,fun h=>absurd hml h⟩
 (refine @ab _ ?_;refine au ?_)
 refine ao (wh0 _) ?_
 (refine @ab _ ?_;refine au ?_)
 trivial
end Go.Proofs.YtpjenciplibdnaaGreatDoor
namespace Go.Proofs.YtpjenciplibdnaaGreatDoor
open Aml Go
end Go.Proofs.YtpjenciplibdnaaGreatDoor
namespace Go.Proofs.YtpjenciplibdnaaGreatDoor
open Aml Go
structure Ms where
 j:Nat
 z:Zt
 n:N
 l:List C
structure MsI(m:Nat)(label:Int)(s:Ms):Prop where
 le:s.j≤m
 zi:ZI s.j s.z
 zv:ZV s.j s.z s.n s.l
 lb:s.z.label=label
@[go_sem] def XV (n:N) (l:List C):List DV:=dI n.aq::dB n.leaf:: .sl 1 false (n.l.map fun c=>dS c.key):: .sl 2 false ((if n.leaf then n.l else []).map fS):: .sl 5 false ((aN n).map dT):: .sl 6 false (l.map lP)::[]
@[go_sem] def UU (z:Zt):List DV:=dI z.label::dU z.bE::dI z.root::dI z.nT::dI z.high::dI z.n.aq::dB z.n.leaf:: .sl 1 false (z.n.l.map fun c=>dS c.key):: .sl 2 false ((if z.n.leaf then z.n.l else []).map fS):: .sl 5 false ((aN z.n).map dT):: .sl 6 false (z.l.map lP)::dL z.own::dI z.p.high:: .sl 1 false (z.p.free.map dI):: .sl 2 false (z.p.wait.map dW)::[]
theorem RA{z:Zt}{n:N}{l:List C}{p:Pl}{W:List (Int×ByteArray)}:(QR z n l p W).map (·.1)=W.map (·.1)++fy z n l p:=by
 unfold QR
 rw[List.map_append]
 congr 1
 exact List.map_fst_zip (Nat.le_of_eq (rk _ _).symm)
theorem Jg(w0:W0)(hg:fw w0)(l:List Sp)(q:Int)(S:St)(hl:l.length≤1048576)(hq:0≤q∧q≤65535):aa Tryz.prog w0 6 [.sl 4 false (l.map W6),.v (.int .u16 q)] S (fun d S'=>d=dB true∧S'=S):=by
 have haw:=fun S=>OJ w0 hg S
 have hsm:=fun S=>Pz w0 l S hl
 have hz:=EH (label:=9) (by omega)
 cases hsl:mH l with
 |false=>
  rw[hsl]at hsm
  refine aZ [] mx Tryz.func6 rfl rfl (by kernel_rfl) ?_;(refine @ab _ ?_;refine an @Tryz.ntmps6 ?_)
  refine ao (haw _) ?_
  (refine @ab _ ?_;refine au ?_)
  refine ao (hsm _) ?_
  (refine @ab _ ?_;exact aV)
 |true=>
  rw[hsl]at hsm
  unfold mH at hsl
  rw[Bool.and_eq_true,decide_eq_true_eq,List.all_eq_true]at hsl
  obtain⟨hs1,hs2⟩:=hsl
  have hsz:∀s,s∈l→s.size≤400:=fun s h=>by
   have:=hs1 s h
   unfold mn at this
   rw[Bool.and_eq_true,Bool.and_eq_true,decide_eq_true_eq,decide_eq_true_eq,decide_eq_true_eq]at this
   exact this.2
  refine aZ [27] mx Tryz.func6 rfl rfl (by kernel_rfl) ?_;(refine @ab _ ?_;refine an @Tryz.ntmps6 ?_)
  refine ao (haw _) ?_
  (refine @ab _ ?_;refine au ?_)
  refine ao (hsm _) ?_
  (refine @ab _ ?_;refine au ?_)
  refine ao (WM w0 9 _) ?_
  (refine @ab _ ?_;refine au ?_)
  intro b5 b6
  have hQ:∃Q:Int,IntKind.i64.wrap (IntKind.i64.wrap (q.tmod 1000)+1)=Q∧0≤Q∧Q≤1000:=by
   have h1:q.tmod 1000=q%1000:=Int.tmod_eq_emod_of_nonneg hq.1
   rw[h1,aX (n:=q%1000) (by omega) (by omega),aX (by omega) (by omega)]
   exact⟨_,rfl,by omega,by omega⟩
  obtain⟨Q,hQ,hQ0,hQ1⟩:=hQ
  rw[hQ]
  clear hQ
  refine jR [27] [0,7,8,9,10] (fun s:Ms=>[(10,dI s.j)]) (fun s=>⟨(b6.n,XV s.n s.l)::(b5.n,UU s.z)::S.box,S.acc⟩) (MsI l.length 9) (fun s=>l.length-s.j) ⟨0,z0 9,(z0 9).n,(z0 9).l⟩ mx (by kernel_rfl) ?_ ?_
  ·(refine @ab _ ?_;refine au ?_)
   exact⟨Nat.zero_le _,hz,hz.zv,rfl⟩
  ·rintro⟨j,z,n,v⟩ ⟨hj,hz,hv,hlb⟩
   simp only at hj hz hv hlb
   have ej:IntKind.i64.wrap ((j:Int)+1)=((j+1:Nat):Int):=by rw[aX (by omega) (by omega)];omega
   (refine @ab _ ?_;refine an @ej ?_)
   refine fun hlt=>⟨hlt,fun s hs=>⟨fun _=>⟨hlt,fun s1 hs1=>?_⟩,fun _=>?_⟩⟩
   ·rw[hs]at hs1
    obtain rfl:=Option.some.inj hs1
    refine aS (Jj w0 j n v s _ hv.vi (by omega) (hsz s (List.mem_of_getElem? hs))) ?_
    (refine @ab _ ?_;refine an @ej ?_)
    refine⟨⟨j+1,z,(ma s (n,v)).1,(ma s (n,v)).2⟩,⟨by show j+1≤_;omega,sC hz (by show j≤j+1;omega),ME (q:=(n,v)) hz (Nat.le_refl j) (by omega) hv s,hlb⟩,by show l.length-(j+1)<l.length-j;omega,?_⟩
    (refine @ab _ ?_;refine an @ej ?_)
    trivial
   ·by_cases hf:mO z n v Q (release z.p 0 false)
    ·obtain⟨M,X,R1,W,hpa,hpo,hce,w4⟩:=QK w0 hg (q:=Q) (t:=0) (hd:=false) hz hv (by omega) hQ0 hQ1 hf
     have hzi:=hpo.zi
     have hmt:=FB hzi rfl
     have hlast:=hpa.last
     have hwl:=congrArg List.length hpa.wr
     rw[List.length_map,List.length_take]at hwl
     have hwf:=RA (z:=z) (n:=n) (l:=v) (p:=release z.p 0 false) (W:=W)
     have e1:fy z n v (release z.p 0 false)=(lT z n v (release z.p 0 false) M X).own:=rfl
     have e2:(lT z n v (release z.p 0 false) M X).nT=(lT z n v (release z.p 0 false) M X).own.headD 0:=rfl
     have e3:(lT z n v (release z.p 0 false) M X).root=M.aq:=rfl
     have e4:(lT z n v (release z.p 0 false) M X).n=M:=rfl
     have e5:(lT z n v (release z.p 0 false) M X).label=9:=hlb
     have e7:(lT z n v (release z.p 0 false) M X).l=X:=rfl
     have e6:(lT z n v (release z.p 0 false) M X).bE=z.bE+1:=rfl
     rw[e1]at hwf
     generalize lT z n v (release z.p 0 false) M X=Z at*
     generalize QR z n v (release z.p 0 false) W=WS at*
     have htx:=hzi.bE
     have hz0:=hz.bE
     have hmo:pv Z.label Z.bE Z.root Z.nT Z.high:=⟨hzi.label,⟨by omega,by omega⟩,hmt.2.2.2,hmt.1,hmt.2.1,hmt.2.2.1⟩
     have hget:=fun S=>SX w0 S hmo (by omega)
     generalize mE Z.label Z.bE Z.root Z.nT Z.high=PG at*
     have hcv:=UQ PG
     have hWl:WS.length=W.length+Z.own.length:=by
      have:=congrArg List.length hwf
      rw[List.length_map,List.length_append,List.length_map]at this;exact this
     have hol:=(oQ hzi Z.n Z.l).2.2
     have hfl:W.length≤1000:=by
      have h1:=(lY hzi).length_eq
      rw[ix,List.length_append,List.length_append,(wJ hzi.vi).length_eq,e4,e7,hpa.al.length_eq,List.length_append,List.length_take]at h1
      have:=hmt.2.2.2.2
      have:=hzi.high
      omega
     have eN:IntKind.i64.wrap ((WS.length:Int)-Z.own.length)=W.length:=by rw[aX (by omega) (by omega)];omega
     refine ao (w4 _) ?_
     (refine @ab _ ?_;refine an @ej ?_)
     intro b7
     (refine @ab _ ?_;refine eW @ej @hcv.1 @hcv.2 ?_)
     refine ao (hget _) ?_
     (refine @ab _ ?_;refine ba @ej @eN ?_)
     intro b8
     refine⟨fun h=>h e5,fun _=>⟨fun h=>by omega,fun _=>?_⟩⟩
     refine aF [] Z.own.length [0,7,8,9,10,11,12,15,17,18] (fun k=>[(18,dI k)]) (fun _=>⟨(b8.n,Um Z.label Z.bE Z.root Z.nT Z.high)::(b7.n,UU Z)::(b6.n,XV n v)::(b5.n,UU z)::S.box,S.acc⟩) (fun _=>True) mx (by kernel_rfl) ?_ ?_
     ·(refine @ab _ ?_;exact aV)
     ·intro k hk _
      have ek:IntKind.i64.wrap ((k:Int)+1)=((k+1:Nat):Int):=by rw[aX (by omega) (by omega)];omega
      have ek2:IntKind.i64.wrap ((W.length:Int)+k)=((W.length+k:Nat):Int):=by rw[aX (by omega) (by omega)];omega
      (refine @ab _ ?_;refine eW @ek @ek2 @ej ?_)
      refine⟨fun hlk=>⟨by omega,fun a ha=>⟨hlk,fun a2 ha2=>⟨fun hne=>hne ?_,fun _=>hlk⟩⟩⟩,fun hge=>?_⟩
      ·have h1:=congrArg (fun l=>l[W.length+k]?) hwf
       simp only at h1
       rw[List.getElem?_map,ha,List.getElem?_append_right (by rw[List.length_map];omega),List.length_map,Nat.add_sub_cancel_left,ha2]at h1
       exact Option.some.inj h1
      ·refine Yg (σ:=Unit) [] [0,7,8,9,10,11,180] (fun _=>[(180,dB false)]) (fun _=>⟨(b8.n,Um Z.label Z.bE Z.root Z.nT Z.high)::(b7.n,UU Z)::(b6.n,XV n v)::(b5.n,UU z)::S.box,S.acc⟩) (fun _=>True) mx (by kernel_rfl) ?_ ?_
       ·(refine @ab _ ?_;refine au ?_)
        have hA:Z.root=Z.n.aq:=by rw[e3,e4]
        have hR:((W.length:Int)>0→0≤IntKind.i64.wrap ((W.length:Int)-1)∧IntKind.i64.wrap ((W.length:Int)-1)<WS.length∧∀a:Int×ByteArray,WS[(IntKind.i64.wrap ((W.length:Int)-1)).toNat]? =some a→∃s:Unit,¬¬a.fst=Z.root)∧(¬(W.length:Int)>0→∃s:Unit,True):=by
         refine⟨fun h=>?_,fun _=>⟨(),trivial⟩⟩
         rw[aX (by omega) (by omega)]
         refine⟨by omega,by omega,fun a ha=>⟨(),fun hne=>hne ?_⟩⟩
         rw[show((W.length:Int)-1).toNat=W.length-1 by omega]at ha
         have h1:=congrArg (fun l=>l[W.length-1]?) hwf
         simp only at h1
         rw[List.getElem?_map,ha,List.getElem?_append_left (by rw[List.length_map];omega)]at h1
         obtain⟨A,b,hAb⟩:=hlast (by omega)
         rw[hAb,List.length_append,List.map_append,List.getElem?_append_right (by rw[List.length_map];simp),List.length_map]at h1
         rw[show A.length+[(M.aq,b)].length-1-A.length=0 by simp]at h1
         rw[e3]
         exact Option.some.inj h1
        refine⟨fun ho=>⟨by omega,fun a ha=>⟨fun h=>absurd ?_ h,fun _=>⟨fun h=>absurd h (by omega),fun _=>⟨fun h=>absurd hA h,fun _=>hR⟩⟩⟩⟩,fun ho=>⟨fun h0=>⟨fun h=>absurd ?_ h,fun _=>⟨fun h=>absurd hA h,fun _=>hR⟩⟩,fun h0=>by omega⟩⟩
        ·rw[e2]
         cases hO:Z.own with
         |nil=>rw[hO]at ha;cases ha
         |cons x t=>rw[hO]at ha;exact Option.some.inj ha
        ·rw[e2,List.eq_nil_of_length_eq_zero (l:=Z.own) (by omega)];rfl
       ·rintro⟨⟩ _
        (refine @ab _ ?_;refine an @ej ?_)
        exact⟨⟨j+1,Z,Z.n,Z.l⟩,⟨by show j+1≤_;omega,hzi,hzi.zv,e5⟩,by show l.length-(j+1)<l.length-j;omega,rfl,.bu (.bu (.refl _))⟩
    ·have w3:=fun S=>QV w0 (q:=Q) (t:=0) (hd:=false) S hz hv (by omega) (by omega) (by omega) hf
     refine ao (w3 _) ?_
     (refine @ab _ ?_;refine an @ej ?_)
     intro b7
     exact⟨⟨j+1,z,z.n,z.l⟩,⟨by show j+1≤_;omega,sC hz (by show j≤j+1;omega),(sC hz (by show j≤j+1;omega)).zv,hlb⟩,by show l.length-(j+1)<l.length-j;omega,rfl,.bu (.refl _)⟩
end Go.Proofs.YtpjenciplibdnaaGreatDoor
namespace Go.Proofs.YtpjenciplibdnaaGreatDoor
open Aml Go Go.RowKit Go.ChangeShapes
theorem QF:Tryz.prog.globalNamed "jalousie/crc.half" =some 1:=by kernel_rfl
theorem Uc:(Tryz.prog.globals[1]?).map (·.type)=some 317:=by kernel_rfl
theorem Qk{W:World}(h:laidMetH Tryz.prog [("jalousie/crc.half",Rows.laid_jalousie_crc_half)] W):fw ⟨W,gW W⟩:=by
 have hT:Lib.TabIs Tryz.prog W "jalousie/crc.half" .u32 ub:=Lib.tabIs_of_head (rest:=[]) QF Uc Tryz.underlying317 Tryz.underlying197 (by kernel_rfl) (by kernel_rfl) h
 refine⟨fun j=>?_,fun u hu=>?_⟩
 ·show W.cell? ⟨1,j,none⟩=nN[j]?
  rw[World.var?_cell QF hT j,List.getElem?_toArray]
  rfl
 ·obtain⟨z,_,rfl⟩:=List.mem_map.1 hu
  rfl
noncomputable def qW(os:Os):World:=
 {World.holding Tryz.prog os ⟨#[], #[],[]⟩with heap:=(World.holding Tryz.prog os ⟨#[], #[],[]⟩).heap.modify 1 fun
  | .cells _ t frozen=> .cells nN.toArray t frozen
  |o=>o}
theorem YL{W:World}:Rd Tryz.prog W 58 (fun s:Sp=>[dI s.kind,dS s.name,dS s.key,dI s.size]) (fun s=>1) (fun s=>True):=by
 have h:=Gm (W:=W) Tryz.underlying58 (total:=4) (by kernel_rfl) rfl (pX (k:=1) (Mv Tryz.underlying3) rfl (by kernel_rfl) (pX (k:=1) (Kl Tryz.underlying9) rfl (by kernel_rfl) (pX (k:=1) (Kl Tryz.underlying9) rfl (by kernel_rfl) (pX (k:=1) (Mv Tryz.underlying3) rfl (by kernel_rfl) Qw))))
 exact h.conv (fun a=>⟨a.1,a.2.1,a.2.2.1,a.2.2.2.1⟩) (fun _=>rfl) (fun a=>by omega) fun _ _=>trivial
theorem Hg{α:Type}(l:List α):(l.map fun _=>1).sum=l.length:=by
 induction l with
 |nil=>rfl
 |cons a l ih=>simp only[List.map_cons,List.sum_cons,List.length_cons,ih];omega
theorem Vu{W:World}:Rd Tryz.prog W 22 (fun l:List Sp=>[.sl 4 false (l.map W6)]) (fun l=>l.length) (fun l=>True):=
 (Gp YL Tryz.underlying22 (k:=4) (by kernel_rfl) (by omega)).conv id (fun _=>rfl) (fun l=>by simp only[id,Hg];omega) fun _ _=>trivial
end Go.Proofs.YtpjenciplibdnaaGreatDoor
namespace Go.Proofs.YtpjenciplibdnaaGreatDoor
open Aml Go Go.RowKit Go.ChangeShapes Go.WideShapes Go.ChangeAt
theorem RF{W:World}{t:TypeId}(ht:Tryz.prog.underlying t=some (.int .u16)):Rd Tryz.prog W t (fun n:Int=>[.v (.int .u16 n)]) (fun _=>1) (fun n=>0≤n∧n≤65535):=
 (MA .u16 ht).conv id (fun _=>rfl) (fun _=>Nat.le_refl _) fun n h=>by
  simp[Lit.wf,IntKind.min,IntKind.max,IntKind.signed,IntKind.bits]at h
  exact h
theorem rY:ownKnob Tryz.prog.godebug=none:=by kernel_rfl
theorem mY(H:Type)(enc:TypeId×Value→H)(W:World)(base:Nat)(args:Array Value)(ds gs:List (DataW H))(before:List MemPlace)
 (hval:∀(j:Nat) t v,Tryz.f6.params[j]? =some t→args[j]? =some v→Value.okWide Tryz.prog W .any base t v)
 (hW:DataW.Whole enc Tryz.prog Tryz.f6.params.toList Rows.commitMetasSpec.vars false W args.toList ds gs before) (hk:Rows.uptoBulkAll (ds++gs)≤1048576) (hL:laidMetH Tryz.prog Rows.commitMetasUptoRow.laid W):
 Calls Tryz.prog 6 args W fun e W'=>∃v,e= .returned v∧Rows.commitMetasSpec.post enc Tryz.prog Tryz.f6 false true false false W args v W':=
 ve (w0:=⟨W,gW W⟩) rfl (.refl _) enc (ts:=[22,23]) (tb:=4) (Fq Vu (by kernel_rfl) (Fq (RF Tryz.underlying23) (by kernel_rfl) NV)) Tryz.params6 rfl Tryz.underlying4 rfl (by kernel_rfl) (by intro t ht;revert t;decide +kernel) (fun ds hd=>by
  first
  |(match ds,hd with|[_],_=>rfl)
  |(match ds,hd with|[_,_],_=>rfl)
  |(match ds,hd with|[_,_,_],_=>rfl)
  |(match ds,hd with|[_,_,_,_],_=>rfl)) (fun a ha hs=>(Jg ⟨W,gW W⟩ (Qk hL) a.1 a.2.1 ⟨[],[]⟩ (by omega) ha.2.1).mono fun d S' h=>h.1) base args ds gs before hval hW hk
theorem rP(os:Os):laidMet Tryz.prog Rows.commitMetasUptoRow.laid ((qW os).forCall (fun _ _=>0) ⟨#[], #[.slice none 0 0,.int .u16 0],[]⟩).memory:=
 laidMet_of_run' 8 (by kernel_rfl) (by kernel_rfl)
theorem o0(os:Os){H:Type}(enc:TypeId×Value→H):∃places,DataW.whole enc Tryz.prog ((qW os).forCall (fun _ _=>0) ⟨#[], #[.slice none 0 0,.int .u16 0],[]⟩).memory Tryz.f6.params.toList Rows.commitMetasSpec.vars false (#[.slice none 0 0,.int .u16 0]:Array Value).toList 8=some ([.nil,.lit (.int .u16 0)],[],places):=
 ⟨[],by kernel_rfl⟩
theorem oM(os:Os)(started:os.Started)(H:Type)(enc:TypeId×Value→H)(F:Stop.Interp):
 ReturnsInHanded {} Tryz.checked os 6 .any ((Rows.OpenSpec.upto Rows.commitMetasSpec).preRow enc Tryz.prog Tryz.f6 Rows.commitMetasUptoRow.domain false Rows.commitMetasUptoRow.laid) (((Rows.OpenSpec.upto Rows.commitMetasSpec).at F).post enc Tryz.prog Tryz.f6 false true false false):=by
 obtain⟨places,hx⟩:=o0 os enc
 refine returnsInHanded_of_row (C:=Tryz.checked) (s:=Rows.OpenSpec.upto Rows.commitMetasSpec) rY started (by kernel_rfl) Tryz.func6
  (witness_row_at (enc:=enc) (C:=Tryz.checked) false (qW os) #[.slice none 0 0,.int .u16 0] rfl (by kernel_rfl) (by kernel_rfl) (by kernel_rfl)
   (OpenSpec.preRow_of_cond 8 hx (by kernel_rfl) (fun k hk=>by cases hk;kernel_rfl) (by kernel_rfl) (rP os))) ?_
 intro W base args ds gs before hval hW _ hc _ hL _ _
 exact mY H enc W base args ds gs before hval hW (of_decide_eq_true (hc _ rfl)) hL
theorem qn:Rows.CommitMetasUptoSaid:=
 OpenClaim.holds_of_cond 6 Tryz.f6 rfl rfl rfl rfl rfl rfl rfl ⟨rfl,rfl,rfl,rfl,rfl⟩ rfl rfl rfl rfl rfl (by kernel_rfl) Tryz.func6 (by kernel_rfl)
  (of_decide_eq_true (by kernel_rfl)) (by unfold Func.isWrapper;first|(rw[if_pos (by decide +kernel)];kernel_rfl)|(rw[if_neg (by decide +kernel)];exact⟨rfl,rfl⟩))
  (fun os started H enc _ F=>by rw[OpenClaim.pre_eq_preRow];exact oM os started H enc F)
theorem pA(f:FuncId)(fn:Func)(hf:Tryz.pinned.checked.prog.funcNamed Rows.commitMetasUptoRow.func=some f)(hfn:Tryz.pinned.checked.prog.funcs[f]? =some fn):
 false=Tryz.pinned.checked.prog.looks []∧∀(j:Nat) t,fn.params[j]? =some t→Tryz.pinned.checked.prog.wantsStandIn t=false:=by
 obtain rfl:f=6:=Option.some.inj ((show Tryz.prog.funcNamed Rows.commitMetasUptoRow.func=some 6 by kernel_rfl).symm.trans hf) |>.symm
 obtain rfl:fn=Tryz.f6:=(Option.some.inj (Tryz.func6.symm.trans hfn)).symm
 refine⟨by kernel_rfl,fun j t ht=>?_⟩
 rw[Tryz.params6]at ht
 have hm:t∈([22,23]:List TypeId):=by simpa using Array.mem_of_getElem? ht
 exact(show∀t,t∈([22,23]:List TypeId)→Tryz.prog.wantsStandIn t=false by decide +kernel) t hm
theorem commitMetas_holds:Rows.CommitMetasUptoCardSaid:=
 Claim7.holds_tied_plain_at .later [] _ _ _ _ qn (fun _ h=>by cases h) (by kernel_rfl) (fun _ h=>by cases h) commitMetasUpto_row_tie rfl ⟨rfl,rfl⟩ (by kernel_rfl) rfl pA (by kernel_rfl)
end Go.Proofs.YtpjenciplibdnaaGreatDoor
