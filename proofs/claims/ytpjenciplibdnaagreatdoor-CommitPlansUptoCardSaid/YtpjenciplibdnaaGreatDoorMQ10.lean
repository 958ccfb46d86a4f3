/-
  CommitPlans. By an AI agent.
-/
import Derived.Test.YtpjenciplibdnaaGreatDoorMQ9
import Derived.Test.YtpjenciplibdnaaGreatDoorMQ7
import Derived.Test.YtpjenciplibdnaaGreatDoorMQ8
import Derived.Test.YtpjenciplibdnaaGreatDoorMQ5
import Derived.Test.YtpjenciplibdnaaGreatDoorMQ6
import Derived.Deep.DeepHandedRow
import Derived.Lib.LaidTab
set_option linter.unusedVariables false
set_option linter.unusedSimpArgs false
set_option maxRecDepth 100000
set_option maxHeartbeats 16000000
namespace Go.Proofs.YtpjenciplibdnaaGreatDoor
open Aml Go
theorem JM{p:Pl}{q:Int}(hc:IS p q):p.wait.length≤nW p.wait:=by
 have:∀l:List Wt,(∀w,w∈l→w.an≠[])→l.length≤nW l:=by
  intro l
  induction l with
  |nil=>intro _;exact aeh _
  |cons a l ih=>
   intro h;have h1:=ih fun w hw=>h w (abn _ hw);have h2:0<a.an.length:=ad9.2 (h a aaX);simp only[nW,aa9,adb,abx]at*;omega
 exact this _ fun w hw e=>hc.2.1 w hw (.inl e)
theorem bP{top:Nat}{p:Pl}{h:Nat→Bool}{t:Int}(k:pL top p h t):p.free.length+nW p.wait≤top∧p.wait.length≤top∧2≤p.high∧p.high≤top:=by
 have h1:=pE k;have h2:=JM k.p7;rw[iE]at h1;have:=k.p7.2.2.1;have:=k.p7.2.2.2.1;omega
theorem je{k:Nat}{z:Zt}(h:ZI k z)(n:N)(l:List C):(cg z n l).length≤1000∧(dg (aS n l) (aS z.n z.l)).length+z.own.length≤1000∧z.own.length≤1000:=by
 have h1:=(fG h).length_eq;rw[dX,c9,c9]at h1;have h2:=h.keep.p7.2.2.2.1;have h3:(dg (aS n l) (aS z.n z.l)).length≤(aS z.n z.l).length:=by unfold dg;exact List.length_filter_le _ _
 unfold cg;rw[c9];omega
def LN(z:Zt)(n:N)(l:List C)(p:Pl)(W:List (Int×ByteArray)):List (Int×ByteArray):=W++(cO z n l p).zip (eU (listed (jN z n l p)) (cO z n l p))
theorem S5(w0:W0){k:Nat}{z:Zt}{n:N}{l:List C}{q t:Int}{hd:Bool}(S:St)(hz:ZI k z)(hv:ZV k z n l)(hk:k≤116)(hq0:0≤q)(hq:q≤1000)(hf:¬kH z n l q (release z.p t hd)):
 ab Tryz.prog w0 13 [eZ z,eV n l,dI q,dU t,dB hd] S (fun d S'=>d= .bM [eZ z,.sl 0 true [],.sl 0 true [],dB false]∧S'=S):=by
 have ks:=bP hz.keep;have kr:=bP (jG hz.keep t hd);obtain⟨b1,b2,b3⟩:=je hz n l;refine YV w0 z n l q t hd S (release z.p t hd) ⟨hz.bG.1,by have:=hz.bG.2;omega⟩ (fun S=>Am w0 z.p t hd S (by omega) (by omega)) fun S=>?_;have:=xB w0 k z.n z.l n l z.own (release z.p t hd) q S hz.vi hv.vi hk (by omega) (by omega) (by omega) (by omega) (by omega) (by omega) (by omega);have e:decide ((jv (n,l) (release z.p t hd) ((dg (aS n l) (aS z.n z.l)).length+z.own.length):Int)≤cR (release z.p t hd) q)=false:=decide_eq_false fun h=>hf (by unfold kH cg;rw[c9];exact h);rw[e]at this;exact this
def WZ(n:N)(l:List C)(q:List Int)(M:N)(X:List C)(R:List Int)(W:List (Int×ByteArray)):Prop:=∃V,X=(bR l n q).l∧W=(bR l n q).w++V∧bx (bR l n q).n ((bR l n q).q,[])=(M,(R,V))
theorem SH(w0:W0)(hg:gn w0){k:Nat}{z:Zt}{n:N}{l:List C}{q t:Int}{hd:Bool}(hz:ZI k z)(hv:ZV k z n l)(hk:k≤115)(hq0:0≤q)(hq:q≤1000)(hf:kH z n l q (release z.p t hd)):
 ∃M X R W,PA k n l (cf (release z.p t hd) (dv (n,l))) M X R W∧PO k z n l q (release z.p t hd) M X∧WZ n l (cf (release z.p t hd) (dv (n,l))) M X R W∧∀S,
  ab Tryz.prog w0 13 [eZ z,eV n l,dI q,dU t,dB hd] S (fun d S'=>d= .bM [eZ (iW z n l (release z.p t hd) M X),.sl 2 false ((LN z n l (release z.p t hd) W).map oY),gm (l6 (iW z n l (release z.p t hd) M X).label (iW z n l (release z.p t hd) M X).bG (iW z n l (release z.p t hd) M X).root (iW z n l (release z.p t hd) M X).oX (iW z n l (release z.p t hd) M X).high),dB true]∧S'=S):=by
 have ks:=bP hz.keep;have kp:=jG hz.keep t hd;have kr:=bP kp;obtain⟨b1,b2,b3⟩:=je hz n l;have hrel:=fun S=>Am w0 z.p t hd S (by omega) (by omega);have hfi:=fun S=>xB w0 k z.n z.l n l z.own (release z.p t hd) q S hz.vi hv.vi (by omega) (by omega) (by omega) (by omega) (by omega) (by omega) (by omega) (by omega);have e:decide ((jv (n,l) (release z.p t hd) ((dg (aS n l) (aS z.n z.l)).length+z.own.length):Int)≤cR (release z.p t hd) q)=true:=decide_eq_true (by unfold kH cg at hf;rw[c9]at hf;exact hf);rw[e]at hfi;have hph:(release z.p t hd).high=z.p.high:=rfl;generalize release z.p t hd=p at*
 have hm1:may p q (dv (n,l)):=by
  have hfit:jv (n,l) p (cg z n l).length=dv (n,l)+oZ (p.free.length-dv (n,l)) (nW p.wait+(cg z n l).length):=rfl;unfold kH at hf;rw[hfit]at hf;exact⟨by omega,by omega⟩
 have hmt:=qd hm1 hq;have hpv:=MX hz hv kp hmt;obtain⟨hmC,hbC,M,R,V,hld,hpa⟩:=CB hpv;have hpo:=Rg hz hv kp hph hq hf hpa;refine⟨M,(bR l n (cf p (dv (n,l)))).l,R,(bR l n (cf p (dv (n,l)))).w++V,hpa,hpo,⟨V,rfl,rfl,hld.eq⟩,fun S=>?_⟩;have htl:(cf p (dv (n,l))).length=dv (n,l):=by rw[kF];omega
 have hfl:dv (n,l)≤1000:=by
  have h1:=pE kp;rw[iE]at h1;have h2:=hm1.2;unfold cR at h2;split at h2 <;>omega
 obtain⟨t1,t2,t3⟩:=jO kp hmt;have k2:=bP t3;generalize hC:bR l n (cf p (dv (n,l)))=C at*;have hback:=hpo.back;obtain⟨b4,b5,b6⟩:=je hz M C.l;have hg1:=rA (l:=cg z n l) t3.old;have hp3:mo (take p (dv (n,l))) (z.bG+1) (cg z n l)=kJ z n l p:=rfl;have hp4:take (kJ z n l p) (tR z n l p)=jN z n l p:=rfl;have hp5:cf (kJ z n l p) (tR z n l p)=cO z n l p:=rfl;rw[hp3]at hg1;obtain⟨g1,g2,g3⟩:=hg1;have k4:=bP hpo.zi.keep;have hm2:=hpo.m2;have hw3:(kJ z n l p).wait.length≤1000:=k4.2.1;have hf3:(kJ z n l p).free.length≤1000:=by rw[g1];omega
 have h4a:(jN z n l p).free.length+nW (jN z n l p).wait≤1000:=k4.1;have h4b:(jN z n l p).wait.length≤1000:=k4.2.1
 have hCq:C.q.length≤1000:=by
  have:=(vu hpv l.length (abI _)).left;rw[aed,hC]at this;rw[this,acv];omega
 have hwl:(C.w++V).length≤1000:=by
  have:=congrArg List.length hpa.wr;rw[abv,aaE]at this;omega
 have hol:(cO z n l p).length≤3000:=by
  rw[←hp5,kF];have h2:=hm2.2;unfold cR at h2;split at h2 <;>omega
 have hlz:(eU (listed (jN z n l p)) (cO z n l p)).length=(cO z n l p).length:=l3 _ _;have hpv2:VI k M C.l:=hpa.vi;let z0:Zt:={z with bG:=z.bG+1,n:=n,l:=l,own:=[],p:=p}
 let X:Nat→Sg:=fun i=>match i with
  |0=>⟨z0,.sl 0 true [],.sl 0 true [],[]⟩
  |1=>⟨z0,.sl 0 true [],.sl 0 true [],[]⟩
  |2=>⟨{z0 with p:=take p (dv (n,l))},.sl 0 true [],dL (cf p (dv (n,l))),[]⟩
  |3=>⟨{z0 with p:=take p (dv (n,l)),n:=C.n,l:=C.l},.sl 0 true [],dL C.q,C.w⟩
  |4=>⟨{z0 with p:=take p (dv (n,l)),n:=M,l:=C.l,root:=M.aj},.sl 0 true [],dL R,C.w++V⟩
  |5=>⟨{z0 with p:=kJ z n l p,n:=M,l:=C.l,root:=M.aj},.sl 0 true [],dL R,C.w++V⟩
  |_=>⟨iW z n l p M C.l,dL (cO z n l p),dL R,LN z n l p (C.w++V)⟩
 have hmo:=FI hpo.zi rfl;refine YW w0 hg z n l q t hd S p X ⟨hz.bG.1,by have:=hz.bG.2;omega⟩ hrel rfl rfl ?_ ?_ ?_ ?_ ?_ ?_ ?_
 ·have hx:=hpo.zi;exact⟨hx.label,⟨by have:=hz.bG.1;show 0<z.bG+1;omega,by have:=hx.bG.2;show z.bG+1≤_;have h2:z.bG+1≤((k+1:Nat):Int):=this;omega⟩,hmo.2.2.2,hmo.1,hmo.2.1,hmo.2.2.1⟩
 ·intro S b lw h;refine ab.mono (Su w0 h true hfi) fun d S' e=>⟨e.1,?_⟩;rw[e.2];exact(Nz h).symm
 ·intro S b lw h;exact Yh w0 (dv (n,l)) h (take p (dv (n,l))) (cf p (dv (n,l))) true (fun S=>uC w0 k n l S hv.vi (by omega)) fun S=>SM w0 p q _ S hm1 (by omega) (by omega) (by omega) (by omega) (by omega)
 ·intro S b lw h;have:=LH w0 hg k (by omega) (cf p (dv (n,l))) (by omega) (z:=(X 2).z) hpv h;rw[show bR (X 2).z.l (X 2).z.n (cf p (dv (n,l)))=C from hC]at this;exact this
 ·intro S b lw h;refine aa3 w0 C.q R M V h (by rw[c9]at hwl;show C.w.length+V.length≤_;omega) fun S=>?_;have:=Y5 w0 hg C.n C.q S (qT hbC (by omega)) (by omega);rw[MR hmC hld]at this;exact this
 ·intro S b lw h;refine Yk w0 (dg (aS M C.l) (aS z.n z.l)) h (by omega) (kJ z n l p) (fun S=>xh w0 k z.n z.l M C.l S hz.vi hpv2 (by omega)) fun S=>?_;have:=XB w0 (take p (dv (n,l))) (z.bG+1) (cg z n l) S (by omega) (by omega);rw[hp3,←hback]at this;exact this
 ·intro S b lw h;have hzz:((LN z n l p (C.w++V))=(C.w++V)++(cO z n l p).zip (eU (listed (jN z n l p)) (cO z n l p))):=rfl;refine XR w0 h (nW (kJ z n l p).wait) (tR z n l p) (jN z n l p) (cO z n l p) (listed (jN z n l p)) (eU (listed (jN z n l p)) (cO z n l p)) (by rw[hlz];show(C.w++V).length+_≤_;omega) hlz (by show(kJ z n l p).free.length≤_;omega) (fun S=>waiting w0 (kJ z n l p) S (by omega) (by omega)) (fun S=>?_) (fun S=>?_) (fun S=>yc w0 (jN z n l p) S (by omega) (by omega)) fun S=>O2 w0 hg _ _ S (by rw[iE];omega) (by omega) hpo.row hpo.many hpo.nd hpo.pG
  ·have:=A9 w0 ((kJ z n l p).free.length:Int) (nW (kJ z n l p).wait:Int) S (by omega) (by omega) (by omega) (by omega);rw[adV,adV]at this;exact this
  ·have:=SM w0 (kJ z n l p) q (tR z n l p) S hm2 (by omega) (by omega) (by omega) (by omega) (by omega);exact this
theorem TE(w0:W0)(label:Int)(S:St):ab Tryz.prog w0 9 [dI label] S (fun d S'=>d=eZ (z0 label)∧S'=S):=by
 refine aJ [] mx Tryz.func9 rfl rfl (by kernel_rfl) ?_;refine @aa _ (ai @Tryz.ntmps9 ?_);intro b;refine ae (Uv w0 _) ?_;refine @aa _ (af ?_);exact .agg (.cons (.refl _) (.cons (.refl _) (.cons (.refl _) (.cons (.refl _) (.cons (.refl _) (.cons (.refl _) (.cons (.refl _) (.cons (.refl _) (.cons (.refl _) (.cons (.refl _) (.cons (.refl _) (.cons (.nil _ _ _) (.cons (.refl _) (.cons (.nil _ _ _) (.cons (.nil _ _ _) .nil)))))))))))))))
theorem yD(w0:W0){k:Nat}{z:Zt}(S:St)(hz:ZI k z)(hk:k≤116):ab Tryz.prog w0 18 [eZ z] S (fun d S'=>d=dB true∧S'=S):=by
 have ks:=bP hz.keep;have hL:=(fG hz).length_eq;have hS:=xz hz;rw[dX,c9,c9]at hL;have efl:flat [aS z.n z.l,z.own,listed z.p]=aS z.n z.l++z.own++listed z.p:=by simp[flat]
 have hcc:=fun S=>concat w0 [aS z.n z.l,z.own,listed z.p] S (by simp) (by rw[efl,c9,c9];omega);rw[efl]at hcc;have hhi:=hz.high;have hch:=fun S=>check w0 z.p 1000 S (by omega) (by omega);have hc1:pB (IS z.p 1000)=true:=by unfold pB;exact @decide_eq_true _ (Classical.propDecidable _) hz.keep.p7
 rw[hc1]at hch;refine aJ [1] mx Tryz.func18 rfl rfl (by kernel_rfl) ?_;refine @aa _ (ai @Tryz.ntmps18 ?_);intro b1;refine Y.j4 [] [9] [0,3,5,1,2,4,6,7,8,9,10] mx (by kernel_rfl) ?_;refine @aa _ (af ?_);refine Y.lM (fun T _=>Ff w0 k z.n z.l T hz.vi hk) ?_;refine @aa _ (af ?_);refine Y.lM (fun T _=>yc w0 z.p T (by omega) (by omega)) ?_;refine @aa _ (af ?_);refine OP (hcc _) ?_ (.cons (Wk.full _ _ _) .nil);intro m;refine @aa _ (af ?_);have eA:(aS z.n z.l).length+z.own.length+(listed z.p).length=(aS z.n z.l++z.own++listed z.p).length:=by rw[c9,c9]
 rw[eA];rw[eA]at hL;generalize aS z.n z.l++z.own++listed z.p=A at*;refine .inl ?_;refine yk (nw w0 (l:=m.n) (zs:=A) (by exact @aa _ aF) (by omega)) ?_;rw[hS];refine @aa _ (af ?_);have KH:(bN 2 (z.p.high-2).toNat).length=A.length:=by rw[dX,hL]
 refine aw [] A.length [1,3,18,19,20] (fun k=>[(20,dI k)]) (fun _=>⟨(b1.n,dI z.label::dU z.bG::dI z.root::dI z.oX::dI z.high::dI z.n.aj::dB z.n.leaf:: .sl 1 false (z.n.l.map fun c=>dS c.key):: .sl 2 false ((if z.n.leaf then z.n.l else []).map gx):: .sl 5 false ((aV z.n).map dT)::yB z.l::dL z.own::dI z.p.high:: .sl 1 false (z.p.free.map dI):: .sl 2 false (z.p.wait.map dW)::[])::S.box,(m.n,.arr 1 ((bN 2 (z.p.high-2).toNat).map dI))::S.acc⟩) (fun _=>True) mx (by kernel_rfl) ?_ ?_
 ·exact @aa _ aF
 ·intro j hj _;have ej:IntKind.i64.wrap ((j:Int)+1)=((j+1:Nat):Int):=by rw[aG (by omega) (by omega)];omega
  have e2:IntKind.i64.wrap (2+(j:Int))=2+(j:Int):=by rw[aG (by omega) (by omega)]
  have e3:IntKind.i64.wrap (z.p.high-2)=((A.length:Nat):Int):=by rw[aG (by omega) (by omega)];omega
  refine @aa _ (sL @ej @e2 @e3 @hhi ?_);refine⟨fun hlt=>⟨hlt,KH,by omega,fun a ha=>?_⟩,fun hge=>ae (hch _) ?_⟩
  ·have:=AS ha;exact⟨fun h=>h this,fun _=>hlt⟩
  ·refine @aa _ (af ?_)
   try trivial
def od(s:Sp):Bool:=decide (s.name.size≤40)&&decide (s.key.size≤40)&&decide (s.size≤400)
def oc(l:List Sp):Bool:=l.all od&&decide (l.length≤70)
theorem Q6{l:List Sp}{k:Nat}{a:Sp}(ha:l[k]? =some a)(h:od a=false):oc l=false:=by
 unfold oc;rw[List.all_eq_false.2 ⟨a,aap ha,by rw[h];simp⟩];rfl
theorem Q8(w0:W0)(l:List Sp)(S:St)(hl:l.length≤1048576):ab Tryz.prog w0 8 [.sl 4 false (l.map ZR)] S (fun d S'=>d=dB (oc l)∧S'=S):=by
 have hno:=fun k a=>Q6 (l:=l) (k:=k) (a:=a);have hyes:l.all od=true→oc l=decide (l.length≤70):=fun e=>by unfold oc;rw[e];rfl
 generalize oc l=R at*;refine aJ [] mx Tryz.func8 rfl rfl (by kernel_rfl) ?_;refine @aa _ (ai @Tryz.ntmps8 ?_);refine aw [] l.length [0,3] (fun k=>[(3,dI k)]) (fun _=>S) (fun k=>(l.take k).all od=true) mx (by kernel_rfl) ?_ ?_
 ·exact @aa _ aF
 ·intro k hk ha;refine @aa _ (af ?_);refine⟨fun h=>⟨h,fun a e=>⟨fun q=>(hno k a e (by unfold od;rw[decide_eq_false (by omega)];rfl)).symm,fun q1=>⟨h,fun a' e'=>?_⟩⟩⟩,fun h=>?_⟩
  ·cases aC e e';refine⟨fun q=>(hno k a e (by unfold od;rw[decide_eq_false (p:=a.key.size≤40) (by omega),Bool.and_false];rfl)).symm,fun q2=>⟨h,fun a' e'=>?_⟩⟩;cases aC e e';refine⟨fun q=>(hno k a e (by unfold od;rw[decide_eq_false (p:=a.size≤400) (by omega),Bool.and_false])).symm,fun q3=>⟨h,?_,aZ k (by omega)⟩⟩;rw[abZ,e,List.all_append,ha];simp only[aea,afk,List.all_nil,Bool.and_true,afy];unfold od;rw[decide_eq_true (by omega),decide_eq_true (by omega),decide_eq_true (by omega)];rfl
  ·have:k=l.length:=by omega
   rw[this,aed]at ha;rw[hyes ha,Bool.eq_iff_iff,decide_eq_true_iff,decide_eq_true_iff];omega
def Nf(t n:Int):Int×Bool:=if n<0 then(0,false)else if t<n then(0,true)else(t-n,true)
theorem RO(w0:W0)(z:Zt)(n:Int)(S:St)(ht:0≤z.bG∧z.bG≤1000000)(hn: -9223372036854775808≤n∧n≤9223372036854775807):ab Tryz.prog w0 12 [eZ z,dI n] S (fun d S'=>d= .bM [dU (Nf z.bG n).1,dB (Nf z.bG n).2]∧S'=S):=by
 refine aJ [] mx Tryz.func12 rfl rfl (by kernel_rfl) ?_;refine @aa _ (ai @Tryz.ntmps12 ?_);intro b;unfold Nf;refine⟨fun h=>?_,fun h=>?_⟩
 ·rw[if_pos h,decide_eq_false (by omega)];exact .refl _
 ·rw[if_neg h,gl (by omega) (by omega)];refine⟨fun h2=>?_,fun h2=>?_⟩
  ·rw[if_pos (by omega),decide_eq_true (by omega)];exact .refl _
  ·rw[if_neg (by omega),gl (by omega) (by omega)];exact .refl _
theorem MO(w0:W0)(k:Nat)(n:N)(l:List C)(s:Sp)(S:St)(h:VI k n l)(hk:k≤116)(hs:s.size≤400):ab Tryz.prog w0 11 [eV n l,ZR s] S (fun d S'=>d=eV (nj s (n,l)).1 (nj s (n,l)).2∧S'=S):=by
 have hmk:=fun S=>SX w0 k s.name n l S h hk;have hdr:=fun S=>YN w0 k s.name n l S h hk;have hpu:=fun v S=>Yi w0 k s.name s.key v n l S h hk;have hde:=fun S=>R4 w0 k s.name s.key n l S h hk;have e1:(if s.size<0 then 0 else s.size)=(s.size.toNat:Int):=by split <;>omega
 have q0:s.kind=0→nj s (n,l)=(oV s.name n l).1:=fun e=>by unfold nj;rw[if_pos e]
 have q1:¬s.kind=0→s.kind=1→nj s (n,l)=(zN s.name n l).1:=fun a e=>by unfold nj;rw[if_neg a,if_pos e]
 have q2:¬s.kind=0→¬s.kind=1→s.kind=2→nj s (n,l)=(wo s.name s.key (strOfNums (List.replicate s.size.toNat 0)) n l).1:=fun a c e=>by unfold nj;rw[if_neg a,if_neg c,if_pos e]
 have q3:¬s.kind=0→¬s.kind=1→¬s.kind=2→s.kind=3→nj s (n,l)=(Th s.name s.key n l).1:=fun a c d e=>by unfold nj;rw[if_neg a,if_neg c,if_neg d,if_pos e]
 have q4:¬s.kind=0→¬s.kind=1→¬s.kind=2→¬s.kind=3→nj s (n,l)=(n,l):=fun a c d e=>by unfold nj;rw[if_neg a,if_neg c,if_neg d,if_neg e]
 generalize nj s (n,l)=R at*;refine aJ [7] mx Tryz.func11 rfl rfl (by kernel_rfl) ?_;refine @aa _ (ai @Tryz.ntmps11 ?_);intro b b1 b2;refine⟨fun h0=>ae (hmk _) ?_,fun h0=>⟨fun h1=>ae (hdr _) ?_,fun h1=>⟨fun h2=>?_,fun h2=>⟨fun h3=>ae (hde _) ?_,fun h3=>?_⟩⟩⟩⟩
 ·rw[q0 h0];exact @aa _ aF
 ·rw[q1 h0 h1];exact @aa _ aF
 ·refine Y.j4 [8,9] [] [1,3,5,0,2,4,6,7,8,9,10,11,12,13,14] mx (by kernel_rfl) ?_;rw[q2 h0 h1 h2];refine @aa _ (ai @e1 ?_);refine⟨by omega,by omega,fun b3=>⟨aej,Y.lM (fun T _=>hpu _ T) ?_⟩⟩;exact @aa _ aF
 ·rw[q3 h0 h1 h2 h3];exact @aa _ aF
 ·rw[q4 h0 h1 h2 h3];exact .refl _
def kB:ByteArray:={data:= #[98]}
def kK:ByteArray:={data:= #[107]}
def kV:ByteArray:={data:= #[118]}
theorem aao:dv (wo kB kK kV (oV kB mz []).1.1 (oV kB mz []).1.2).1=2:=by kernel_rfl
theorem CF{n:N}{l:List C}(h:((iv n l).flatMap fun n=>nk (dH rW n))=[]):aS n l=[]:=by
 have h2:(flat ((iv n l).map eQ)).length=0:=by
  unfold flat;rw[List.length_flatten,aeZ]
  have:∀V:List N,(V.flatMap fun n=>nk (dH rW n))=[]→(V.map (List.length∘eQ)).sum=0:=fun V=>by
   induction V with
   |nil=>intro _;rfl
   |cons a V ih=>
    intro h;rw[acA,List.append_eq_nil_iff]at h;rw[aa9,adb,ih h.2];show(eQ a).length+0=0;unfold eQ;rw[aE,h.1];rfl
  exact this _ h
 unfold aS;exact aa4 (by rw[aE];exact h2)
theorem aaQ:aS (wo kB kK kV (oV kB mz []).1.1 (oV kB mz []).1.2).1.1 (wo kB kK kV (oV kB mz []).1.1 (oV kB mz []).1.2).1.2=[]:=CF (by kernel_rfl)
theorem Z5:aS mz []=[]:=CF (by kernel_rfl)
theorem tJ{k m:Nat}{z:Zt}(h:ZI k z)(hm:k≤m):ZI m z:=⟨gv h.vi hm,h.tv,h.fr,h.cl,h.nd,h.pG,h.keep,h.high,h.root,⟨h.bG.1,by have:=h.bG.2;omega⟩,h.label⟩
theorem Dx(a t r l h:Int):(l6 a t r l h).size=128:=by
 unfold l6;refine l5 _ ?_;simp only[ct,aa9,adT,adb,aeQ,pK];omega
theorem Yr{j k:Nat}{z:Zt}{q:N×List C}(hz:ZI j z)(hj:j≤k)(hk:k≤116)(h:ZV k z q.1 q.2)(name key val:ByteArray):ZV (k+1) z (wo name key val q.1 q.2).1.1 (wo name key val q.1 q.2).1.2:=by
 have hb:=Tp hz h hj;refine Cl (SE hb hk name key val) ?_;unfold wo;split
 ·rename_i hc;simp only[abG,decide_eq_true_eq]at hc;obtain⟨hne,hsz⟩:=dy hc.1;exact LW h.vi hk h.cl name _ fun t ht=>uZ ht hk hne hsz hc.2
 ·exact h.cl
theorem Rl:cf ⟨2,[],[]⟩ 2=[2,3]:=by kernel_rfl
theorem Rk(w0:W0)(hg:gn w0)(S:St):ab Tryz.prog w0 7 [] S (fun d S'=>d=dB true∧S'=S):=by
 have v0:=MF 0;have v1:=Kv v0 (by omega) kB;have hz:=GH (label:=3) (by omega);have z0v:=hz.zv;have z1:ZV 1 (z0 3) (oV kB mz []).1.1 (oV kB mz []).1.2:=LB (q:=(mz,[])) hz (abI 0) (by omega) z0v ⟨0,kB,aN,0⟩;have z2:=Yr (q:=(oV kB mz []).1) hz (aeh 1) (by omega) z1 kB kK kV;have w1:=fun S=>SX w0 0 kB mz [] S v0 (by omega);have w2:=fun S=>Yi w0 1 kB kK kV (oV kB mz []).1.1 (oV kB mz []).1.2 S v1 (by omega);have hf:=aao;have hp:=aaQ;generalize wo kB kK kV (oV kB mz []).1.1 (oV kB mz []).1.2=Q at*;generalize oV kB mz []=R at*;have hz2:=tJ hz (show 0≤2 by omega);have hfq:dv (Q.1.1,Q.1.2)=2:=hf;have hrel:release (z0 3).p 0 false=⟨2,[],[]⟩:=by kernel_rfl
 have hbk:cg (z0 3) Q.1.1 Q.1.2=[]:=by unfold cg;rw[show aS (z0 3).n (z0 3).l=[]from Z5];rfl
 have hnd:jv (Q.1.1,Q.1.2) ⟨2,[],[]⟩ (cg (z0 3) Q.1.1 Q.1.2).length=2:=by
  rw[hbk];unfold jv;rw[hfq];kernel_rfl
 obtain⟨M,X,R1,W,hpa,hpo,_,w4⟩:=SH w0 hg (q:=4) (t:=0) (hd:=false) hz2 z2 (by omega) (by omega) (by omega) (by unfold kH;rw[hrel,hnd];decide);have w3:=fun S=>S5 w0 (q:=3) (t:=0) (hd:=false) S hz2 z2 (by omega) (by omega) (by omega) (by unfold kH;rw[hrel,hnd];decide);rw[hrel]at hpa hpo w4;have hfi:((dv (Q.1.1,Q.1.2):Nat):Int)=2:=by rw[hfq];rfl
 have hp3:kJ (z0 3) Q.1.1 Q.1.2 ⟨2,[],[]⟩=⟨4,[],[]⟩:=by unfold kJ;rw[hbk,hfi];kernel_rfl
 have hm2:tR (z0 3) Q.1.1 Q.1.2 ⟨2,[],[]⟩=0:=by unfold tR;rw[hp3];kernel_rfl
 have hown:cO (z0 3) Q.1.1 Q.1.2 ⟨2,[],[]⟩=[]:=by unfold cO;rw[hp3,hm2];kernel_rfl
 have hp4:jN (z0 3) Q.1.1 Q.1.2 ⟨2,[],[]⟩=⟨4,[],[]⟩:=by unfold jN;rw[hp3,hm2];kernel_rfl
 have hwr:=hpa.wr;rw[hfi,Rl,hfq]at hwr;obtain⟨A,bL,hW⟩:=hpa.last (by rw[hfq];omega);have hws:LN (z0 3) Q.1.1 Q.1.2 ⟨2,[],[]⟩ W=W:=by unfold LN;rw[hown];exact ad0 _
 obtain⟨x,y,hW2,hM⟩:∃x y,W=[(2,x),(3,y)]∧M.aj=3:=by
  match W,hwr with
  |[(_,x),(_,y)],hwr=>
   simp only[aa9,adT,aeW,afX,ae7,and_true]at hwr;obtain⟨rfl,rfl⟩:=hwr;refine⟨x,y,rfl,?_⟩
   match A,hW with
   |[a],hW=>simp only[aes,adZ,ae7,aei,and_true]at hW;exact hW.2.1.symm
   |[],hW=>simp at hW
   |_::_::_,hW=>simp at hW
 have wh1:=fun S=>yD w0 S hpo.zi (by omega);have wh0:=fun S=>yD w0 S hz (by omega)
 have hN:iW (z0 3) Q.1.1 Q.1.2 ⟨2,[],[]⟩ M X=⟨3,1,3,0,4,M,X,[],⟨4,[],[]⟩⟩:=by
  unfold iW;rw[hown,hp4,hM];rfl
 rw[hN]at w4 wh1;rw[hws,hW2]at w4;have hms:=Dx 3 1 3 0 4;generalize l6 3 1 3 0 4=ms at*;unfold kB kK kV at*;refine aJ [] mx Tryz.func7 rfl rfl (by kernel_rfl) ?_;refine @aa _ (ai @Tryz.ntmps7 ?_);refine ae (TE w0 3 _) ?_;refine @aa _ (af ?_);intro b1;refine ae (w1 _) ?_;refine @aa _ (af ?_);intro b2;refine ae (w2 _) ?_;refine @aa _ (af ?_);intro b3;refine ae (w4 _) ?_;refine @aa _ (af ?_);intro b4;refine ae (w3 _) ?_;refine @aa _ (af ?_);intro b5;have hml:((bY ms).length:Int)=128:=by rw[bH,hms];rfl
 refine⟨fun _=>ae (wh1 _) ?_,fun h=>absurd hml h⟩;refine @aa _ (af ?_);refine ae (wh0 _) ?_;refine @aa _ (af ?_);trivial
theorem VY(w0:W0):∀(d:Nat) (n:N) (S:St),Good d n→bA n≤131072→ab Tryz.prog w0 23 [eT n] S (fun e S'=>e=eN n∧S'=S):=by
 intro d
 induction d with
 |zero=>
  intro n S hg ht;have hn:=ax hg;have hlf:=hn.1;have hlen:=aT n;rw[cm hlf];refine aJ [1000] mx Tryz.func23 rfl rfl (by kernel_rfl) ?_;refine @aa _ (aM @Tryz.ntmps23 @hlf ?_);intro b b2 b3;refine bW b3.n 2 4 (by omega) (fu _ _ _) rfl fun lk=>?_;refine eI [10] [] mx (by kernel_rfl) ?_;refine @aa _ (af ?_);refine aw [10] n.l.length [1,2,3,4] (fun k=>[(4,dI k)]) (fun k=>⟨(b3.n,[dI n.aj,dB true,.acc lk.n k])::(b2.n,[dI 0,dB false,.sl 0 true []])::(b.n,[dI n.aj,dB true,.sl 1 false (n.l.map fun c=>dS c.key),.sl 2 false (n.l.map gx),.sl 5 false []])::S.box,(lk.n,.arr 4 ((n.l.take k).map dC))::S.acc⟩) (fun _=>True) mx (by kernel_rfl) ?_ ?_
  ·exact @aa _ aF
  ·intro k hk _;have hml:(n.l.take k).length=k:=by rw[aaE];omega
   refine @aa _ (ai @hml ?_);refine⟨fun hlt=>⟨hlt,fun c hc b4=>⟨fun _=>⟨hlt,fun c2 hc2=>?_⟩,fun h=>absurd hlt h⟩⟩,fun hge=>?_⟩
   ·cases aC hc hc2;refine⟨hlt,fun c3 hc3 _=>?_⟩;cases aC hc hc3;refine y7 b4.n [dS c.key,dS c.data,.sl 1 false (c.an.map dI),.sl 3 false []] (fu _ _ _) ⟨.refl _,.refl _,.refl _,.nil _ _ _,trivial⟩ ?_;refine eI [] [] mx (by kernel_rfl) ?_;have hkid:c.kid=[]:=(hn.2 c (aap hc)).2;have ht1:n.l.take (k+1)=n.l.take k++[c]:=by rw[abZ,hc];rfl
    rw[ht1];simp(maxDischargeDepth:=12) (maxSteps:=1000000) -implicitDefEqProofs only[go_sem,Nat.reduceAdd,Nat.reduceSub,Nat.reduceMul,Nat.reduceLeDiff,Nat.reduceEqDiff,Nat.reduceGT,Nat.reduceBEq,reduceCtorEq,↓reduceIte,Int.reduceToNat,Int.reduceLE,Int.reduceLT,Int.reduceNe,Int.reduceEq,hml,aa1,aa9,adT,hkid];exact⟨by omega,by unfold maxLen;omega,hlt,aZ k (by omega)⟩
   ·rw[aaA (by omega),hlf];exact .refl _
 |succ d ih=>
  intro n S hg ht;have hn:=ax hg;have hlf:=hn.1;have hlen:=aT n;have hkn:=oR hn
  have hres:eT n= .agg [dI n.aj,dB false,.sl 1 false (n.l.map fun c=>dS c.key),.sl 2 false [],.sl 5 false ((n.l.map aB).map dT)]:=by
   show DV.agg _=_;rw[hkn,hlf];rfl
  rw[hres];refine aJ [1000] mx Tryz.func23 rfl rfl (by kernel_rfl) ?_;refine @aa _ (aM @Tryz.ntmps23 @hlf ?_);intro b b2 b3;refine bW b3.n 2 4 (by omega) (fu _ _ _) rfl fun lk=>?_;refine eI [10] [] mx (by kernel_rfl) ?_;refine @aa _ (af ?_);refine aw [10] n.l.length [1,2,3,4] (fun k=>[(4,dI k)]) (fun k=>⟨(b3.n,[dI n.aj,dB false,.acc lk.n k])::(b2.n,[dI 0,dB false,.sl 0 true []])::(b.n,[dI n.aj,dB false,.sl 1 false (n.l.map fun c=>dS c.key),.sl 2 false [],.sl 5 false ((n.l.map aB).map dT)])::S.box,(lk.n,.arr 4 ((n.l.take k).map dC))::S.acc⟩) (fun _=>True) mx (by kernel_rfl) ?_ ?_
  ·exact @aa _ aF
  ·intro k hk _;have hml:(n.l.take k).length=k:=by rw[aaE];omega
   refine @aa _ (ai @hml ?_);refine⟨fun hlt=>⟨hlt,fun c hc b4 _=>⟨fun _=>⟨hlt,fun c2 hc2=>?_⟩,fun h=>absurd hlt h⟩⟩,fun hge=>?_⟩
   ·cases aC hc hc2;obtain⟨⟨s1,s2,s3⟩, -,kd,hkid,hkg, -⟩:=hg.2.2.cell c (aap hc);have hk0:=aO hkid;have hkt:=cL (aap hc) hkid;rw[hk0];refine ae (ih kd _ hkg (by omega)) ?_;refine @aa _ (ai @hml ?_);refine y7 b4.n [dS c.key,dS aN,.sl 1 false [],.sl 3 false [eN kd]] (fu _ _ _) ⟨.refl _,.refl _,.nil _ _ _,.full _ _ _,trivial⟩ ?_;refine eI [] [] mx (by kernel_rfl) ?_;have ht1:n.l.take (k+1)=n.l.take k++[c]:=by rw[abZ,hc];rfl
    rw[ht1];simp(maxDischargeDepth:=12) (maxSteps:=1000000) -implicitDefEqProofs only[go_sem,Nat.reduceAdd,Nat.reduceSub,Nat.reduceMul,Nat.reduceLeDiff,Nat.reduceEqDiff,Nat.reduceGT,Nat.reduceBEq,reduceCtorEq,↓reduceIte,Int.reduceToNat,Int.reduceLE,Int.reduceLT,Int.reduceNe,Int.reduceEq,hml,aa1,aa9,adT,hkid,s2,s3];exact⟨by omega,by unfold maxLen;omega,hlt,aZ k (by omega)⟩
   ·rw[aaA (by omega),hlf];exact .refl _
theorem Ba(w0:W0){k:Nat}{n:N}(h:TB k n)(hk:k≤116)(S:St):ab Tryz.prog w0 23 [eT n] S (fun e S'=>e=eN n∧S'=S):=by
 obtain⟨hr,d,hg,hd,ht⟩:=h;exact VY w0 d n S hg (by omega)
theorem Gp(w0:W0)(k:Nat)(n:N)(l:List C)(S:St)(h:VI k n l)(hk:k≤116):ab Tryz.prog w0 15 [eV n l] S (fun d S'=>d=eL n l∧S'=S):=by
 have hln:=h.len;have hdn:=fun S=>Ba w0 h.dir hk S;have hcn:=fun c (hc:c∈l) S=>Ba w0 (h.cell c hc).2.1 hk S;refine aJ [] mx Tryz.func15 rfl rfl (by kernel_rfl) ?_;refine @aa _ (ai @Tryz.ntmps15 ?_);intro b b2;refine ae (hdn _) ?_;refine @aa _ (af ?_);intro b3;refine bW b3.n 3 4 (by omega) (fu _ _ _) rfl fun lk=>?_;refine @aa _ (af ?_);refine aw [] l.length [1,2,3,4] (fun k=>[(4,dI k)]) (fun k=>⟨(b3.n,[dI n.aj,dB n.leaf,.sl 4 false (n.l.map dC),.acc lk.n k])::(b2.n,[dI 0,dB false,.sl 0 true [],.sl 0 true []])::(b.n,[dI n.aj,dB n.leaf,.sl 1 false (n.l.map fun c=>dS c.key),.sl 2 false ((if n.leaf then n.l else []).map gx),.sl 5 false ((aV n).map dT),.sl 6 false (l.map mm)])::S.box,(lk.n,.arr 4 ((l.take k).map yO))::S.acc⟩) (fun _=>True) mx (by kernel_rfl) ?_ ?_
 ·exact @aa _ aF
 ·intro j hj _;have hml:(l.take j).length=j:=by rw[aaE];omega
  refine @aa _ (ai @hml ?_);refine⟨fun hlt=>⟨hlt,fun c hc=>⟨hlt,fun c2 hc2=>?_⟩⟩,fun hge=>?_⟩
  ·cases aC hc hc2;refine aK (hcn c (aap hc) _) ?_;have ht1:l.take (j+1)=l.take j++[c]:=by rw[abZ,hc];rfl
   rw[ht1];simp(maxDischargeDepth:=12) (maxSteps:=1000000) -implicitDefEqProofs only[go_sem,Nat.reduceAdd,Nat.reduceSub,Nat.reduceMul,Nat.reduceLeDiff,Nat.reduceEqDiff,Nat.reduceGT,Nat.reduceBEq,reduceCtorEq,↓reduceIte,Int.reduceToNat,Int.reduceLE,Int.reduceLT,Int.reduceNe,Int.reduceEq,hml,aa1,aa9,adT];exact⟨by omega,by unfold maxLen;omega,hlt,aZ j (by omega)⟩
  ·rw[aaA (by omega)];exact .refl _
structure Ms where
 j:Nat
 z:Zt
 n:N
 l:List C
structure MsI(m:Nat)(label:Int)(s:Ms):Prop where
 le:s.j≤m
 zi:ZI s.j s.z
 zv:ZV s.j s.z s.n s.l
 lb:s.z.label=label
@[go_sem] def rVw (n:N) (l:List C):List DV:=dI n.aj::dB n.leaf:: .sl 1 false (n.l.map fun c=>dS c.key):: .sl 2 false ((if n.leaf then n.l else []).map gx):: .sl 5 false ((aV n).map dT):: .sl 6 false (l.map mm)::[]
@[go_sem] def WT (z:Zt):List DV:=dI z.label::dU z.bG::dI z.root::dI z.oX::dI z.high::dI z.n.aj::dB z.n.leaf:: .sl 1 false (z.n.l.map fun c=>dS c.key):: .sl 2 false ((if z.n.leaf then z.n.l else []).map gx):: .sl 5 false ((aV z.n).map dT):: .sl 6 false (z.l.map mm)::dL z.own::dI z.p.high:: .sl 1 false (z.p.free.map dI):: .sl 2 false (z.p.wait.map dW)::[]
theorem Wq{z:Zt}{n:N}{l:List C}{p:Pl}{W:List (Int×ByteArray)}:(LN z n l p W).map (·.1)=W.map (·.1)++cO z n l p:=by
 unfold LN;rw[aa1];congr 1;exact List.map_fst_zip (Nat.le_of_eq (l3 _ _).symm)
theorem Uf(w0:W0)(k:Nat)(n:N)(l:List C)(q:List Int)(M:N)(R:List Int)(V:List (Int×ByteArray))(S:St)(hk:k≤116)(hq:q.length≤1000)(hpv:PV k n l q)(hmC:ng (bR l n q).n (bR l n q).q)(hbC:BT k (bR l n q).n)(hld:Ld k (bR l n q).n (bR l n q).q M R V):
 ab Tryz.prog w0 38 [eL n l,dL q] S (fun d S'=>∃b:FN S.acc,d= .bM [eL M (bR l n q).l,.acc b.n ((bR l n q).w++V).length]∧S'=⟨S.box,(b.n,.arr 2 (((bR l n q).w++V).map su))::S.acc⟩):=by
 have hll:=hpv.vi.len;refine rz [3,16] mx Tryz.func38 rfl rfl (by kernel_rfl) ?_;refine @aa _ (ai @Tryz.ntmps38 ?_);intro b2 b4 b6;refine fH 7 2 rfl (by omega) fun lw=>?_;refine bW b6.n 3 4 (by omega) (ds:=[dI n.aj,dB n.leaf,.sl 4 false (n.l.map dC),.sl 0 true []]) (by exact @aa _ aF) rfl fun lL=>?_;refine eI [16] [] mx (by kernel_rfl) ?_;refine @aa _ (af ?_);refine aw [16] l.length [1,2,4,6,7,8] (fun j=>[(1,dL (bR (l.take j) n q).q),(7,.acc lw.n (bR (l.take j) n q).w.length),(8,dI j)]) (fun j=>⟨(b6.n,[dI (bR (l.take j) n q).n.aj,dB (bR (l.take j) n q).n.leaf,.sl 4 false ((bR (l.take j) n q).n.l.map dC),.acc lL.n j])::(b4.n,[dI 0,dB false,.sl 0 true [],.sl 0 true []])::(b2.n,[dI n.aj,dB n.leaf,.sl 4 false (n.l.map dC),.sl 4 false (l.map yO)])::S.box,(lL.n,.arr 4 ((bR (l.take j) n q).l.map yO))::(lw.n,.arr 2 ((bR (l.take j) n q).w.map su))::S.acc⟩) (fun _=>True) mx (by kernel_rfl) ?_ ?_
 ·refine @aa _ (af ?_);rw[show bR [] n q=⟨[],n,q,[]⟩from rfl];exact⟨⟨.refl _,.refl _⟩,.refl _⟩
 ·intro j hj _;have ej:IntKind.i64.wrap ((j:Int)+1)=((j+1:Nat):Int):=by rw[aG (by omega) (by omega)];omega
  have hs:=vu hpv j hj;rcases adR j l.length with hlt|hge
  ·obtain⟨c,hc⟩:∃c,l[j]? =some c:=⟨_,aay hlt⟩;have hcm:=aap hc;obtain⟨hm,⟨M1,R1,V1,hd⟩,hs1⟩:=yI hpv hc hs;have hbt:=Tb hpv hcm;obtain⟨_,hksz⟩:=dy (hpv.vi.cell c hcm).2.2
   have hsu:bR (l.take (j+1)) n q=⟨(bR (l.take j) n q).l++[ak c.key M1],mZ (bR (l.take j) n q).n c.key M1.aj,R1,(bR (l.take j) n q).w++V1⟩:=by
    rw[ry hc];unfold DJ;rw[hd.eq]
   rw[hsu];generalize bR (l.take j) n q=s at*;have hql:s.q.length≤1000:=by rw[hs.left,acv];omega
   have hwl:s.w.length≤1000:=by have:=congrArg List.length hs.wr;rw[abv,aaE]at this;omega
   have hvl:V1.length≤1000:=by have:=congrArg List.length hd.pg;rw[abv,aaE]at this;omega
   have hlay:∀S,ab Tryz.prog w0 85 [eN (aB c),dL s.q] S (fun d S'=>d= .bM [eN M1,.sl 2 false (V1.map su),dL R1,dB true]∧S'=S):=fun S=>by
    have:=SW w0 (aB c) s.q S (qT hbt hk) (by omega);rw[Gu hm hd]at this;exact this
   have hMp:0≤M1.aj∧M1.aj≤999:=by
    by_cases e:M1.aj=0
    ·omega
    ·have:=hd.bt.pG _ (tM e);omega
   have hfind:=fun S=>QU w0 (key:=c.key) hs.tb (by omega) S;have hput:=fun S=>T0 w0 (key:=c.key) (val:=bq 2 M1.aj) hs.tb (by omega) hksz (by rw[az];omega) S;have hsl:=hs.len;refine @aa _ (aM @ej @hlt ?_);intro a ha;cases aC hc ha;refine ae (hlay _) ?_;refine @aa _ (ai @hsl ?_);intro b9;have eu:IntKind.u64.wrap M1.aj=M1.aj:=gl (by omega) (by omega);refine⟨by omega,by unfold maxLen;omega,hlt,fun a ha=>?_⟩;cases aC hc ha;refine⟨by omega,by unfold maxLen;omega,?_⟩;rw[eu];refine ae (pA w0 M1.aj 2 _ (by decide) (by decide)) ?_;refine @aa _ (aM @ej @hsl ?_);refine⟨hlt,fun a2 ha2=>?_⟩;cases aC hc ha2;refine aK (hfind _) ?_;refine @aa _ (aM @ej @hsl ?_);have hml:(s.l++[ak c.key M1]).map yO=s.l.map yO++[yO (ak c.key M1)]:=by rw[aa1];rfl
   rw[hml];refine⟨fun he=>⟨hlt,?_⟩,fun he=>⟨hlt,fun a3 ha3=>?_⟩⟩
   ·rw[show mZ s.n c.key M1.aj=s.n by unfold mZ;rw[if_pos (bZ.1 he)]];exact .aX (.refl _)
   ·cases aC hc ha3;refine aK (hput _) ?_;rw[show mZ s.n c.key M1.aj=kN c.key (bq 2 M1.aj) s.n by unfold mZ;rw[if_neg (bF.1 he)]];refine @aa _ (aM @ej @hsl ?_);exact⟨hlt,.aX (.refl _)⟩
  ·obtain rfl:j=l.length:=by omega
   rw[aed]at hs ⊢;generalize bR l n q=s at*;have hge2:¬l.length<l.length:=by omega
   have hwl:s.w.length≤1000:=by have:=congrArg List.length hs.wr;rw[abv,aaE]at this;omega
   have hvl:V.length≤1000:=by have:=congrArg List.length hld.pg;rw[abv,aaE]at this;have:=hs.left;have:s.q.length≤1000:=by rw[this,acv];omega
                              omega
   have hlay:∀S,ab Tryz.prog w0 85 [eN s.n,dL s.q] S (fun d S'=>d= .bM [eN M,.sl 2 false (V.map su),dL R,dB true]∧S'=S):=fun S=>by
    have:=SW w0 s.n s.q S (qT hbC hk) (by rw[hs.left,acv];omega);rw[Gu hmC hld]at this;exact this
   have hsl:=hs.len;refine @aa _ (aM @ej @hge2 ?_);refine ae (hlay _) ?_;refine @aa _ (ai @hsl ?_);intro b9;refine pU b6.n 3 (l:=lL.n) (s:=4) (xs:=s.l.map yO) (ds:=[dI M.aj,dB M.leaf,.sl 4 false (M.l.map dC),.acc lL.n l.length]) (by exact @aa _ aF) (by simp[hsl]) (by exact @aa _ aF) ?_;refine JB ⟨[(b6.n,[dI M.aj,dB M.leaf,.sl 4 false (M.l.map dC),.sl 4 false (s.l.map yO)])],[]⟩ [3,4] [] [1,2,0,3,4,5] mx (by kernel_rfl) ?_;refine @aa _ (ai @hsl ?_);exact⟨lK (by exact @aa _ aF),by omega,by unfold maxLen;omega,lK (by exact @aa _ aF),lK (by exact @aa _ aF),_,⟨S.box,(lw.n,.arr 2 ((s.w++V).map su))::S.acc⟩,.refl _,.aX (.aX (.aX (.aX (.nJ (.refl _))))),lw,rfl,rfl⟩
@[go_sem] def Fa (z:Zt):List DV:=dI z.label::dU z.bG::dI z.root::dI z.oX::dI z.high::dI z.n.aj::dB z.n.leaf:: .sl 4 false (z.n.l.map dC):: .sl 4 false (z.l.map yO)::dL z.own::dI z.p.high:: .sl 1 false (z.p.free.map dI):: .sl 2 false (z.p.wait.map dW)::[]
@[go_sem] def sf (z:Zt):DV:= .agg (Fa z)
theorem U9(w0:W0)(l:List Int)(S:St)(hl:l.length≤1048576):ab Tryz.prog w0 46 [dL l,dL l] S (fun d S'=>d=dB true∧S'=S):=by
 refine aJ [] mx Tryz.func46 rfl rfl (by kernel_rfl) ?_;refine @aa _ (ai @Tryz.ntmps46 ?_);refine aw [] l.length [0,1,5] (fun k=>[(5,dI k)]) (fun _=>S) (fun _=>True) mx (by kernel_rfl) ?_ ?_
 ·exact @aa _ aF
 ·intro j hj _;refine @aa _ (af ?_);refine fun hlt=>⟨hlt,fun a ha=>⟨hlt,fun b hb=>⟨fun h=>?_,fun _=>⟨hlt,aZ j (by omega)⟩⟩⟩⟩;cases aC ha hb;exact h rfl
theorem GU(w0:W0){k:Nat}{z:Zt}(S:St)(hvi:VI k z.n z.l)(b3:z.own.length≤1000)(ks:z.p.free.length+nW z.p.wait≤1000∧z.p.wait.length≤1000)(hk:k≤116):ab Tryz.prog w0 16 [sf z,sf z] S (fun d S'=>d=dB true∧S'=S):=by
 have h1:=fun S=>Xd w0 k z.n z.l S hvi hk;have h2:=fun S=>U9 w0 z.own S (by omega);have h3:=fun S=>Yb w0 z.p z.p S (by omega) (by omega) (by omega);refine aJ [] mx Tryz.func16 rfl rfl (by kernel_rfl) ?_;refine @aa _ (ai @Tryz.ntmps16 ?_);intro b1 b2;refine ae (h1 _) ?_;refine @aa _ (af ?_);refine ae (h2 _) ?_;refine @aa _ (af ?_);refine ae (h3 _) ?_;refine @aa _ (af ?_);trivial
theorem Br(w0:W0){k:Nat}{z:Zt}(S:St)(hvi:VI k z.n z.l)(ks:z.p.wait.length≤1000)(hk:k≤116):ab Tryz.prog w0 17 [eZ z] S (fun d S'=>d=sf z∧S'=S):=by
 have hsh:=fun S=>Gp w0 k z.n z.l S hvi hk;refine aJ [2,1000] mx Tryz.func17 rfl rfl (by kernel_rfl) ?_;refine @aa _ (ai @Tryz.ntmps17 ?_);intro b1 b2 b3;refine pT mx (by kernel_rfl) ?_;refine @aa _ (af ?_);refine kM (fun B hB=>hsh _) ?_;refine @aa _ (af ?_);intro b4;refine bW b4.n 12 2 (by omega) (ds:=dI z.label::dU z.bG::dI z.root::dI z.oX::dI z.high::dI z.n.aj::dB z.n.leaf:: .sl 4 false (z.n.l.map dC):: .sl 4 false (z.l.map yO)::dL z.own::dI z.p.high:: .sl 1 false (z.p.free.map dI):: .sl 0 true []::[]) (by exact @aa _ aF) rfl fun lw=>?_;refine eI [] [] mx (by kernel_rfl) ?_;refine @aa _ (af ?_);refine aw [] z.p.wait.length [1,2,4,5] (fun k=>[(5,dI k)]) (fun k=>⟨(b4.n,dI z.label::dU z.bG::dI z.root::dI z.oX::dI z.high::dI z.n.aj::dB z.n.leaf:: .sl 4 false (z.n.l.map dC):: .sl 4 false (z.l.map yO)::dL z.own::dI z.p.high:: .sl 1 false (z.p.free.map dI):: .acc lw.n k::[])::(b2.n,[dI 0,dU 0,dI 0,dI 0,dI 0,dI 0,dB false,.sl 0 true [],.sl 0 true [],.sl 0 true [],dI 0,.sl 0 true [],.sl 0 true []])::(b1.n,WT z)::S.box,(lw.n,.arr 2 ((z.p.wait.take k).map dW))::S.acc⟩) (fun _=>True) mx (by kernel_rfl) ?_ ?_
 ·exact @aa _ aF
 ·intro j hj _;have hml:(z.p.wait.take j).length=j:=by rw[aaE];omega
  refine @aa _ (ai @hml ?_);refine⟨fun hlt=>⟨hlt,fun a ha=>⟨hlt,fun c hc=>?_⟩⟩,fun hge=>by rw[aaA (by omega)];exact .refl _⟩;cases aC ha hc;rw[iz ha,aa1];exact⟨by omega,by unfold maxLen;omega,hlt,aZ j (by omega),.refl _⟩
theorem ME(w0:W0){k:Nat}{z:Zt}(S:St)(hz:ZI k z)(hk:k≤116):ab Tryz.prog w0 16 [sf z,sf z] S (fun d S'=>d=dB true∧S'=S):=
 GU w0 S hz.vi (je hz z.n z.l).2.2 (by have:=bP hz.keep;omega) hk
theorem GV(w0:W0){k:Nat}{z:Zt}(S:St)(hz:ZI k z)(hk:k≤116):ab Tryz.prog w0 17 [eZ z] S (fun d S'=>d=sf z∧S'=S):=
 Br w0 S hz.vi (by have:=bP hz.keep;omega) hk
theorem AY(w0:W0){k:Nat}{n:N}(h:TB k n)(hk:k≤116)(S:St):ab Tryz.prog w0 56 [eN n] S (fun e S'=>e=dI (di n)∧S'=S):=by
 obtain⟨hr,d,hg,hd,ht⟩:=h;exact OA w0 d n S (ax hg) (by omega)
theorem SA{k:Nat}{n:N}(h:TB k n)(hk:k≤116):di n≤70000:=by
 obtain⟨hr,d,hg,hd,ht⟩:=h;have:=uN (ax hg);omega
theorem TS{k:Nat}{n:N}{l:List C}(h:VI k n l)(hk:k≤116):oE l≤70000*l.length:=by
 have:∀l:List C,(∀c,c∈l→di (aB c)≤70000)→oE l≤70000*l.length:=fun l=>by
  induction l with
  |nil=>intro _;exact aeh _
  |cons c l ih=>
   intro h;have h1:=ih fun c hc=>h c (abn _ hc);have h2:=h c aaX;unfold oE at h1 ⊢;rw[aa9,adb,abx];omega
 exact this l fun c hc=>SA (h.cell c hc).2.1 hk
theorem Lh{l:List C}{k:Nat}{c:C}(h:l[k]? =some c):oE (l.take (k+1))=oE (l.take k)+di (aB c):=by
 rw[abZ,h,aea,Bt]
theorem Bc(w0:W0)(k:Nat)(n:N)(l:List C)(S:St)(h:VI k n l)(hk:k≤116):ab Tryz.prog w0 21 [eL n l] S (fun d S'=>d=dI (dv (n,l))∧S'=S):=by
 have hln:=h.len;have hfn:=SA h.dir hk;have hfl:=TS h hk;have hd:=fun S=>AY w0 h.dir hk S;have hc:=fun c (hc:c∈l) S=>AY w0 (h.cell c hc).2.1 hk S;refine aJ [] mx Tryz.func21 rfl rfl (by kernel_rfl) ?_;refine @aa _ (ai @Tryz.ntmps21 ?_);intro b;refine ae (hd _) ?_;refine @aa _ (af ?_);refine aw [] l.length [1,3,4] (fun k=>[(3,dI ((di n+oE (l.take k):Nat):Int)),(4,dI k)]) (fun _=>⟨(b.n,[dI n.aj,dB n.leaf,.sl 4 false (n.l.map dC),.sl 4 false (l.map yO)])::S.box,S.acc⟩) (fun _=>True) mx (by kernel_rfl) ?_ ?_
 ·refine @aa _ (af ?_);rfl
 ·intro j hj _;refine @aa _ (af ?_);refine⟨fun hlt=>⟨hlt,fun a ha=>?_⟩,fun hge=>?_⟩
  ·have h1:=Lh ha;have h2:=Ax l (j+1);refine ae (hc a (aap ha) _) ?_;refine @aa _ (af ?_);exact⟨hlt,by rw[aG (by omega) (by omega)];omega,aZ j (by omega)⟩
  ·rw[aaA (by omega)];rfl
theorem Gd(w0:W0)(l:List Int)(S:St)(h0:l.length≤1048576):
 ab Tryz.prog w0 53 [dL l] S (fun d S'=>∃lp:FN S.acc,d= .acc lp.n l.length∧S'=⟨S.box,(lp.n,.arr 1 ((bE l).map dI))::S.acc⟩):=by
 refine mU [2,1002] mx Tryz.func53 rfl rfl (by kernel_rfl) ?_;simp(maxDischargeDepth:=12) (maxSteps:=1000000) -implicitDefEqProofs only[Tryz.ntmps53,go_sem,Nat.reduceAdd,Nat.reduceSub,Nat.reduceMul,Nat.reduceLeDiff,Nat.reduceEqDiff,Nat.reduceGT,Nat.reduceBEq,reduceCtorEq,↓reduceIte,Int.reduceToNat,Int.reduceLE,Int.reduceLT,Int.reduceNe,Int.reduceEq];refine fH 3 1 rfl (by omega) fun l0=>?_;refine eI [1002] [] mx (by kernel_rfl) ?_;refine @aa _ (af ?_);refine jf [1002] (σ:=Nat×FN S.acc) [0,3,4] (fun s=>[(3,.acc s.2.n s.1),(4,dI s.1)]) (fun s=>⟨S.box,(s.2.n,.arr 1 ((bE (l.take s.1)).map dI))::S.acc⟩) (fun s=>s.1≤l.length) (fun s=>l.length-s.1) (0,l0) mx (by kernel_rfl) ?_ ?_
 ·rw[show bE (l.take 0)=[]by simp[bE]];refine @aa _ (af ?_);omega
 ·rintro⟨k,lq⟩ hk;simp only at hk;have hsl:(bE (l.take k)).length=k:=by rw[aE,aaE];omega
  refine @aa _ (af ?_);refine⟨fun hlt=>?_,fun hge=>⟨lq,by rw[show k=l.length by omega],by rw[aaA (by omega)]⟩⟩;obtain⟨x,hx⟩:∃x,l[k]? =some x:=⟨_,aay hlt⟩
  have fin:∀j,(∀(i:Nat) a,i<j→(bE (l.take k))[i]? =some a→a≤x)→(∀a,(bE (l.take k))[j]? =some a→x<a)→List.map dI ((bE (l.take k)).take j)++([DV.v (.int .i64 x)]++List.map dI ((bE (l.take k)).drop j))=List.map dI (bE (l.take (k+1))):=by
   intro j hup h;rw[iz hx,←uU (x:=x) (j:=j) hup h];simp[dI]
  refine eI [] [3] mx (by kernel_rfl) ?_;refine @aa _ (ai @hsl ?_);refine jf [] [0,3,4,5] (fun j:Nat=>[(5,dI j)]) (fun _=>S) (fun j=>j≤k∧∀(i:Nat) a,i<j→(bE (l.take k))[i]? =some a→a≤x) (fun j=>k-j) 0 mx (by kernel_rfl) ?_ ?_
  ·refine @aa _ (af ?_);exact⟨by omega,fun i a hi=>by omega⟩
  ·intro j hjj;have hj:=hjj.1;have hup:=hjj.2;clear hjj;refine @aa _ (ai @hsl ?_);have em:min j k=j:=by omega
   have et:(bE (l.take k)).take k=bE (l.take k):=aaA (by omega);rw[em,et];have ek:IntKind.i64.wrap ((k:Int)+1)=((k+1:Nat):Int):=by rw[aG (by omega) (by omega)];omega
   have last:(∀a,(bE (l.take k))[j]? =some a→x<a)→∀b:FN S.acc,∃s':Nat×FN S.acc,s'.fst≤l.length∧l.length-s'.fst<l.length-k∧(Wk (.acc b.n (j+1+(k-j))) (.acc s'.snd.n s'.fst)∧IntKind.i64.wrap ((k:Int)+1)=((s'.fst:Nat):Int))∧Sub ⟨S.box,(s'.snd.n,.arr 1 (List.map dI (bE (l.take s'.fst))))::S.acc⟩ ⟨S.box,(b.n,.arr 1 (List.map dI ((bE (l.take k)).take j)++[DV.v (.int .i64 x)]++List.map dI ((bE (l.take k)).drop j)))::S.acc⟩:=by
    intro h b;refine⟨(k+1,b),by show k+1≤_;omega,by show l.length-(k+1)<_;omega,⟨by show Wk _ (.acc b.n (k+1));rw[show j+1+(k-j)=k+1 by omega];exact .refl _,ek⟩,?_⟩;rw[abA,fin j hup h];exact .refl _
   refine⟨fun h1=>⟨h1,fun a ha=>⟨hlt,fun y hy=>?_⟩⟩,fun h1=>⟨hj,by omega,by unfold maxLen;omega,fun b=>⟨hlt,fun y hy=>?_⟩⟩⟩
   ·cases aC hx hy;refine⟨fun h2=>⟨j+1,⟨by omega,fun i b hi hb=>?_⟩,by omega,aG (by omega) (by omega)⟩,fun h2=>⟨hj,by omega,by unfold maxLen;omega,fun b=>⟨hlt,fun y hy=>?_⟩⟩⟩
    ·by_cases e:i=j
     ·subst e;cases aC ha hb;exact h2
     ·exact hup i b (by omega) hb
    ·cases aC hx hy;exact⟨by omega,by unfold maxLen;omega,by omega,by omega,by unfold maxLen;omega,last (fun b hb=>by cases aC ha hb;omega) b⟩
   ·cases aC hx hy;exact⟨by omega,by unfold maxLen;omega,by omega,by omega,by unfold maxLen;omega,last (fun b hb=>by have:=(aaq.1 hb).1;omega) b⟩
theorem Ip(w0:W0)(d:Nat)(n:N)(S:St)(hn:Nd d n)(ht:bA n≤131072):ab Tryz.prog w0 55 [eN n] S (fun d S'=>∃lp:FN S.acc,d= .acc lp.n (eQ n).length∧S'=⟨S.box,(lp.n,.arr 1 ((eQ n).map dI))::S.acc⟩):=by
 have hle:=rR hn;have hs:=fun S=>Gd w0 (ca n) S (by omega);rw[lW (oS d n hn)]at hs
 have hl:(ca n).length=(eQ n).length:=by
  have:=congrArg List.length (lW (oS d n hn));rw[aE]at this;exact this
 refine rz [] mx Tryz.func55 rfl rfl (by kernel_rfl) ?_;simp(maxDischargeDepth:=12) (maxSteps:=1000000) -implicitDefEqProofs only[Tryz.ntmps55,go_sem,Nat.reduceAdd,Nat.reduceSub,Nat.reduceMul,Nat.reduceLeDiff,Nat.reduceEqDiff,Nat.reduceGT,Nat.reduceBEq,reduceCtorEq,↓reduceIte,Int.reduceToNat,Int.reduceLE,Int.reduceLT,Int.reduceNe,Int.reduceEq];intro b;refine ae (XU w0 d n _ hn ht) ?_;refine @aa _ (af ?_);refine bC (hs _) ?_;rintro d S' ⟨lp,rfl,rfl⟩;refine @aa _ (af ?_);exact⟨_,⟨S.box,(lp.n,.arr 1 ((eQ n).map dI))::S.acc⟩,by rw[hl];exact .refl _,.aX (.refl _),lp,rfl,rfl⟩
theorem KL(w0:W0){k:Nat}{n:N}(h:TB k n)(hk:k≤116)(S:St):ab Tryz.prog w0 55 [eN n] S (fun d S'=>∃lp:FN S.acc,d= .acc lp.n (eQ n).length∧S'=⟨S.box,(lp.n,.arr 1 ((eQ n).map dI))::S.acc⟩):=by
 obtain⟨hr,d,hg,hd,ht⟩:=h;exact Ip w0 d n S (ax hg) (by omega)
theorem OT(w0:W0){k:Nat}{n:N}(h:TB k n)(hk:k≤116)(S:St):ab Tryz.prog w0 55 [eN n] S (fun e S'=>e=dL (eQ n)∧S'=S):=by
 obtain⟨hr,d,hg,hd,ht⟩:=h;exact xA w0 d n S (ax hg) (by omega)
def x9(l:List C):List Int:=l.flatMap fun c=>eQ (aB c)
theorem Mm{l:List C}{k:Nat}{c:C}(h:l[k]? =some c):x9 (l.take (k+1))=x9 (l.take k)++eQ (aB c):=by
 unfold x9;rw[abZ,h,aea,adK];simp
theorem Vg(n:N)(l:List C):aS n l=bE (eQ n++x9 l):=by
 unfold aS iv flat x9;rw[aa9,afU,aeZ,List.flatMap_def];rfl
theorem PR(w0:W0)(k:Nat)(n:N)(l:List C)(S:St)(h:VI k n l)(hk:k≤116)(hlen:(aS n l).length≤1048576):ab Tryz.prog w0 20 [eL n l] S (fun d S'=>∃lp:FN S.acc,d= .acc lp.n (aS n l).length∧S'=⟨S.box,(lp.n,.arr 1 ((aS n l).map dI))::S.acc⟩):=by
 have hln:=h.len;have hd:=fun S=>KL w0 h.dir hk S;have hc:=fun c (hc:c∈l) S=>OT w0 (h.cell c hc).2.1 hk S;rw[Vg,aE]at hlen ⊢;have hs:=fun S=>Gd w0 (eQ n++x9 l) S hlen;refine rz [] mx Tryz.func20 rfl rfl (by kernel_rfl) ?_;simp(maxDischargeDepth:=12) (maxSteps:=1000000) -implicitDefEqProofs only[Tryz.ntmps20,go_sem,Nat.reduceAdd,Nat.reduceSub,Nat.reduceMul,Nat.reduceLeDiff,Nat.reduceEqDiff,Nat.reduceGT,Nat.reduceBEq,reduceCtorEq,↓reduceIte,Int.reduceToNat,Int.reduceLE,Int.reduceLT,Int.reduceNe,Int.reduceEq];intro b;refine bC (hd _) ?_;rintro d S' ⟨lp,rfl,rfl⟩;refine @aa _ (af ?_);refine aw [] l.length [1,3,4] (fun k=>[(3,.acc lp.n (eQ n++x9 (l.take k)).length),(4,dI k)]) (fun k=>⟨(b.n,[dI n.aj,dB n.leaf,.sl 4 false (n.l.map dC),.sl 4 false (l.map yO)])::S.box,(lp.n,.arr 1 ((eQ n++x9 (l.take k)).map dI))::S.acc⟩) (fun _=>True) mx (by kernel_rfl) ?_ ?_
 ·refine @aa _ (af ?_);rw[show x9 []=[]from rfl,ad0,acL,aeS];exact⟨.refl _,.refl _⟩
 ·intro j hj _
  have hpl:(x9 (l.take j)).length≤(x9 l).length:=by
   have:=congrArg (fun l=>(x9 l).length) (adI j l);simp only[x9,adK,c9]at this ⊢;omega
  rw[c9]at hlen;refine @aa _ (af ?_);refine⟨fun hlt=>⟨hlt,fun a ha=>?_⟩,fun hge=> .inr ?_⟩
  ·have e:=Mm ha
   have hpl2:(x9 (l.take (j+1))).length≤(x9 l).length:=by
    have:=congrArg (fun l=>(x9 l).length) (adI (j+1) l);simp only[x9,adK,c9]at this ⊢;omega
   have el:=congrArg List.length e;rw[c9]at el;refine ae (hc a (aap ha) _) ?_;refine @aa _ (af ?_);rw[e,←abA,aa1 (l₁:=eQ n++_)];refine⟨by omega,by unfold maxLen;omega,hlt,⟨?_,aZ j (by omega)⟩,.refl _⟩;rw[c9,aex];exact .refl _
  ·rw[aaA (by omega)];refine bC (hs _) ?_;rintro d S' ⟨lp2,rfl,rfl⟩;refine @aa _ (af ?_);have hn:jF S.acc lp2.m:=(show jF ((lp.n,_)::S.acc) lp2.m from lp2.h).2.2;exact⟨.acc lp2.n (eQ n++x9 l).length,⟨S.box,(lp2.n,.arr 1 ((bE (eQ n++x9 l)).map dI))::S.acc⟩,by rw[c9];exact .refl _,.aX (.Lo (.nJ (.refl _))),⟨lp2.m,hn⟩,by rw[c9];rfl,rfl⟩
def IJ(p:Pl)(k:Nat):List Int:=(bE p.free).take k++bN p.high (k-p.free.length)
theorem RJ(p:Pl)(k:Nat):(IJ p k).length=k:=by
 unfold IJ;rw[c9,aaE,aE,dX];omega
theorem UN{p:Pl}{k:Nat}{a:Int}(h:(bE p.free)[k]? =some a):IJ p (k+1)=IJ p k++[a]:=by
 have hk:=(aaq.1 h).1;rw[aE]at hk;unfold IJ;rw[iz h,show k+1-p.free.length=0 by omega,show k-p.free.length=0 by omega];simp[bN]
theorem Vd{p:Pl}{k:Nat}(h:p.free.length≤k):IJ p (k+1)=IJ p k++[p.high+(k-p.free.length:Nat)]:=by
 unfold IJ;rw[aaA (by rw[aE];omega),aaA (by rw[aE];omega),show k+1-p.free.length=(k-p.free.length)+1 by omega,jQ,abA]
theorem MC(p:Pl)(m:Int):IJ p m.toNat=cf p m:=by
 unfold IJ cf bz;rw[show m.toNat-p.free.length=m.toNat-min m.toNat p.free.length by omega];congr 1;by_cases h:m.toNat≤p.free.length
 ·rw[aff h]
 ·rw[aaA (by rw[aE];omega),aaA (by rw[aE];omega)]
theorem Gq(w0:W0)(p:Pl)(q m:Int)(S:St)(h0:p.free.length≤1048576)(h1: -1099511627776≤p.high)(h2:p.high≤1048576)(h3: -1099511627776≤q)(h4:q≤1048576)(hm:may p q m):
 ab Tryz.prog w0 37 [dP p,dI q,dI m] S (fun d S'=>d= .bM [dP (take p m),dL (cf p m),dB true]∧S'=S):=by
 have hr:cR p q≤2199023255552:=by unfold cR;split <;>omega
 have hm0:=hm.1;have hm1:=hm.2;refine aJ [5] mx Tryz.func37 rfl rfl (by kernel_rfl) ?_;refine @aa _ (ai @Tryz.ntmps37 ?_);intro b b1;refine⟨fun h=>by omega,fun h=>?_⟩;refine ae (Ts w0 p q _ h0 (by omega) (by omega) (by omega) (by omega)) ?_;refine @aa _ (af ?_);refine⟨fun h'=>by omega,fun h'=>?_⟩;refine ae (k7 w0 p.free _ (by omega)) ?_;refine @aa _ (af ?_);refine fH 10 1 rfl (by omega) fun l=>?_;refine eI [] [] mx (by kernel_rfl) ?_;refine @aa _ (af ?_);refine aw [] m.toNat [2,3,6,9,10,11] (fun k=>[(10,.acc l.n k),(11,dI k)]) (fun k=>⟨(b1.n,[dI 0,.sl 0 true [],.sl 0 true []])::(b.n,[dI (p.high+(k-p.free.length:Nat)),.sl 1 false (p.free.map dI),.sl 2 false (p.wait.map dW)])::S.box,(l.n,.arr 1 ((IJ p k).map dI))::S.acc⟩) (fun _=>True) mx (by kernel_rfl) ?_ ?_
 ·refine @aa _ (af ?_);rw[show(0-p.free.length:Nat)=0 by omega,show p.high+((0:Nat):Int)=p.high by omega,show IJ p 0=[]by unfold IJ;rw[show(0-p.free.length:Nat)=0 by omega];rfl];exact .refl _
 ·intro k hk _;have hl:=RJ p k;have hsl:=aE p.free;refine @aa _ (aM @hl @hsl ?_);refine⟨fun hlt=>⟨fun hf=>⟨hf,fun a ha=>?_⟩,fun hf=>?_⟩,fun hge=>?_⟩
  ·rw[UN ha,aa1,show k+1-p.free.length=k-p.free.length by omega];exact⟨by omega,by unfold maxLen;omega,by omega,aG (by omega) (by omega),.refl _⟩
  ·rw[Vd (by omega),aa1,show k+1-p.free.length=(k-p.free.length)+1 by omega,aG (n:=p.high+_+1) (by omega) (by omega),show p.high+((k-p.free.length+1:Nat):Int)=p.high+((k-p.free.length:Nat):Int)+1 by omega];exact⟨by omega,by unfold maxLen;omega,by omega,aG (by omega) (by omega),.refl _⟩
  ·have e:k=m.toNat:=by omega
   subst e;have ho:bz p m=min m.toNat p.free.length:=rfl;have hts:(bE p.free).take p.free.length=bE p.free:=aaA (by omega);rw[MC,hts];refine⟨fun h=>?_,fun h=>⟨hm0,by omega,?_⟩⟩
   ·have e1:(take p m).high=p.high+((m.toNat-p.free.length:Nat):Int):=by
     show p.high+((m.toNat-bz p m:Nat):Int)=_;rw[ho,Nat.min_eq_right (by omega)]
    have e2:(take p m).free=(bE p.free).drop p.free.length:=by
     show(bE p.free).drop (bz p m)=_;rw[ho,Nat.min_eq_right (by omega)]
    rw[e1,e2];exact .refl _
   ·have e1:(take p m).high=p.high+((m.toNat-p.free.length:Nat):Int):=by
     show p.high+((m.toNat-bz p m:Nat):Int)=_;rw[ho,aff (by omega)];omega
    have e2:(take p m).free=(bE p.free).drop m.toNat:=by
     show(bE p.free).drop (bz p m)=_;rw[ho,aff (by omega)]
    rw[e1,e2];exact .refl _
theorem QF(w0:W0)(p:Pl)(t:Int)(l:List Int)(S:St)(h0:p.wait.length≤1048576)(h1:l.length≤1048576)(hw:∀w,w∈p.wait→w.bG<t):
 ab Tryz.prog w0 40 [dP p,dU t,dL l] S (fun d S'=>d=dP (mo p t l)∧S'=S):=by
 by_cases hl:l=[]
 ·subst hl;rw[show mo p t []=p from if_pos rfl];refine aJ [] mx Tryz.func40 rfl rfl (by kernel_rfl) ?_;refine @aa _ (ai @Tryz.ntmps40 ?_);trivial
 ·rw[nx hl fun w hx e=>by have:=hw w (aap hx);omega];have hl0:0<l.length:=ad9.2 hl;refine aJ [4] mx Tryz.func40 rfl rfl (by kernel_rfl) ?_;refine @aa _ (ai @Tryz.ntmps40 ?_);intro b b1;refine⟨fun h=>by omega,fun _=>?_⟩;refine fH 7 2 rfl (by omega) fun lw=>?_;refine eI [] [] mx (by kernel_rfl) ?_;refine @aa _ (af ?_);refine⟨by omega,by unfold maxLen;omega,fun h=>⟨?_,?_,?_,fun a ha=>⟨fun e=>?_,fun _=>ae (k7 w0 l _ h1) ?_⟩⟩,fun _=>ae (k7 w0 l _ h1) ?_⟩
  ·rw[aG (by omega) (by omega)];omega
  ·rw[aG (by omega) (by omega)];omega
  ·rw[aG (by omega) (by omega)];omega
  ·have:=hw a (aap ha);omega
  ·refine @aa _ (af ?_);rw[aa1];exact⟨by omega,by unfold maxLen;omega,.refl _⟩
  ·refine @aa _ (af ?_);rw[aa1];exact⟨by omega,by unfold maxLen;omega,.refl _⟩
theorem oF(f:List Int)(l:List Wt)(a:Wt):flat (f::kO (l++[a]))=flat (f::kO l)++a.an:=by
 rw[qI];unfold flat kO;simp
theorem Ru(l:List Wt)(k:Nat):nW (l.take k)≤nW l:=by
 have:=congrArg nW (adI k l);unfold nW at this ⊢;rw[aa1,aeo]at this;omega
theorem vj(w0:W0)(p:Pl)(o:Int)(hd:Bool)(S:St)(h0:p.wait.length≤1048576)(h1:p.free.length+nW p.wait≤1048576):
 ab Tryz.prog w0 35 [dP p,dU o,dB hd] S (fun d S'=>d=dP (release p o hd)∧S'=S):=by
 refine aJ [3] mx Tryz.func35 rfl rfl (by kernel_rfl) ?_;refine @aa _ (ai @Tryz.ntmps35 ?_);intro b b1;refine fH 7 1 rfl (by omega) fun lf=>?_;refine fH 8 2 rfl (by omega) fun lw=>?_;refine eI [] [] mx (by kernel_rfl) ?_;refine @aa _ (af ?_);refine⟨by omega,by unfold maxLen;omega,?_⟩;refine aw [] p.wait.length [1,2,3,6,7,8,9] (fun k=>[(7,.acc lf.n (flat (p.free::kO (gR o hd (p.wait.take k)))).length),(8,.acc lw.n (gj o hd (p.wait.take k)).length),(9,dI k)]) (fun k=>⟨(b1.n,[dI 0,.sl 0 true [],.sl 0 true []])::(b.n,[dI p.high,dL p.free,.sl 2 false (p.wait.map dW)])::S.box,(lw.n,.arr 2 ((gj o hd (p.wait.take k)).map dW))::(lf.n,.arr 1 ((flat (p.free::kO (gR o hd (p.wait.take k)))).map dI))::S.acc⟩) (fun k=>True) mx (by kernel_rfl) ?_ ?_
 ·refine @aa _ (af ?_);exact⟨⟨by rw[show flat (p.free::kO (gR o hd []))=p.free from iU _];exact .refl _,.refl _⟩,by rw[show flat (p.free::kO (gR o hd []))=p.free from iU _];exact .refl _⟩
 ·intro k hk _
  have hb:∀k,(flat (p.free::kO (gR o hd (p.wait.take k)))).length≤1048576:=fun k=>by
   rw[iY];have:=xc (fun w=>!(hd&&decide (o<w.bG))) (p.wait.take k);have:=Ru p.wait k;unfold gR;omega
  have g1:=xj o hd (p.wait.take k);rw[aaE]at g1;have hb0:=hb k;have hb1:=hb (k+1);have hs:=fun S=>k7 w0 (flat (p.free::kO (gR o hd p.wait))) S (by have:=hb p.wait.length;rw[aed]at this;exact this);refine @aa _ (af ?_);refine⟨fun hlt=>⟨fun hh=>⟨hlt,fun a ha=>?_⟩,fun hh=>⟨hlt,fun a ha=>⟨fun ht=>⟨hlt,fun c hc=>?_⟩,fun ht=>⟨hlt,fun c hc=>?_⟩⟩⟩⟩,fun hge=>?_⟩
  ·obtain⟨e1,e2⟩:=ui ha (.inl hh);rw[e2,oF,c9]at hb1;rw[e1,e2,oF,c9,aa1];exact⟨by omega,by unfold maxLen;omega,hlt,⟨.refl _,.refl _,aG (by omega) (by omega)⟩,.refl _⟩
  ·cases aC ha hc;obtain⟨e1,e2⟩:=ui (h:=hd) ha (.inr (by omega:¬a.bG>o));rw[e2,oF,c9]at hb1;rw[e1,e2,oF,c9,aa1];exact⟨by omega,by unfold maxLen;omega,hlt,⟨.refl _,.refl _,aG (by omega) (by omega)⟩,.refl _⟩
  ·cases aC ha hc;obtain⟨e1,e2⟩:=Cy ha hh (by omega:a.bG>o);rw[e1,e2,c9,aa1];exact⟨by omega,by unfold maxLen;omega,hlt,⟨.refl _,.refl _,aG (by omega) (by omega)⟩,.refl _⟩
  ·rw[aaA (by omega)];refine .inr (ae (hs _) ?_);refine @aa _ (af ?_);exact .refl _
theorem LK(w0:W0)(n:Nat)(S:St)(h:n≤1000000):ab Tryz.prog w0 90 [dI n] S (fun d S'=>d=dI ((n+58)/59:Nat)∧S'=S):=by
 refine aJ [] mx Tryz.func90 rfl rfl (by kernel_rfl) ?_;refine @aa _ (ai @Tryz.ntmps90 ?_);refine aw [] ((n+58)/59) [0,3] (fun k=>[(3,dI k)]) (fun _=>S) (fun _=>True) mx (by kernel_rfl) ?_ ?_
 ·exact @aa _ aF
 ·intro k hk _;have ek:IntKind.i64.wrap ((k:Int)*59)=((k*59:Nat):Int):=by rw[aG (by omega) (by omega)];omega
  refine @aa _ (ai @ek ?_);exact⟨fun _=>⟨fun h1=>⟨by omega,by rw[aG (by omega) (by omega)];omega⟩,fun h1=>by omega⟩,fun h1=>by omega⟩
theorem SV(w0:W0)(l:List Int)(n:Int)(S:St)(hl:l.length≤1000000)(hn:n∉l):ab Tryz.prog w0 92 [dL l,dI n] S (fun d S'=>d=dB false∧S'=S):=by
 refine aJ [] mx Tryz.func92 rfl rfl (by kernel_rfl) ?_;refine @aa _ (ai @Tryz.ntmps92 ?_);refine aw [] l.length [0,1,5] (fun k=>[(5,dI k)]) (fun _=>S) (fun _=>True) mx (by kernel_rfl) ?_ ?_
 ·exact @aa _ aF
 ·intro k hk _;refine @aa _ (af ?_);exact fun hlt=>⟨hlt,fun a ha=>⟨fun e=>hn (e▸aap ha),fun _=>⟨hlt,by rw[aG (by omega) (by omega)];omega⟩⟩⟩
theorem LY(w0:W0)(l:List Int)(S:St)(hl:l.length≤1000000)(hr:Row l 1000):ab Tryz.prog w0 91 [dL l] S (fun d S'=>d=dB true∧S'=S):=by
 refine aJ [] mx Tryz.func91 rfl rfl (by kernel_rfl) ?_;refine @aa _ (ai @Tryz.ntmps91 ?_);refine aw [] l.length [0,3] (fun k=>[(3,dI k)]) (fun _=>S) (fun _=>True) mx (by kernel_rfl) ?_ ?_
 ·exact @aa _ aF
 ·intro k hk _;refine @aa _ (af ?_);refine fun hlt=>⟨hlt,fun a ha=>?_⟩;obtain⟨r1,r2,r3⟩:=hr k a hlt ha;refine⟨fun h=>by omega,fun _=>⟨hlt,fun b hb=>?_⟩⟩;cases aC ha hb;refine⟨fun h=>by omega,fun _=>⟨fun h0=>⟨hlt,fun c hc=>?_⟩,fun _=>⟨hlt,by rw[aG (by omega) (by omega)];omega⟩⟩⟩;cases aC ha hc;rw[aG (n:=(k:Int)-1) (by omega) (by omega)];refine⟨by omega,by omega,fun d hd=>⟨fun h=>?_,fun _=>⟨hlt,by rw[aG (by omega) (by omega)];omega⟩⟩⟩;rw[show((k:Int)-1).toNat=k-1 by omega]at hd;have:=r3 d (by omega) hd;omega
theorem Te(w0:W0)(f w:Nat)(S:St)(hf:f≤20000)(hw:w≤20000):ab Tryz.prog w0 41 [dI f,dI w] S (fun d S'=>d=dI (oZ f w)∧S'=S):=by
 have hN:=fun n h S=>LK w0 n S h;have hl:=se f w;have his:=Ei f w;have hno:=fun k=>DG (f:=f) (w:=w) (k:=k);refine aJ [] mx Tryz.func41 rfl rfl (by kernel_rfl) ?_;refine @aa _ (ai @Tryz.ntmps41 ?_);refine⟨fun h=>by omega,fun _=>⟨fun h=>by omega,fun _=>?_⟩⟩;generalize oZ f w=o at*;refine aw [] o [0,1,5] (fun k=>[(5,dI k)]) (fun _=>S) (fun _=>True) mx (by kernel_rfl) ?_ ?_
 ·exact @aa _ aF
 ·intro k hk _;have e3:IntKind.i64.wrap ((f:Int)-k)=(f:Int)-k:=aG (by omega) (by omega);have e6:(f:Int)-k<0→IntKind.i64.wrap (0+(w:Int))=((f-k+w:Nat):Int):=fun h=>by rw[aG (by omega) (by omega)];omega
  have e7:¬(f:Int)-k<0→IntKind.i64.wrap ((f:Int)-k+w)=((f-k+w:Nat):Int):=fun h=>by rw[aG (by omega) (by omega)];omega
  have hfin:(((f-k+w+58)/59:Nat)≤k→k=o)∧(¬((f-k+w+58)/59:Nat)≤k→k<o):=by
   refine⟨fun h=>?_,fun h=>?_⟩
   ·rcases adR k o with h1|h1
    ·have:=hno k h1;unfold qo at this;rw[decide_eq_false_iff_not]at this;exact absurd h this
    ·omega
   ·rcases adR k o with h1|h1
    ·exact h1
    ·have:k=o:=by omega
     subst this;unfold qo at his;rw[decide_eq_true_eq]at his;exact absurd his h
  refine @aa _ (ai @e3 ?_);refine⟨fun _=>⟨fun h=>?_,fun h=>?_⟩,fun h=>by omega⟩
  ·rw[e6 h];refine ae (hN (f-k+w) (by omega) _) ?_;refine @aa _ (af ?_);exact⟨hfin.1,fun h=>⟨hfin.2 h,by rw[aG (by omega) (by omega)];omega⟩⟩
  ·rw[e7 h];refine ae (hN (f-k+w) (by omega) _) ?_;refine @aa _ (af ?_);exact⟨hfin.1,fun h=>⟨hfin.2 h,by rw[aG (by omega) (by omega)];omega⟩⟩
theorem XD(w0:W0)(l at_:List Int)(S:St)(hl:l.length≤100000)(ha:at_.length≤100000)(hr:Row l 1000)(hm:l.length≤59*at_.length)(hn:at_.Nodup)(hra:∀x,x∈at_→2≤x∧x≤999∧x∉l):
 ab Tryz.prog w0 43 [dL l,dL at_] S (fun d S'=>d= .bM [.sl 1 false ((eU l at_).map dS),dI 0]∧S'=S):=by
 have hll:=l3 l at_;have hpk:=fun k S=>Ai w0 4 [gu l at_ k] S (by decide) (by have:=qF l at_ k;simp only[ct,aa9,adT,adb,aeQ];omega);refine aJ [5] mx Tryz.func43 rfl rfl (by kernel_rfl) ?_;refine @aa _ (ai @Tryz.ntmps43 ?_);refine ae (LY w0 l _ (by omega) hr) ?_;refine @aa _ (af ?_);refine ae (LK w0 l.length _ (by omega)) ?_;refine @aa _ (af ?_);refine⟨fun h=>absurd h (by omega),fun _=>?_⟩;refine fH 7 1 rfl (by omega) fun lo=>?_;refine eI [] [] mx (by kernel_rfl) ?_;refine @aa _ (af ?_);refine aw [] at_.length [0,1,7,8] (fun k=>[(7,.acc lo.n k),(8,dI k)]) (fun k=>⟨S.box,(lo.n,.arr 1 (((eU l at_).take k).map dS))::S.acc⟩) (fun _=>True) mx (by kernel_rfl) ?_ ?_
 ·exact @aa _ aF
 ·intro k hk _;have e1:IntKind.i64.wrap ((k:Int)+1)=((k+1:Nat):Int):=by rw[aG (by omega) (by omega)];omega
  have e2:IntKind.i64.wrap (59*(k:Int))=((59*k:Nat):Int):=by rw[aG (by omega) (by omega)];omega
  have e4:IntKind.i64.wrap (((59*k:Nat):Int)+59)=((59*k+59:Nat):Int):=by rw[aG (by omega) (by omega)];omega
  have hm8:maxLen=9223372036854775807:=rfl;have hcl:=FF l at_ k;have hcb:=Kz l at_ k hr hra;refine @aa _ (sL @e1 @e2 @e4 @hll ?_);refine⟨fun hlt=>⟨hlt,fun a ha1=>?_⟩,fun hge=>⟨by omega,by rw[aaA (by omega)];exact .refl _⟩⟩;have hra1:=hra a (aap ha1)
  have hnt:a∉at_.take k:=fun hx=>by
   have e:at_=at_.take k++at_.drop k:=(adI k at_).symm;rw[e]at hn;refine(ad2.1 hn).2.2 a hx a ?_ rfl;refine aap (i:=0) ?_;rw[aeg];exact ha1
  refine⟨fun h=>by omega,fun _=>⟨hlt,fun b hb=>?_⟩⟩;cases aC ha1 hb;refine⟨fun h=>by omega,fun _=>⟨by omega,hlt,fun c hc=>?_⟩⟩;cases aC ha1 hc;refine aK (SV w0 (at_.take k) a _ (by rw[aaE];omega) hnt) ?_;refine @aa _ (sL @e1 @e2 @e4 @hll ?_);refine⟨hlt,fun d hd=>?_⟩;cases aC ha1 hd;refine aK (SV w0 l a _ (by omega) hra1.2.2) ?_
  have hx:(k+1<at_.length∧at_[k+1]? =some (ij at_ k))∨(¬k+1<at_.length∧ij at_ k=0):=by
   unfold ij;rcases adR (k+1) at_.length with h|h
   ·exact .inl ⟨h,by rw[aay h];rfl⟩
   ·exact .inr ⟨by omega,by rw[ad6 h];rfl⟩
  have hnx:0≤ij at_ k∧ij at_ k<1000:=hcb _ aaX;have eu:IntKind.u64.wrap (ij at_ k)=ij at_ k:=gl (by omega) (by omega);refine @aa _ (sL @e1 @e2 @e4 @hll ?_);have hdl:((l.drop (59*k)).take 59).length=min 59 (l.length-59*k):=by rw[aaE,acv]
  have hz0:bq 2 (ij at_ k)=fA ((pd l at_ k).take (0+1)):=by
   show _=aN++bq 2 (ij at_ k);exact ByteArray.empty_append.symm
  have hfin:fA ((pd l at_ k).take (((l.drop (59*k)).take 59).length+1))=gu l at_ k:=by
   rw[aaA (by show(ij at_ k::_).length≤_;rw[abx];exact abI _)];rfl
  have hsz:∀j,j≤60→(fA ((pd l at_ k).take j)).size≤120:=fun j hj=>by rw[iC,aaE];omega
  have hlst:(eU l at_).take (k+1)=(eU l at_).take k++[fC 4 [gu l at_ k]]:=by
   have:=uP l at_ k hlt;rw[abZ,this];rfl
  have hnu:=fun S=>pA w0 (ij at_ k) 2 S (by decide) (by decide);have e0:IntKind.u64.wrap 0=0:=by decide
  refine⟨fun h=>⟨h,fun a2 ha2=>ae (hnu _) ?_ (by
   rcases hx with⟨h1,h2⟩|⟨h1,h2⟩
   ·cases aC h2 ha2;rw[eu];exact fV.refl _
   ·exact absurd h h1)⟩,fun h=>ae (hnu _) ?_ (by
   rcases hx with⟨h1,h2⟩|⟨h1,h2⟩
   ·exact absurd h1 h
   ·rw[h2,e0];exact fV.refl _)⟩
  all_goals
   refine @aa _ (sL @e1 @e2 @e4 @hll ?_);refine aw [] ((l.drop (59*k)).take 59).length [0,1,7,8,10,11] (fun j=>[(10,dS (fA ((pd l at_ k).take (j+1)))),(11,dI (59*k+j:Nat))]) (fun _=>⟨S.box,(lo.n,.arr 1 (((eU l at_).take k).map dS))::S.acc⟩) (fun _=>True) mx (by kernel_rfl) ?_ ?_
   ·refine @aa _ (af ?_);rw[hz0];exact⟨rfl,rfl⟩
   ·intro j hj _;have ej:IntKind.i64.wrap (((59*k+j:Nat):Int)+1)=((59*k+(j+1):Nat):Int):=by rw[aG (by omega) (by omega)];omega
    refine @aa _ (rn @ej @e1 @e2 @e4 @hll ?_);refine⟨fun h1=>⟨fun h2=>⟨h1,fun c hc2=>?_⟩,fun h2=>?_⟩,fun h1=>?_⟩
    ·have hcm:(pd l at_ k)[j+1]? =some c:=by
      show(ij at_ k::_)[j+1]? =_;rw[afl,adU,if_pos (by omega),aeg,hc2]
     have hb2:=hcb c (aap hcm);have hs2:fA ((pd l at_ k).take (j+1+1))=fA ((pd l at_ k).take (j+1))++bq 2 c:=by rw[abZ,hcm];exact pH _ _
     have hz1:=hsz (j+1) (by omega);have hz2:=az 2 c;rw[gl (n:=c) (by omega) (by omega)];refine ae (pA w0 c 2 _ (by decide) (by decide)) ?_;refine @aa _ (aM @ej @hz2 ?_);exact⟨by omega,by omega,by rw[hs2]⟩
    all_goals
     have hje:j=((l.drop (59*k)).take 59).length:=by omega
     rw[hje,hfin];refine ae (hpk k _) ?_ (.cons (.refl _) (.cons (Wk.full _ _ _) .nil));refine @aa _ (aM @e1 @hll ?_);rw[hlst,aa1];have hmk:min k at_.length=k:=by omega
     rw[hmk];exact⟨rfl,by omega,by omega,hlt,.refl _,.refl _⟩
theorem u6(w0:W0)(k:Nat)(n:N)(l:List C)(S:St)(h:VI k n l)(hk:k≤116)(hlen:(aS n l).length≤1048576):ab Tryz.prog w0 20 [eL n l] S (fun d S'=>d=dL (aS n l)∧S'=S):=by
 refine fF (ab.mono (PR w0 k n l S h hk hlen) ?_);rintro d S' ⟨b,rfl,rfl⟩;exact @aa _ aF
theorem Ln(w0:W0)(l o:List Int)(S:St)(h0:l.length≤1048576)(h1:o.length≤1048576):ab Tryz.prog w0 89 [dL l,dL o] S (fun d S'=>∃lp:FN S.acc,d= .acc lp.n (dg o l).length∧S'=⟨S.box,(lp.n,.arr 1 ((dg o l).map dI))::S.acc⟩):=by
 have hm8:maxLen=9223372036854775807:=rfl;refine mU [2] mx Tryz.func89 rfl rfl (by kernel_rfl) ?_;simp(maxDischargeDepth:=12) (maxSteps:=1000000) -implicitDefEqProofs only[Tryz.ntmps89,go_sem,Nat.reduceAdd,Nat.reduceSub,Nat.reduceMul,Nat.reduceLeDiff,Nat.reduceEqDiff,Nat.reduceGT,Nat.reduceBEq,reduceCtorEq,↓reduceIte,Int.reduceToNat,Int.reduceLE,Int.reduceLT,Int.reduceNe,Int.reduceEq];refine fH 5 1 rfl (by omega) fun lp=>?_;refine eI [] [] mx (by kernel_rfl) ?_;refine @aa _ (af ?_);refine aw [] l.length [0,1,5,6] (fun k=>[(5,.acc lp.n (dg o (l.take k)).length),(6,dI k)]) (fun k=>⟨S.box,(lp.n,.arr 1 ((dg o (l.take k)).map dI))::S.acc⟩) (fun _=>True) mx (by kernel_rfl) ?_ ?_
 ·refine @aa _ (af ?_);exact⟨.refl _,.refl _⟩
 ·intro k hk _;refine @aa _ (af ?_);refine⟨fun hlt=>?_,fun hge=>?_⟩
  ·have hx:l[k]? =some l[k]:=aay hlt;refine aw [] o.length [0,1,5,6,7,8] (fun j=>[(7,dB (jJ (o.take j) l[k])),(8,dI j)]) (fun j=>⟨S.box,(lp.n,.arr 1 ((dg o (l.take k)).map dI))::S.acc⟩) (fun _=>True) mx (by kernel_rfl) ?_ ?_
   ·refine @aa _ (af ?_);rfl
   ·intro j hj _;have hfl:(dg o (l.take k)).length≤1048576:=aeq (List.length_filter_le _ _) (by rw[aaE];omega)
    have hfs:dg o (l.take (k+1))=dg o (l.take k)++if jJ o l[k]then []else [l[k]]:=by
     unfold dg;rw[abZ,hx,aea,aep];congr 1;cases h:jJ o l[k] <;>simp[h]
    have hj1:∀a,o[j]? =some a→jJ (o.take (j+1)) l[k]=(jJ (o.take j) l[k]||decide (a=l[k])):=fun a ha=>by
     unfold jJ;rw[abZ,ha,aea];rw[Bool.eq_iff_iff];simp only[abD,acz,ael,decide_eq_true_eq];exact⟨fun h=>h.imp id Eq.symm,fun h=>h.imp id Eq.symm⟩
    have hk1:IntKind.i64.wrap ((k:Int)+1)=((k+1:Nat):Int):=by rw[aG (by omega) (by omega)];omega
    refine @aa _ (ai @hx ?_);refine⟨fun hlj=>?_,fun hgj=>?_⟩
    ·have ho:o[j]? =some o[j]:=aay hlj;have hj2:IntKind.i64.wrap ((j:Int)+1)=((j+1:Nat):Int):=by rw[aG (by omega) (by omega)];omega
     refine⟨fun hh=>⟨hlj,by rw[hj1 _ ho,hh];rfl,hj2⟩,fun hh=>⟨hlj,fun a ha=>⟨hlt,hlj,by rw[hj1 _ ha,hh];rfl,hj2⟩⟩⟩
    ·rw[aaA (Nat.le_of_not_lt hgj)];refine⟨fun hh=>⟨hlt,⟨?_,hk1⟩,?_⟩,fun hh=>⟨hlt,by omega,by omega,hlt,⟨?_,hk1⟩,?_⟩⟩
     ·rw[hfs,hh];simp only[if_true,ad0];exact .refl _
     ·rw[hfs,hh];simp only[if_true,ad0];exact .refl _
     ·rw[hfs,hh,c9];exact .refl _
     ·rw[hfs,hh,aa1];exact .refl _
  ·rw[aaA (by omega)];exact⟨lp,rfl,rfl⟩
theorem FU(w0:W0)(k:Nat)(n:N)(l:List C)(m:N)(x:List C)(S:St)(h1:VI k n l)(h2:VI k m x)(hk:k≤116)(l1:(aS n l).length≤1048576)(l2:(aS m x).length≤1048576):
 ab Tryz.prog w0 39 [eL n l,eL m x] S (fun d S'=>∃lp:FN S.acc,d= .acc lp.n (dg (aS m x) (aS n l)).length∧S'=⟨S.box,(lp.n,.arr 1 ((dg (aS m x) (aS n l)).map dI))::S.acc⟩):=by
 have ha:=fun S=>u6 w0 k n l S h1 hk l1;have hb:=fun S=>u6 w0 k m x S h2 hk l2;have hw:=fun S=>Ln w0 (aS n l) (aS m x) S l1 l2;refine rz [1] mx Tryz.func39 rfl rfl (by kernel_rfl) ?_;simp(maxDischargeDepth:=12) (maxSteps:=1000000) -implicitDefEqProofs only[Tryz.ntmps39,go_sem,Nat.reduceAdd,Nat.reduceSub,Nat.reduceMul,Nat.reduceLeDiff,Nat.reduceEqDiff,Nat.reduceGT,Nat.reduceBEq,reduceCtorEq,↓reduceIte,Int.reduceToNat,Int.reduceLE,Int.reduceLT,Int.reduceNe,Int.reduceEq];intro b1 b2;refine Y.j4 [] [4] [0,1,2,3,4,5] mx (by kernel_rfl) ?_;refine @aa _ (af ?_);refine Y.lM (fun T _=>ha T) ?_;refine @aa _ (af ?_);refine Y.lM (fun T _=>hb T) ?_;refine @aa _ (af ?_);refine bC (hw _) ?_;rintro d S' ⟨lp,rfl,rfl⟩;refine @aa _ (af ?_);exact⟨_,⟨S.box,(lp.n,.arr 1 ((dg (aS m x) (aS n l)).map dI))::S.acc⟩,.refl _,.aX (.aX (.refl _)),lp,rfl,rfl⟩
theorem Wv(w0:W0)(k:Nat)(n:N)(l:List C)(m:N)(x:List C)(S:St)(h1:VI k n l)(h2:VI k m x)(hk:k≤116)(l1:(aS n l).length≤1048576)(l2:(aS m x).length≤1048576):
 ab Tryz.prog w0 39 [eL n l,eL m x] S (fun d S'=>d=dL (dg (aS m x) (aS n l))∧S'=S):=by
 refine fF (ab.mono (FU w0 k n l m x S h1 h2 hk l1 l2) ?_);rintro d S' ⟨b,rfl,rfl⟩;exact @aa _ aF
theorem Un(w0:W0)(k:Nat)(n:N)(l:List C)(p:Pl)(back:Nat)(S:St)(h:VI k n l)(hk:k≤116)(hf:p.free.length+nW p.wait≤2000)(hw:p.wait.length≤2000)(hb:back≤5000):
 ab Tryz.prog w0 83 [eL n l,dP p,dI back] S (fun d S'=>d=dI (jv (n,l) p back:Nat)∧S'=S):=by
 have hfr:=fun S=>Bc w0 k n l S h hk;have hfl:=DN h hk;have hwt:=fun S=>Av w0 p S (by omega) (by omega);have how:=fun f w S h1 h2=>Te w0 f w S h1 h2;unfold jv;have hon:=se (p.free.length-dv (n,l)) (nW p.wait+back);generalize dv (n,l)=f at*;refine aJ [] mx Tryz.func83 rfl rfl (by kernel_rfl) ?_;refine @aa _ (ai @Tryz.ntmps83 ?_);intro b1 b2;refine ae (hfr _) ?_;have e1:IntKind.i64.wrap ((p.free.length:Int)-f)=(p.free.length:Int)-f:=aG (by omega) (by omega);have e2:IntKind.i64.wrap ((nW p.wait:Int)+back)=((nW p.wait+back:Nat):Int):=by rw[aG (by omega) (by omega)];omega
 refine @aa _ (aM @e1 @e2 ?_);refine⟨fun h=>ae (hwt _) ?_,fun h=>ae (hwt _) ?_⟩
 ·refine @aa _ (aM @e1 @e2 ?_);refine ae (how (p.free.length-f) (nW p.wait+back) _ (by omega) (by omega)) ?_ (by rw[show p.free.length-f=0 by omega];exact fV.refl _);refine @aa _ (af ?_);rw[aG (by omega) (by omega)];omega
 ·refine @aa _ (aM @e1 @e2 ?_);refine ae (how (p.free.length-f) (nW p.wait+back) _ (by omega) (by omega)) ?_ (by rw[show((p.free.length-f:Nat):Int)=(p.free.length:Int)-f by omega];exact fV.refl _);refine @aa _ (af ?_);rw[aG (by omega) (by omega)];omega
theorem Mw(w0:W0)(k:Nat)(n:N)(l:List C)(m:N)(x:List C)(own:List Int)(p:Pl)(q:Int)(S:St)(h1:VI k n l)(h2:VI k m x)(hk:k≤116)(l1:(aS n l).length≤1048576)(l2:(aS m x).length≤1048576)(hb:(dg (aS m x) (aS n l)).length+own.length≤5000)(hf:p.free.length+nW p.wait≤2000)(hw:p.wait.length≤2000)(hh:0≤p.high∧p.high≤1048576)(hq:0≤q∧q≤1048576):
 ab Tryz.prog w0 36 [eL n l,eL m x,dL own,dP p,dI q] S (fun d S'=>d=dB (decide ((jv (m,x) p ((dg (aS m x) (aS n l)).length+own.length):Int)≤cR p q))∧S'=S):=by
 have hl:=fun S=>Wv w0 k n l m x S h1 h2 hk l1 l2;have hn:=fun S=>Un w0 k m x p ((dg (aS m x) (aS n l)).length+own.length) S h2 hk hf hw hb;have hr:=fun S=>Ts w0 p q S (by omega) (by omega) (by omega) (by omega) (by omega);have e1:IntKind.i64.wrap (((dg (aS m x) (aS n l)).length:Int)+own.length)=(((dg (aS m x) (aS n l)).length+own.length:Nat):Int):=by rw[aG (by omega) (by omega)];omega
 refine aJ [] mx Tryz.func36 rfl rfl (by kernel_rfl) ?_;refine @aa _ (ai @Tryz.ntmps36 ?_);intro b1 b2 b3;refine aK (hl _) ?_;refine @aa _ (ai @e1 ?_);refine aK (hn _) ?_;refine @aa _ (af ?_);refine aK (hr _) ?_;refine @aa _ (af ?_);trivial
theorem SS(w0:W0)(label:Int)(S:St):ab Tryz.prog w0 10 [dI label] S (fun d S'=>d=sf (z0 label)∧S'=S):=by
 refine aJ [] mx Tryz.func10 rfl rfl (by kernel_rfl) ?_;refine @aa _ (ai @Tryz.ntmps10 ?_);intro b;refine ae (aau w0 _) ?_;refine @aa _ (af ?_);refine .agg ?_
 repeat (first|exact .nil|refine .cons (.refl _) ?_|refine .cons (.nil _ _ _) ?_)
theorem FV(w0:W0){k:Nat}{z:Zt}(S:St)(hz:ZI k z)(hk:k≤116):ab Tryz.prog w0 19 [sf z] S (fun d S'=>d=dB true∧S'=S):=by
 have ks:=bP hz.keep;have hL:=(fG hz).length_eq;have hS:=xz hz;rw[dX,c9,c9]at hL;have hpg:=fun S=>u6 w0 k z.n z.l S hz.vi hk (by omega);have hli:=fun S=>zk w0 z.p S (by omega) (by omega);have hch:=fun S=>Vc w0 z.p 1000 S (by omega) (by omega);have hc1:pB (IS z.p 1000)=true:=by unfold pB;exact @decide_eq_true _ (Classical.propDecidable _) hz.keep.p7
 rw[hc1]at hch;have hso:=fun S=>k7 w0 (aS z.n z.l++z.own++listed z.p) S (by rw[c9,c9];omega);rw[hS]at hso;have hhi:=hz.high;refine aJ [2] mx Tryz.func19 rfl rfl (by kernel_rfl) ?_;refine @aa _ (ai @Tryz.ntmps19 ?_);intro b1;refine fH 3 1 rfl (by omega) fun lo=>?_;refine eI [] [] mx (by kernel_rfl) ?_;refine @aa _ (af ?_);refine ae (hpg _) ?_;refine @aa _ (af ?_);refine⟨by omega,by unfold maxLen;omega,by omega,by unfold maxLen;omega,ae (hli _) ?_⟩;refine @aa _ (af ?_);refine⟨by omega,by unfold maxLen;omega,.inr (ae (hso _) ?_)⟩;have KH:(bN 2 (z.p.high-2).toNat).length=(z.p.high-2).toNat:=dX _ _;refine @aa _ (ai @KH ?_);refine ae (hch _) ?_;have e3:IntKind.i64.wrap (z.p.high-2)=(((z.p.high-2).toNat:Nat):Int):=by rw[aG (by omega) (by omega)];omega
 refine @aa _ (eE @KH @e3 @hhi ?_);refine aw [] (z.p.high-2).toNat [4,6] (fun k=>[(6,dI k)]) (fun _=>S) (fun _=>True) mx (by kernel_rfl) ?_ ?_
 ·refine @aa _ (af ?_);trivial
 ·intro j hj _;have ej:IntKind.i64.wrap ((j:Int)+1)=((j+1:Nat):Int):=by rw[aG (by omega) (by omega)];omega
  have e2:IntKind.i64.wrap ((j:Int)+2)=(j:Int)+2:=by rw[aG (by omega) (by omega)]
  refine @aa _ (eE @KH @ej @e2 ?_);exact fun hlt=>⟨hlt,fun a ha=>⟨fun h=>h (by have:=AS ha;omega),fun _=>hlt⟩⟩
theorem Om:∀{A B:List Int},A.Nodup→(∀x,x∈A→x∈B)→A.length≤B.length
 |[],_,_,_=>aeh _
 |a::A,B,hn,hs=>by
  rw[aec]at hn;have ha:=hs a aaX;have:=Om (A:=A) (B:=B.erase a) hn.2 fun x hx=>(List.mem_erase_of_ne (fun e=>hn.1 (by rw[←e];exact hx))).2 (hs x (abn _ hx));have hl:=List.length_erase_of_mem ha;have h0:=List.length_pos_of_mem ha;rw[abx];omega
theorem NK{k:Nat}{z:Zt}{n:N}{l:List C}(hz:ZI k z)(hv:ZV k z n l):(aS n l).length≤1000:=by
 have hL:=(fG hz).length_eq;have h2:=hz.keep.p7.2.2.2.1;rw[dX,c9,c9,(uA hz.vi).length_eq]at hL;have:=Om (hv.nd hz) fun x hx=>hv.mem hx;rw[(uA hv.vi).length_eq];omega
theorem RM(w0:W0){k:Nat}{z:Zt}{n:N}{l:List C}{q t:Int}{hd:Bool}(S:St)(hz:ZI k z)(hv:ZV k z n l)(hk:k≤116)(hq0:0≤q)(hq:q≤1000)(hf:¬kH z n l q (release z.p t hd)):
 ab Tryz.prog w0 14 [sf z,eL n l,dI q,dU t,dB hd] S (fun d S'=>d= .bM [sf z,.sl 0 true [],dS aN,dB false]∧S'=S):=by
 have ks:=bP hz.keep;have kr:=bP (jG hz.keep t hd);obtain⟨b1,b2,b3⟩:=je hz n l;have hL:=(fG hz).length_eq;rw[dX,c9,c9]at hL;have hpl:=NK hz hv;have hrel:=fun S=>vj w0 z.p t hd S (by omega) (by omega);have hfi:=fun S=>Mw w0 k z.n z.l n l z.own (release z.p t hd) q S hz.vi hv.vi hk (by omega) (by omega) (by omega) (by omega) (by omega) (by omega) (by omega);have e:decide ((jv (n,l) (release z.p t hd) ((dg (aS n l) (aS z.n z.l)).length+z.own.length):Int)≤cR (release z.p t hd) q)=false:=decide_eq_false fun h=>hf (by unfold kH cg;rw[c9];exact h);rw[e]at hfi;generalize release z.p t hd=p at*;refine aJ [5,11] mx Tryz.func14 rfl rfl (by kernel_rfl) ?_;refine @aa _ (ai @Tryz.ntmps14 ?_);intro b5 b6 b10;refine ae (hrel _) ?_;refine @aa _ (af ?_);intro b14;refine ae (hfi _) ?_;refine @aa _ (af ?_);exact .refl _
theorem PL(w0:W0){k:Nat}{z:Zt}{n:N}{l:List C}{q t:Int}{hd:Bool}{M:N}{X:List C}{R:List Int}{W:List (Int×ByteArray)}(S:St)(hz:ZI k z)(hv:ZV k z n l)(hk:k≤115)(hq0:0≤q)(hq:q≤1000)(hf:kH z n l q (release z.p t hd))
 (hpa:PA k n l (cf (release z.p t hd) (dv (n,l))) M X R W) (hpo:PO k z n l q (release z.p t hd) M X) (hce:WZ n l (cf (release z.p t hd) (dv (n,l))) M X R W):
 ab Tryz.prog w0 14 [sf z,eL n l,dI q,dU t,dB hd] S (fun d S'=>d= .bM [sf (iW z n l (release z.p t hd) M X),.sl 2 false ((LN z n l (release z.p t hd) W).map su),dS (l6 (iW z n l (release z.p t hd) M X).label (iW z n l (release z.p t hd) M X).bG (iW z n l (release z.p t hd) M X).root (iW z n l (release z.p t hd) M X).oX (iW z n l (release z.p t hd) M X).high),dB true]∧S'=S):=by
 have ks:=bP hz.keep;have kp:=jG hz.keep t hd;have kr:=bP kp;obtain⟨b1,b2,b3⟩:=je hz n l;have hL:=(fG hz).length_eq;rw[dX,c9,c9]at hL;have hpl:=NK hz hv;have hrel:=fun S=>vj w0 z.p t hd S (by omega) (by omega);have hfi:=fun S=>Mw w0 k z.n z.l n l z.own (release z.p t hd) q S hz.vi hv.vi (by omega) (by omega) (by omega) (by omega) (by omega) (by omega) (by omega) (by omega);have e:decide ((jv (n,l) (release z.p t hd) ((dg (aS n l) (aS z.n z.l)).length+z.own.length):Int)≤cR (release z.p t hd) q)=true:=decide_eq_true (by unfold kH cg at hf;rw[c9]at hf;exact hf);rw[e]at hfi;have hmt:=qd hpo.m1 hq;have hpv:=MX hz hv kp hmt;obtain⟨hmC,hbC,M1,R1,V1,hld,_⟩:=CB hpv;obtain⟨V,rfl,rfl,hlay⟩:=hce
 have hM:M1=M∧R1=R∧V1=V:=by
  have:=hld.eq.symm.trans hlay;simpa using this
 obtain⟨rfl,rfl,rfl⟩:=hM;generalize release z.p t hd=p at*;have htl:(cf p (dv (n,l))).length=dv (n,l):=by rw[kF];have:=hpo.m1.1;omega
 have hfl:dv (n,l)≤1000:=by
  have h1:=pE kp;rw[iE]at h1;have h2:=hpo.m1.2;unfold cR at h2;split at h2 <;>omega
 have hfr:=fun S=>Bc w0 k n l S hv.vi (by omega);have ht1:=fun S=>Gq w0 p q (dv (n,l)) S (by omega) (by omega) (by omega) (by omega) (by omega) hpo.m1;have hla:=fun S=>Uf w0 k n l (cf p (dv (n,l))) M1 R1 V1 S (by omega) (by omega) hpv hmC hbC hld;refine aJ [5,11] mx Tryz.func14 rfl rfl (by kernel_rfl) ?_;refine @aa _ (ai @Tryz.ntmps14 ?_);intro b5 b6 b10;refine ae (hrel _) ?_;refine @aa _ (af ?_);intro b14;refine ae (hfi _) ?_;refine @aa _ (af ?_);refine pT mx (by kernel_rfl) ?_;refine @aa _ (af ?_);refine kM (fun B hB=>hfr _) ?_;refine @aa _ (af ?_);refine kM (fun B hB=>ht1 _) ?_;refine @aa _ (af ?_);refine OP (hla _) ?_;intro bw;have hback:=hpo.back;obtain⟨t1,t2,t3⟩:=jO kp hmt;have k2:=bP t3;obtain⟨b4,b5',b6'⟩:=je hz M1 (bR l n (cf p (dv (n,l)))).l
 have hplM:(aS M1 (bR l n (cf p (dv (n,l)))).l).length≤1000:=by
  have h1:=(fG hpo.zi).length_eq;have h2:=hpo.zi.keep.p7.2.2.2.1;rw[dX,c9,c9]at h1;have:(aS (iW z n l p M1 (bR l n (cf p (dv (n,l)))).l).n (iW z n l p M1 (bR l n (cf p (dv (n,l)))).l).l).length=(aS M1 (bR l n (cf p (dv (n,l)))).l).length:=rfl;omega
 have hgv:=fun S=>QF w0 (take p (dv (n,l))) (z.bG+1) (cg z n l) S (by omega) (by omega) t3.old;have hg1:=rA (l:=cg z n l) t3.old;have hp3:mo (take p (dv (n,l))) (z.bG+1) (cg z n l)=kJ z n l p:=rfl;have hp4:take (kJ z n l p) (tR z n l p)=jN z n l p:=rfl;have hp5:cf (kJ z n l p) (tR z n l p)=cO z n l p:=rfl;rw[hp3]at hg1 hgv;rw[←hback]at hgv;obtain⟨g1,g2,g3⟩:=hg1;have k4:=bP hpo.zi.keep;have hm2:=hpo.m2;have hw3:(kJ z n l p).wait.length≤1000:=k4.2.1;have hf3:(kJ z n l p).free.length≤1000:=by rw[g1];omega
 have h4a:(jN z n l p).free.length+nW (jN z n l p).wait≤1000:=k4.1;have h4b:(jN z n l p).wait.length≤1000:=k4.2.1
 have hol:(cO z n l p).length≤3000:=by
  rw[←hp5,kF];have h2:=hm2.2;unfold cR at h2;split at h2 <;>omega
 have hlz:(eU (listed (jN z n l p)) (cO z n l p)).length=(cO z n l p).length:=l3 _ _;have hmo:=FI hpo.zi rfl;have htx:=hpo.zi.bG;have hz0:=hz.bG;have eu:IntKind.u64.wrap (z.bG+1)=z.bG+1:=gl (by omega) (by omega);have hlo:=fun S=>FU w0 k z.n z.l M1 (bR l n (cf p (dv (n,l)))).l S hz.vi hpa.vi (by omega) (by omega) (by omega);generalize bR l n (cf p (dv (n,l)))=Cc at*;refine @aa _ (af ?_);intro b18;refine OP (hlo _) ?_;intro bl;refine @aa _ (ai @eu ?_);refine⟨by omega,by unfold maxLen;omega,.inr (ae (hgv _) ?_)⟩;refine @aa _ (ai @eu ?_);refine pT mx (by kernel_rfl) ?_;refine @aa _ (af ?_);have hnw:nW (kJ z n l p).wait≤3000:=by rw[g3];omega
 refine kM (fun B hB=>Av w0 (kJ z n l p) _ (by omega) (by omega)) ?_;refine @aa _ (af ?_);refine kM (fun B hB=>Te w0 (kJ z n l p).free.length (nW (kJ z n l p).wait) _ (by omega) (by omega)) ?_;refine @aa _ (af ?_);have h3h:(kJ z n l p).high≤1000∧2≤(kJ z n l p).high:=by rw[g2];omega
 refine kM (fun B hB=>Gq w0 (kJ z n l p) q (tR z n l p) _ (by omega) (by omega) (by omega) (by omega) (by omega) hm2) ?_;rw[hp4,hp5];refine @aa _ (af ?_);refine ae (zk w0 (jN z n l p) _ (by omega) (by omega)) ?_;refine @aa _ (af ?_);have hlen4:(listed (jN z n l p)).length≤2000:=by rw[iE];omega
 refine ae (XD w0 (listed (jN z n l p)) (cO z n l p) _ (by omega) (by omega) hpo.row hpo.many hpo.nd hpo.pG) ?_;refine @aa _ (af ?_)
 have hwl:(Cc.w++V1).length≤1000:=by
  have:=congrArg List.length hpa.wr;rw[abv,aaE]at this;omega
 have hZm:sx z.label (z.bG+1) M1.aj ((cO z n l p).headD 0) (jN z n l p).high:=⟨hz.label,⟨by omega,by have h2:z.bG+1≤((k+1:Nat):Int):=htx.2;omega⟩,hmo.2.2.2,hmo.1,hmo.2.1,hmo.2.2.1⟩;have hput:=fun S=>Vl w0 S hZm;have hres:sf (iW z n l p M1 Cc.l)= .agg (dI z.label::dU (z.bG+1)::dI M1.aj::dI ((cO z n l p).headD 0)::dI (jN z n l p).high::dI M1.aj::dB M1.leaf:: .sl 4 false (M1.l.map dC):: .sl 4 false (Cc.l.map yO)::dL (cO z n l p)::dI (jN z n l p).high:: .sl 1 false ((jN z n l p).free.map dI):: .sl 2 false ((jN z n l p).wait.map dW)::[]):=rfl;have hres2:l6 (iW z n l p M1 Cc.l).label (iW z n l p M1 Cc.l).bG (iW z n l p M1 Cc.l).root (iW z n l p M1 Cc.l).oX (iW z n l p M1 Cc.l).high=l6 z.label (z.bG+1) M1.aj ((cO z n l p).headD 0) (jN z n l p).high:=rfl;have hres3:LN z n l p (Cc.w++V1)=(Cc.w++V1)++(cO z n l p).zip (eU (listed (jN z n l p)) (cO z n l p)):=rfl;have hzl:((cO z n l p).zip (eU (listed (jN z n l p)) (cO z n l p))).length=(cO z n l p).length:=by rw[aeU,hlz,Nat.min_self]
 have hlh:∀a,(cO z n l p)[0]? =some a→(cO z n l p).headD 0=a:=fun a ha=>by
  cases hO:cO z n l p with
  |nil=>rw[hO]at ha;cases ha
  |cons x t=>rw[hO]at ha;exact aen ha
 have hl0:(cO z n l p).length=0→(cO z n l p).headD 0=0:=fun h=>by rw[aa4 h];rfl
 rw[hres,hres2,hres3];have hWl:Cc.w.length+V1.length=(Cc.w++V1).length:=by rw[c9]
 generalize l6 z.label (z.bG+1) M1.aj ((cO z n l p).headD 0) (jN z n l p).high=PG at*;generalize eU (listed (jN z n l p)) (cO z n l p)=LS at*;generalize cO z n l p=O at*;generalize jN z n l p=P4 at*;generalize Cc.w++V1=W0 at*;generalize hZP:O.zip LS=ZP at*;refine aw [] O.length [5,10,14,18,19,20,22,24,26] (fun j=>[(19,.acc bw.n (W0++ZP.take j).length),(26,dI j)]) (fun j=>⟨(b18.n,[dI M1.aj,dB M1.leaf,.sl 4 false (M1.l.map dC),.sl 4 false (Cc.l.map yO)])::(b14.n,[dI P4.high,.sl 1 false (P4.free.map dI),.sl 2 false (P4.wait.map dW)])::(b10.n,[dI 0,dU 0,dI 0,dI 0,dI 0,dI 0,dB false,.sl 0 true [],.sl 0 true [],.sl 0 true [],dI 0,.sl 0 true [],.sl 0 true []])::(b6.n,[dI n.aj,dB n.leaf,.sl 4 false (n.l.map dC),.sl 4 false (l.map yO)])::(b5.n,Fa z)::S.box,(bw.n,.arr 2 ((W0++ZP.take j).map su))::S.acc⟩) (fun _=>True) mx (by kernel_rfl) ?_ ?_
 ·refine @aa _ (af ?_);rw[hWl];exact .refl _
 ·intro j hj _;have ej:IntKind.i64.wrap ((j:Int)+1)=((j+1:Nat):Int):=by rw[aG (by omega) (by omega)];omega
  refine @aa _ (ai @ej ?_);refine⟨fun hlt=>?_,fun hge=>?_⟩
  ·refine⟨by omega,fun a ha=>⟨hlt,fun c hc=>?_⟩⟩;have hzc:ZP[j]? =some (a,c):=by rw[←hZP,afC];exact⟨ha,hc⟩
   rw[iz hzc,←abA,aa1 (l₁:=W0++_)];exact⟨by omega,by unfold maxLen;omega,by omega,by rw[show min j ZP.length=j by omega,show min (j+1) ZP.length=j+1 by omega];exact .refl _,.refl _⟩
  ·rw[aaA (by omega)];intro b27;refine⟨fun hO=>⟨by omega,fun a ha=>?_⟩,fun hO=>?_⟩
   ·have hla:=hlh a ha;rw[hla]at hput ⊢;refine ae (hput _) ?_;refine @aa _ (af ?_);omega
   ·have hla:=hl0 (by omega);rw[hla]at hput ⊢;refine ae (hput _) ?_;refine @aa _ (af ?_);omega
theorem Oe(w0:W0)(hg:gn w0)(l:List Sp)(q:Int)(S:St)(hl:l.length≤1048576)(hi:∀s,s∈l→ -9223372036854775808≤s.size∧s.size≤9223372036854775807)(hq:0≤q∧q≤65535):ab Tryz.prog w0 3 [.sl 4 false (l.map ZR),.v (.int .u16 q)] S (fun d S'=>d=dB true∧S'=S):=by
 have haw:=fun S=>Rk w0 hg S;have hsm:=fun S=>Q8 w0 l S hl;have hz:=GH (label:=7) (by omega)
 cases hsl:oc l with
 |false=>
  rw[hsl]at hsm;refine aJ [18,19,24] mx Tryz.func3 rfl rfl (by kernel_rfl) ?_;refine @aa _ (ai @Tryz.ntmps3 ?_);refine ae (haw _) ?_;refine @aa _ (af ?_);refine ae (hsm _) ?_;exact @aa _ aF
 |true=>
  rw[hsl]at hsm;unfold oc at hsl;rw[abG,decide_eq_true_eq,adY]at hsl;obtain⟨hs1,hs2⟩:=hsl
  have hsz:∀s,s∈l→s.size≤400:=fun s h=>by
   have:=hs1 s h;unfold od at this;rw[abG,abG,decide_eq_true_eq,decide_eq_true_eq,decide_eq_true_eq]at this;exact this.2
  refine aJ [18,19,24] mx Tryz.func3 rfl rfl (by kernel_rfl) ?_;refine @aa _ (ai @Tryz.ntmps3 ?_);refine ae (haw _) ?_;refine @aa _ (af ?_);refine ae (hsm _) ?_;refine @aa _ (af ?_);refine ae (TE w0 7 _) ?_;refine @aa _ (af ?_);intro b5;refine ae (SS w0 7 _) ?_;refine @aa _ (af ?_);intro b9 b6
  have hQ:∃Q:Int,IntKind.i64.wrap (IntKind.i64.wrap (q.tmod 1000)+1)=Q∧1≤Q∧Q≤1000:=by
   have h1:q.tmod 1000=q%1000:=Int.tmod_eq_emod_of_nonneg hq.1;rw[h1,aG (n:=q%1000) (by omega) (by omega),aG (by omega) (by omega)];exact⟨_,rfl,by omega,by omega⟩
  obtain⟨Q,hQ,hQ0,hQ1⟩:=hQ;rw[hQ];clear hQ;refine jf [18,19,24] [0,1,7,8,9,10,11] (fun s:Ms=>[(11,dI s.j)]) (fun s=>⟨(b6.n,rVw s.n s.l)::(b9.n,Fa s.z)::(b5.n,WT s.z)::S.box,S.acc⟩) (MsI l.length 7) (fun s=>l.length-s.j) ⟨0,z0 7,(z0 7).n,(z0 7).l⟩ mx (by kernel_rfl) ?_ ?_
  ·refine @aa _ (af ?_);exact⟨aeh _,hz,hz.zv,rfl⟩
  ·rintro⟨j,z,n,v⟩ ⟨hj,hz,hv,hlb⟩;simp only at hj hz hv hlb;have ej:IntKind.i64.wrap ((j:Int)+1)=((j+1:Nat):Int):=by rw[aG (by omega) (by omega)];omega
   refine @aa _ (ai @ej ?_);refine⟨fun hlt=>⟨hlt,fun s hs=>⟨fun _=>⟨hlt,fun s1 hs1=>?_⟩,fun _=>⟨hlt,fun s1 hs1=>?_⟩⟩⟩,fun hge=>?_⟩
   ·rw[hs]at hs1;obtain rfl:=aen hs1;refine aK (MO w0 j n v s _ hv.vi (by omega) (hsz s (aap hs))) ?_;refine @aa _ (ai @ej ?_);refine⟨⟨j+1,z,(nj s (n,v)).1,(nj s (n,v)).2⟩,⟨by show j+1≤_;omega,tJ hz (by show j≤j+1;omega),LB (q:=(n,v)) hz (abI j) (by omega) hv s,hlb⟩,by show l.length-(j+1)<l.length-j;omega,?_⟩;refine @aa _ (ai @ej ?_);trivial
   ·rw[hs]at hs1;obtain rfl:=aen hs1;have htx:=hz.bG;have hsi:=hi s (aap hs);have hold:=fun S=>RO w0 z s.size S ⟨htx.1,by omega⟩ hsi;generalize (Nf z.bG s.size).1=ot at*;generalize (Nf z.bG s.size).2=oh at*;refine aK (hold _) ?_;refine @aa _ (ai @ej ?_);have hpz:=fun S=>GV w0 S hz (by omega);have hsame:=fun S=>ME w0 S hz (by omega);have hshv:=fun S=>Gp w0 j n v S hv.vi (by omega);have hwz:=fun S=>yD w0 S hz (by omega);have hwz2:=fun S=>FV w0 S hz (by omega);by_cases hf:kH z n v Q (release z.p ot oh)
    ·obtain⟨M,X,R1,W,hpa,hpo,hce,w4⟩:=SH w0 hg (q:=Q) (t:=ot) (hd:=oh) hz hv (by omega) (by omega) hQ1 hf;have w5:=fun S=>PL w0 (q:=Q) (t:=ot) (hd:=oh) S hz hv (by omega) (by omega) hQ1 hf hpa hpo hce;have hzi:=hpo.zi;have e5:(iW z n v (release z.p ot oh) M X).label=7:=hlb
     have hWn:(LN z n v (release z.p ot oh) W).length≤10000000:=by
      have h1:=congrArg List.length (Wq (z:=z) (n:=n) (l:=v) (p:=release z.p ot oh) (W:=W));have h2:=congrArg List.length hpa.wr;have h3:=DN hv.vi (by omega);have h4:(cO z n v (release z.p ot oh)).length≤1000:=(je hzi z.n z.l).2.2;rw[abv,c9,abv]at h1;rw[abv,aaE]at h2;omega
     generalize iW z n v (release z.p ot oh) M X=Z at*;generalize LN z n v (release z.p ot oh) W=WS at*;generalize l6 Z.label Z.bG Z.root Z.oX Z.high=PG at*;have hpZ:=fun S=>GV w0 S hzi (by omega);have hsZ:=fun S=>ME w0 S hzi (by omega);have hwZ:=fun S=>yD w0 S hzi (by omega);have hwZ2:=fun S=>FV w0 S hzi (by omega);have hcv:=Sc PG;have hee:eF PG PG=true:=gk PG;refine ae (w4 _) ?_;refine @aa _ (ai @ej ?_);intro b7;refine pT mx (by kernel_rfl) ?_;refine @aa _ (ai @ej ?_);refine kM (fun B hB=>hshv _) ?_;refine @aa _ (af ?_);refine kM (fun B hB=>w5 _) ?_;refine @aa _ (af ?_);intro b18;refine Y.j4 [5] [] [0,1,2,3,4,6,5,7,8,9,10,11,12,13,14,15,16,17,18,19,20,21,22,23,24,25,26,27,28,29] mx (by kernel_rfl) ?_;refine @aa _ (eE @hcv.1 @hcv.2 @hee ?_);refine Y.lM (fun T _=>hpZ T) ?_;refine @aa _ (af ?_);refine Y.lM (fun T _=>hsZ T) ?_;refine @aa _ (af ?_);refine Y.lM (fun T _=>hwZ T) ?_;refine @aa _ (af ?_);refine Y.lM (fun T _=>hwZ2 T) ?_;refine @aa _ (af ?_);refine aw [24] WS.length [0,1,7,8,9,10,11,14,15,18,19,22] (fun k=>[(22,dI k)]) (fun _=>⟨(b18.n,Fa Z)::(b7.n,WT Z)::(b6.n,rVw n v)::(b9.n,Fa z)::(b5.n,WT z)::S.box,S.acc⟩) (fun _=>True) mx (by kernel_rfl) ?_ ?_
     ·refine @aa _ (af ?_);trivial
     ·intro k hk _;refine @aa _ (ai @ej ?_);refine⟨fun hlk=>?_,fun hge2=>?_⟩
      ·refine Y.j4 [17] [] [0,1,2,3,5,6,7,8,4,9,10,11,12,13,14,15,18,19,20,21,16,22,17,23,24] mx (by kernel_rfl) ?_;have hcw:=fun s=>(Sc s).1;have hcx:=fun s=>(Sc s).2;refine @aa _ (eE @ej @hcw @hcx ?_);refine⟨hlk,fun a ha=>⟨hlk,fun a2 ha2=>?_⟩⟩;cases aC ha ha2;refine⟨fun h=>h rfl,fun _=>⟨hlk,fun a3 ha3=>⟨hlk,fun a4 ha4=>?_⟩⟩⟩;cases aC ha ha3;cases aC ha ha4;exact⟨fun _=>⟨hlk,aZ k (by omega)⟩,fun h=>(by rw[gk]at h;cases h)⟩
      ·exact⟨⟨j+1,Z,Z.n,Z.l⟩,⟨by show j+1≤_;omega,hzi,hzi.zv,e5⟩,by show l.length-(j+1)<l.length-j;omega,rfl,.aX (.aX (.refl _))⟩
    ·have w3:∀S,ab Tryz.prog w0 13 [eZ z,eV n v,dI Q,dU ot,dB oh] S (fun d S'=>d= .bM [eZ z,.sl 2 false [],.sl 1 false [],dB false]∧S'=S):=fun S=>fF (ab.mono (S5 w0 (q:=Q) (t:=ot) (hd:=oh) S hz hv (by omega) (by omega) (by omega) hf) (by
      rintro d S' ⟨rfl,rfl⟩;refine @aa _ (af ?_);trivial))
     have w4:=fun S=>RM w0 (q:=Q) (t:=ot) (hd:=oh) S hz hv (by omega) (by omega) (by omega) hf;refine ae (w3 _) ?_;refine @aa _ (ai @ej ?_);intro b7;refine pT mx (by kernel_rfl) ?_;refine @aa _ (ai @ej ?_);refine kM (fun B hB=>hshv _) ?_;refine @aa _ (af ?_);refine kM (fun B hB=>w4 _) ?_;refine @aa _ (af ?_);intro b18;refine Y.j4 [5] [] [0,1,2,3,4,6,5,7,8,9,10,11,12,13,14,15,16,17,18,19,20,21,22,23,24,25,26,27,28,29] mx (by kernel_rfl) ?_;have y0:strOfNums (wA [])=aN:=rfl;have y1:nM []=true:=rfl;have y2:eF aN aN=true:=gk aN;refine @aa _ (eE @y0 @y1 @y2 ?_);refine Y.lM (fun T _=>hpz T) ?_;refine @aa _ (af ?_);refine Y.lM (fun T _=>hsame T) ?_;refine @aa _ (af ?_);refine Y.lM (fun T _=>hwz T) ?_;refine @aa _ (af ?_);refine Y.lM (fun T _=>hwz2 T) ?_;refine @aa _ (af ?_);refine aw [24] 0 [0,1,7,8,9,10,11,14,15,18,19,22] (fun _=>[(22,dI 0)]) (fun _=>⟨(b18.n,Fa z)::(b7.n,WT z)::(b6.n,rVw n v)::(b9.n,Fa z)::(b5.n,WT z)::S.box,S.acc⟩) (fun _=>True) mx (by kernel_rfl) ?_ ?_
     ·refine @aa _ (af ?_);trivial
     ·intro k hk _;refine @aa _ (ai @ej ?_);exact⟨⟨j+1,z,z.n,z.l⟩,⟨by show j+1≤_;omega,tJ hz (by show j≤j+1;omega),(tJ hz (by show j≤j+1;omega)).zv,hlb⟩,by show l.length-(j+1)<l.length-j;omega,rfl,.aX (.aX (.refl _))⟩
   ·have hq2:IntKind.i64.wrap q=q:=aG (by omega) (by omega);have hvi:VI 0 (z0 q).n (z0 q).l:=MF 0;rw[hq2];refine ae (TE w0 q _) ?_;refine @aa _ (af ?_);refine ae (Br w0 _ hvi (by show 0≤1000;omega) (by omega)) ?_;refine @aa _ (ai @hq2 ?_);refine ae (SS w0 q _) ?_;refine @aa _ (af ?_);refine ae (GU w0 _ hvi (by show 0≤1000;omega) (by constructor <;>(show 0≤1000;omega)) (by omega)) ?_;refine @aa _ (af ?_);trivial
end Go.Proofs.YtpjenciplibdnaaGreatDoor
