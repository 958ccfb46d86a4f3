/-
  CommitKeeps. By an AI agent.
-/
import Derived.Test.YtpjenciplibdnaaGreatDoorMP9
import Derived.Test.YtpjenciplibdnaaGreatDoorMP6
import Derived.Test.YtpjenciplibdnaaGreatDoorMP7
import Derived.Test.YtpjenciplibdnaaGreatDoorMP5
import Derived.Test.YtpjenciplibdnaaGreatDoorTie
import Derived.Test.YtpjenciplibdnaaGreatDoorCards
import Derived.Deep.DeepHandedRow
import Derived.Lib.LaidTab
set_option linter.unusedVariables false
set_option linter.unusedSimpArgs false
set_option maxRecDepth 100000
set_option maxHeartbeats 16000000
namespace Go.Proofs.YtpjenciplibdnaaGreatDoor
open Aml Go
theorem JV{p:Pl}{q:Int}(hc:GB p q):p.wait.length≤nW p.wait:=by
 have:∀l:List Wt,(∀w,w∈l→w.ai≠[])→l.length≤nW l:=by
  intro l
  induction l with
  |nil=>intro _;exact Nat.zero_le _
  |cons a l ih=>
   intro h
   have h1:=ih fun w hw=>h w (List.mem_cons_of_mem _ hw)
   have h2:0<a.ai.length:=List.length_pos_iff.2 (h a List.mem_cons_self)
   simp only[nW,List.map_cons,List.sum_cons,List.length_cons]at*
   omega
 exact this _ fun w hw e=>hc.2.1 w hw (.inl e)
theorem eH{top:Nat}{p:Pl}{h:Nat→Bool}{t:Int}(k:og top p h t):p.free.length+nW p.wait≤top∧p.wait.length≤top∧2≤p.high∧p.high≤top:=by
 have h1:=uU k
 have h2:=JV k.oD
 rw[lZ]at h1
 have:=k.oD.2.2.1
 have:=k.oD.2.2.2.1
 omega
theorem kN{k:Nat}{z:Zt}(h:ZI k z)(n:N)(l:List C):(cq z n l).length≤1000∧(gp (bJ n l) (bJ z.n z.l)).length+z.own.length≤1000∧z.own.length≤1000:=by
 have h1:=(jt h).length_eq
 rw[gC,List.length_append,List.length_append]at h1
 have h2:=h.keep.oD.2.2.2.1
 have h3:(gp (bJ n l) (bJ z.n z.l)).length≤(bJ z.n z.l).length:=by unfold gp;exact List.length_filter_le _ _
 unfold cq
 rw[List.length_append]
 omega
def NN(z:Zt)(n:N)(l:List C)(p:Pl)(W:List (Int×ByteArray)):List (Int×ByteArray):=W++(fw z n l p).zip (gI (listed (oT z n l p)) (fw z n l p))
theorem Sc(w0:W0){k:Nat}{z:Zt}{n:N}{l:List C}{q t:Int}{hd:Bool}(S:St)(hz:ZI k z)(hv:ZV k z n l)(hk:k≤116)(hq0:0≤q)(hq:q≤1000)(hf:¬mC z n l q (release z.p t hd)):
 aa Tryz.prog w0 13 [eZ z,eV n l,dI q,dU t,dB hd] S (fun d S'=>d= .bN [eZ z,.sl 0 true [],.sl 0 true [],dB false]∧S'=S):=by
 have ks:=eH hz.keep
 have kr:=eH (pK hz.keep t hd)
 obtain⟨b1,b2,b3⟩:=kN hz n l
 refine W5 w0 z n l q t hd S (release z.p t hd) ⟨hz.bD.1,by have:=hz.bD.2;omega⟩ (fun S=>AB w0 z.p t hd S (by omega) (by omega)) fun S=>?_
 have:=vV w0 k z.n z.l n l z.own (release z.p t hd) q S hz.vi hv.vi hk (by omega) (by omega) (by omega) (by omega) (by omega) (by omega) (by omega)
 have e:decide ((nj (n,l) (release z.p t hd) ((gp (bJ n l) (bJ z.n z.l)).length+z.own.length):Int)≤dy (release z.p t hd) q)=false:=decide_eq_false fun h=>hf (by unfold mC cq;rw[List.length_append];exact h)
 rw[e]at this
 exact this
def Zf(n:N)(l:List C)(q:List Int)(M:N)(X:List C)(R:List Int)(W:List (Int×ByteArray)):Prop:=∃V,X=(eP l n q).l∧W=(eP l n q).w++V∧bA (eP l n q).n ((eP l n q).q,[])=(M,(R,V))
theorem RW(w0:W0)(hg:fF w0){k:Nat}{z:Zt}{n:N}{l:List C}{q t:Int}{hd:Bool}(hz:ZI k z)(hv:ZV k z n l)(hk:k≤115)(hq0:0≤q)(hq:q≤1000)(hf:mC z n l q (release z.p t hd)):
 ∃M X R W,PA k n l (cQ (release z.p t hd) (eu (n,l))) M X R W∧PO k z n l q (release z.p t hd) M X∧Zf n l (cQ (release z.p t hd) (eu (n,l))) M X R W∧∀S,
  aa Tryz.prog w0 13 [eZ z,eV n l,dI q,dU t,dB hd] S (fun d S'=>d= .bN [eZ (jR z n l (release z.p t hd) M X),.sl 2 false ((NN z n l (release z.p t hd) W).map nS),fC (rS (jR z n l (release z.p t hd) M X).label (jR z n l (release z.p t hd) M X).bD (jR z n l (release z.p t hd) M X).root (jR z n l (release z.p t hd) M X).n8 (jR z n l (release z.p t hd) M X).high),dB true]∧S'=S):=by
 have ks:=eH hz.keep
 have kp:=pK hz.keep t hd
 have kr:=eH kp
 obtain⟨b1,b2,b3⟩:=kN hz n l
 have hrel:=fun S=>AB w0 z.p t hd S (by omega) (by omega)
 have hfi:=fun S=>vV w0 k z.n z.l n l z.own (release z.p t hd) q S hz.vi hv.vi (by omega) (by omega) (by omega) (by omega) (by omega) (by omega) (by omega) (by omega)
 have e:decide ((nj (n,l) (release z.p t hd) ((gp (bJ n l) (bJ z.n z.l)).length+z.own.length):Int)≤dy (release z.p t hd) q)=true:=decide_eq_true (by unfold mC cq at hf;rw[List.length_append]at hf;exact hf)
 rw[e]at hfi
 have hph:(release z.p t hd).high=z.p.high:=rfl
 generalize release z.p t hd=p at*
 have hm1:may p q (eu (n,l)):=by
  have hfit:nj (n,l) p (cq z n l).length=eu (n,l)+pv (p.free.length-eu (n,l)) (nW p.wait+(cq z n l).length):=rfl
  unfold mC at hf
  rw[hfit]at hf
  exact⟨by omega,by omega⟩
 have hmt:=sU hm1 hq
 have hpv:=RB hz hv kp hmt
 obtain⟨hmC,hbC,M,R,V,hld,hpa⟩:=Nh hpv
 have hpo:=Qx hz hv kp hph hq hf hpa
 refine⟨M,(eP l n (cQ p (eu (n,l)))).l,R,(eP l n (cQ p (eu (n,l)))).w++V,hpa,hpo,⟨V,rfl,rfl,hld.eq⟩,fun S=>?_⟩
 have htl:(cQ p (eu (n,l))).length=eu (n,l):=by rw[lu];omega
 have hfl:eu (n,l)≤1000:=by
  have h1:=uU kp
  rw[lZ]at h1
  have h2:=hm1.2
  unfold dy at h2
  split at h2 <;>omega
 obtain⟨t1,t2,t3⟩:=kQ kp hmt
 have k2:=eH t3
 generalize hC:eP l n (cQ p (eu (n,l)))=C at*
 have hback:=hpo.back
 obtain⟨b4,b5,b6⟩:=kN hz M C.l
 have hg1:=wF (l:=cq z n l) t3.old
 have hp3:mJ (take p (eu (n,l))) (z.bD+1) (cq z n l)=nO z n l p:=rfl
 have hp4:take (nO z n l p) (vt z n l p)=oT z n l p:=rfl
 have hp5:cQ (nO z n l p) (vt z n l p)=fw z n l p:=rfl
 rw[hp3]at hg1
 obtain⟨g1,g2,g3⟩:=hg1
 have k4:=eH hpo.zi.keep
 have hm2:=hpo.m2
 have hw3:(nO z n l p).wait.length≤1000:=k4.2.1
 have hf3:(nO z n l p).free.length≤1000:=by rw[g1];omega
 have h4a:(oT z n l p).free.length+nW (oT z n l p).wait≤1000:=k4.1
 have h4b:(oT z n l p).wait.length≤1000:=k4.2.1
 have hCq:C.q.length≤1000:=by
  have:=(xf hpv l.length (Nat.le_refl _)).left
  rw[List.take_length,hC]at this
  rw[this,List.length_drop];omega
 have hwl:(C.w++V).length≤1000:=by
  have:=congrArg List.length hpa.wr
  rw[List.length_map,List.length_take]at this;omega
 have hol:(fw z n l p).length≤3000:=by
  rw[←hp5,lu]
  have h2:=hm2.2
  unfold dy at h2
  split at h2 <;>omega
 have hlz:(gI (listed (oT z n l p)) (fw z n l p)).length=(fw z n l p).length:=rk _ _
 have hpv2:VI k M C.l:=hpa.vi
 let z0:Zt:={z with bD:=z.bD+1,n:=n,l:=l,own:=[],p:=p}
 let X:Nat→Sg:=fun i=>match i with
  |0=>⟨z0,.sl 0 true [],.sl 0 true [],[]⟩
  |1=>⟨z0,.sl 0 true [],.sl 0 true [],[]⟩
  |2=>⟨{z0 with p:=take p (eu (n,l))},.sl 0 true [],dL (cQ p (eu (n,l))),[]⟩
  |3=>⟨{z0 with p:=take p (eu (n,l)),n:=C.n,l:=C.l},.sl 0 true [],dL C.q,C.w⟩
  |4=>⟨{z0 with p:=take p (eu (n,l)),n:=M,l:=C.l,root:=M.ak},.sl 0 true [],dL R,C.w++V⟩
  |5=>⟨{z0 with p:=nO z n l p,n:=M,l:=C.l,root:=M.ak},.sl 0 true [],dL R,C.w++V⟩
  |_=>⟨jR z n l p M C.l,dL (fw z n l p),dL R,NN z n l p (C.w++V)⟩
 have hmo:=Om hpo.zi rfl
 refine WI w0 hg z n l q t hd S p X ⟨hz.bD.1,by have:=hz.bD.2;omega⟩ hrel rfl rfl ?_ ?_ ?_ ?_ ?_ ?_ ?_
 ·have hx:=hpo.zi
  exact⟨hx.label,⟨by have:=hz.bD.1;show 0<z.bD+1;omega,by have:=hx.bD.2;show z.bD+1≤_;have h2:z.bD+1≤((k+1:Nat):Int):=this;omega⟩,hmo.2.2.2,hmo.1,hmo.2.1,hmo.2.2.1⟩
 ·intro S b lw h
  refine aa.mono (RA w0 h true hfi) fun d S' e=>⟨e.1,?_⟩
  rw[e.2];exact(Ku h).symm
 ·intro S b lw h
  exact WA w0 (eu (n,l)) h (take p (eu (n,l))) (cQ p (eu (n,l))) true (fun S=>uS w0 k n l S hv.vi (by omega)) fun S=>RE w0 p q _ S hm1 (by omega) (by omega) (by omega) (by omega) (by omega)
 ·intro S b lw h
  have:=KL w0 hg k (by omega) (cQ p (eu (n,l))) (by omega) (z:=(X 2).z) hpv h
  rw[show eP (X 2).z.l (X 2).z.n (cQ p (eu (n,l)))=C from hC]at this
  exact this
 ·intro S b lw h
  refine Zh w0 C.q R M V h (by rw[List.length_append]at hwl;show C.w.length+V.length≤_;omega) fun S=>?_
  have:=Xu w0 hg C.n C.q S (AU hbC (by omega)) (by omega)
  rw[Js hmC hld]at this
  exact this
 ·intro S b lw h
  refine Xd w0 (gp (bJ M C.l) (bJ z.n z.l)) h (by omega) (nO z n l p) (fun S=>vZ w0 k z.n z.l M C.l S hz.vi hpv2 (by omega)) fun S=>?_
  have:=Wg w0 (take p (eu (n,l))) (z.bD+1) (cq z n l) S (by omega) (by omega)
  rw[hp3,←hback]at this
  exact this
 ·intro S b lw h
  have hzz:((NN z n l p (C.w++V))=(C.w++V)++(fw z n l p).zip (gI (listed (oT z n l p)) (fw z n l p))):=rfl
  refine WB w0 h (nW (nO z n l p).wait) (vt z n l p) (oT z n l p) (fw z n l p) (listed (oT z n l p)) (gI (listed (oT z n l p)) (fw z n l p)) (by rw[hlz];show(C.w++V).length+_≤_;omega) hlz (by show(nO z n l p).free.length≤_;omega) (fun S=>waiting w0 (nO z n l p) S (by omega) (by omega)) (fun S=>?_) (fun S=>?_) (fun S=>xp w0 (oT z n l p) S (by omega) (by omega)) fun S=>PR w0 hg _ _ S (by rw[lZ];omega) (by omega) hpo.row hpo.many hpo.nd hpo.qh
  ·have:=AV w0 ((nO z n l p).free.length:Int) (nW (nO z n l p).wait:Int) S (by omega) (by omega) (by omega) (by omega)
   rw[Int.toNat_natCast,Int.toNat_natCast]at this
   exact this
  ·have:=RE w0 (nO z n l p) q (vt z n l p) S hm2 (by omega) (by omega) (by omega) (by omega) (by omega)
   exact this
theorem W7(w0:W0)(label:Int)(S:St):aa Tryz.prog w0 9 [dI label] S (fun d S'=>d=eZ (z0 label)∧S'=S):=by
 refine aY [] mx Tryz.func9 rfl rfl (by kernel_rfl) ?_;(refine @ab _ ?_;refine ao @Tryz.ntmps9 ?_)
 intro b
 refine aq (UN w0 _) ?_
 (refine @ab _ ?_;refine au ?_)
 exact .agg (.cons (.refl _) (.cons (.refl _) (.cons (.refl _) (.cons (.refl _) (.cons (.refl _) (.cons (.refl _) (.cons (.refl _) (.cons (.refl _) (.cons (.refl _) (.cons (.refl _) (.cons (.refl _) (.cons (.nil _ _ _) (.cons (.refl _) (.cons (.nil _ _ _) (.cons (.nil _ _ _) .nil)))))))))))))))
theorem DY(w0:W0){k:Nat}{z:Zt}(S:St)(hz:ZI k z)(hk:k≤116):aa Tryz.prog w0 18 [eZ z] S (fun d S'=>d=dB true∧S'=S):=by
 have ks:=eH hz.keep
 have hL:=(jt hz).length_eq
 have hS:=Gl hz
 rw[gC,List.length_append,List.length_append]at hL
 have efl:flat [bJ z.n z.l,z.own,listed z.p]=bJ z.n z.l++z.own++listed z.p:=by simp[flat]
 have hcc:=fun S=>concat w0 [bJ z.n z.l,z.own,listed z.p] S (by simp) (by rw[efl,List.length_append,List.length_append];omega)
 rw[efl]at hcc
 have hhi:=hz.high
 have hch:=fun S=>check w0 z.p 1000 S (by omega) (by omega)
 have hc1:pB (GB z.p 1000)=true:=by unfold pB;exact @decide_eq_true _ (Classical.propDecidable _) hz.keep.oD
 rw[hc1]at hch
 refine aY [1] mx Tryz.func18 rfl rfl (by kernel_rfl) ?_;(refine @ab _ ?_;refine ao @Tryz.ntmps18 ?_)
 intro b1
 refine Y.mn [] [9] [0,3,5,1,2,4,6,7,8,9,10] mx (by kernel_rfl) ?_
 (refine @ab _ ?_;refine au ?_)
 refine Y.uO (fun T _=>DD w0 k z.n z.l T hz.vi hk) ?_
 (refine @ab _ ?_;refine au ?_)
 refine Y.uO (fun T _=>xp w0 z.p T (by omega) (by omega)) ?_
 (refine @ab _ ?_;refine au ?_)
 refine VU (hcc _) ?_ (.cons (Wk.full _ _ _) .nil)
 intro m
 (refine @ab _ ?_;refine au ?_)
 have eA:(bJ z.n z.l).length+z.own.length+(listed z.p).length=(bJ z.n z.l++z.own++listed z.p).length:=by rw[List.length_append,List.length_append]
 rw[eA]
 rw[eA]at hL
 generalize bJ z.n z.l++z.own++listed z.p=A at*
 refine .inl ?_
 refine xF (mN w0 (l:=m.n) (zs:=A) (by(refine @ab _ ?_;exact aK)) (by omega)) ?_
 rw[hS]
 (refine @ab _ ?_;refine au ?_)
 have U7:(bW 2 (z.p.high-2).toNat).length=A.length:=by rw[gC,hL]
 refine aA [] A.length [1,3,18,19,20] (fun k=>[(20,dI k)]) (fun _=>⟨(b1.n,dI z.label::dU z.bD::dI z.root::dI z.n8::dI z.high::dI z.n.ak::dB z.n.leaf:: .sl 1 false (z.n.l.map fun c=>dS c.key):: .sl 2 false ((if z.n.leaf then z.n.l else []).map fM):: .sl 5 false ((aI z.n).map dT)::xi z.l::dL z.own::dI z.p.high:: .sl 1 false (z.p.free.map dI):: .sl 2 false (z.p.wait.map dW)::[])::S.box,(m.n,.arr 1 ((bW 2 (z.p.high-2).toNat).map dI))::S.acc⟩) (fun _=>True) mx (by kernel_rfl) ?_ ?_
 ·(refine @ab _ ?_;exact aK)
 ·intro j hj _
  have ej:IntKind.i64.wrap ((j:Int)+1)=((j+1:Nat):Int):=by rw[ba (by omega) (by omega)];omega
  have e2:IntKind.i64.wrap (2+(j:Int))=2+(j:Int):=by rw[ba (by omega) (by omega)]
  have e3:IntKind.i64.wrap (z.p.high-2)=((A.length:Nat):Int):=by rw[ba (by omega) (by omega)];omega
  (refine @ab _ ?_;refine AW @ej @e2 @e3 @hhi ?_)
  refine⟨fun hlt=>⟨hlt,U7,by omega,fun a ha=>?_⟩,fun hge=>aq (hch _) ?_⟩
  ·have:=Li ha
   exact⟨fun h=>h this,fun _=>hlt⟩
  ·(refine @ab _ ?_;refine au ?_)
   try trivial
def mZ(s:Sp):Bool:=decide (s.name.size≤40)&&decide (s.key.size≤40)&&decide (s.size≤400)
def mX(l:List Sp):Bool:=l.all mZ&&decide (l.length≤70)
theorem QZ{l:List Sp}{k:Nat}{a:Sp}(ha:l[k]? =some a)(h:mZ a=false):mX l=false:=by
 unfold mX
 rw[List.all_eq_false.2 ⟨a,List.mem_of_getElem? ha,by rw[h];simp⟩];rfl
theorem NR(w0:W0)(l:List Sp)(S:St)(hl:l.length≤1048576):aa Tryz.prog w0 8 [.sl 4 false (l.map Yr)] S (fun d S'=>d=dB (mX l)∧S'=S):=by
 have hno:=fun k a=>QZ (l:=l) (k:=k) (a:=a)
 have hyes:l.all mZ=true→mX l=decide (l.length≤70):=fun e=>by unfold mX;rw[e];rfl
 generalize mX l=R at*
 refine aY [] mx Tryz.func8 rfl rfl (by kernel_rfl) ?_;(refine @ab _ ?_;refine ao @Tryz.ntmps8 ?_)
 refine aA [] l.length [0,3] (fun k=>[(3,dI k)]) (fun _=>S) (fun k=>(l.take k).all mZ=true) mx (by kernel_rfl) ?_ ?_
 ·(refine @ab _ ?_;exact aK)
 ·intro k hk ha
  (refine @ab _ ?_;refine au ?_)
  refine⟨fun h=>⟨h,fun a e=>⟨fun q=>(hno k a e (by unfold mZ;rw[decide_eq_false (by omega)];rfl)).symm,fun q1=>⟨h,fun a' e'=>?_⟩⟩⟩,fun h=>?_⟩
  ·cases bq e e'
   refine⟨fun q=>(hno k a e (by unfold mZ;rw[decide_eq_false (p:=a.key.size≤40) (by omega),Bool.and_false];rfl)).symm,fun q2=>⟨h,fun a' e'=>?_⟩⟩
   cases bq e e'
   refine⟨fun q=>(hno k a e (by unfold mZ;rw[decide_eq_false (p:=a.size≤400) (by omega),Bool.and_false])).symm,fun q3=>⟨h,?_,aW k (by omega)⟩⟩
   rw[List.take_add_one,e,List.all_append,ha]
   simp only[Option.toList_some,List.all_cons,List.all_nil,Bool.and_true,Bool.true_and]
   unfold mZ
   rw[decide_eq_true (by omega),decide_eq_true (by omega),decide_eq_true (by omega)];rfl
  ·have:k=l.length:=by omega
   rw[this,List.take_length]at ha
   rw[hyes ha,Bool.eq_iff_iff,decide_eq_true_iff,decide_eq_true_iff];omega
def Jx(t n:Int):Int×Bool:=if n<0 then(0,false)else if t<n then(0,true)else(t-n,true)
theorem P8(w0:W0)(z:Zt)(n:Int)(S:St)(ht:0≤z.bD∧z.bD≤1000000)(hn: -9223372036854775808≤n∧n≤9223372036854775807):aa Tryz.prog w0 12 [eZ z,dI n] S (fun d S'=>d= .bN [dU (Jx z.bD n).1,dB (Jx z.bD n).2]∧S'=S):=by
 refine aY [] mx Tryz.func12 rfl rfl (by kernel_rfl) ?_;(refine @ab _ ?_;refine ao @Tryz.ntmps12 ?_)
 intro b
 unfold Jx
 refine⟨fun h=>?_,fun h=>?_⟩
 ·rw[if_pos h,decide_eq_false (by omega)];exact .refl _
 ·rw[if_neg h,ja (by omega) (by omega)]
  refine⟨fun h2=>?_,fun h2=>?_⟩
  ·rw[if_pos (by omega),decide_eq_true (by omega)];exact .refl _
  ·rw[if_neg (by omega),ja (by omega) (by omega)];exact .refl _
theorem Kq(w0:W0)(k:Nat)(n:N)(l:List C)(s:Sp)(S:St)(h:VI k n l)(hk:k≤116)(hs:s.size≤400):aa Tryz.prog w0 11 [eV n l,Yr s] S (fun d S'=>d=eV (me s (n,l)).1 (me s (n,l)).2∧S'=S):=by
 have hmk:=fun S=>R9 w0 k s.name n l S h hk
 have hdr:=fun S=>Vy w0 k s.name n l S h hk
 have hpu:=fun v S=>V5 w0 k s.name s.key v n l S h hk
 have hde:=fun S=>Qu w0 k s.name s.key n l S h hk
 have e1:(if s.size<0 then 0 else s.size)=(s.size.toNat:Int):=by split <;>omega
 have q0:s.kind=0→me s (n,l)=(mI s.name n l).1:=fun e=>by unfold me;rw[if_pos e]
 have q1:¬s.kind=0→s.kind=1→me s (n,l)=(we s.name n l).1:=fun a e=>by unfold me;rw[if_neg a,if_pos e]
 have q2:¬s.kind=0→¬s.kind=1→s.kind=2→me s (n,l)=(sN s.name s.key (strOfNums (List.replicate s.size.toNat 0)) n l).1:=fun a c e=>by unfold me;rw[if_neg a,if_neg c,if_pos e]
 have q3:¬s.kind=0→¬s.kind=1→¬s.kind=2→s.kind=3→me s (n,l)=(Oq s.name s.key n l).1:=fun a c d e=>by unfold me;rw[if_neg a,if_neg c,if_neg d,if_pos e]
 have q4:¬s.kind=0→¬s.kind=1→¬s.kind=2→¬s.kind=3→me s (n,l)=(n,l):=fun a c d e=>by unfold me;rw[if_neg a,if_neg c,if_neg d,if_neg e]
 generalize me s (n,l)=R at*
 refine aY [7] mx Tryz.func11 rfl rfl (by kernel_rfl) ?_;(refine @ab _ ?_;refine ao @Tryz.ntmps11 ?_)
 intro b b1 b2
 refine⟨fun h0=>aq (hmk _) ?_,fun h0=>⟨fun h1=>aq (hdr _) ?_,fun h1=>⟨fun h2=>?_,fun h2=>⟨fun h3=>aq (hde _) ?_,fun h3=>?_⟩⟩⟩⟩
 ·rw[q0 h0];(refine @ab _ ?_;exact aK)
 ·rw[q1 h0 h1];(refine @ab _ ?_;exact aK)
 ·refine Y.mn [8,9] [] [1,3,5,0,2,4,6,7,8,9,10,11,12,13,14] mx (by kernel_rfl) ?_
  rw[q2 h0 h1 h2]
  (refine @ab _ ?_;refine ao @e1 ?_)
  refine⟨by omega,by omega,fun b3=>⟨List.length_replicate,Y.uO (fun T _=>hpu _ T) ?_⟩⟩
  (refine @ab _ ?_;exact aK)
 ·rw[q3 h0 h1 h2 h3];(refine @ab _ ?_;exact aK)
 ·rw[q4 h0 h1 h2 h3];exact .refl _
def kB:ByteArray:={data:= #[98]}
def kK:ByteArray:={data:= #[107]}
def kV:ByteArray:={data:= #[118]}
theorem ZL:eu (sN kB kK kV (mI kB mi []).1.1 (mI kB mi []).1.2).1=2:=by kernel_rfl
theorem zS{n:N}{l:List C}(h:((gR n l).flatMap fun n=>mo (dh qN n))=[]):bJ n l=[]:=by
 have h2:(flat ((gR n l).map dO)).length=0:=by
  unfold flat
  rw[List.length_flatten,List.map_map]
  have:∀V:List N,(V.flatMap fun n=>mo (dh qN n))=[]→(V.map (List.length∘dO)).sum=0:=fun V=>by
   induction V with
   |nil=>intro _;rfl
   |cons a V ih=>
    intro h
    rw[List.flatMap_cons,List.append_eq_nil_iff]at h
    rw[List.map_cons,List.sum_cons,ih h.2]
    show(dO a).length+0=0
    unfold dO
    rw[aN,h.1];rfl
  exact this _ h
 unfold bJ
 exact List.eq_nil_of_length_eq_zero (by rw[aN];exact h2)
theorem YF:bJ (sN kB kK kV (mI kB mi []).1.1 (mI kB mi []).1.2).1.1 (sN kB kK kV (mI kB mi []).1.1 (mI kB mi []).1.2).1.2=[]:=zS (by kernel_rfl)
theorem YS:bJ mi []=[]:=zS (by kernel_rfl)
theorem sO{k m:Nat}{z:Zt}(h:ZI k z)(hm:k≤m):ZI m z:=⟨fJ h.vi hm,h.tv,h.fr,h.cl,h.nd,h.qh,h.keep,h.high,h.root,⟨h.bD.1,by have:=h.bD.2;omega⟩,h.label⟩
theorem uc(a t r l h:Int):(rS a t r l h).size=128:=by
 unfold rS
 refine jf _ ?_
 simp only[db,List.map_cons,List.map_nil,List.sum_cons,List.sum_nil,uo];omega
theorem Vz{j k:Nat}{z:Zt}{q:N×List C}(hz:ZI j z)(hj:j≤k)(hk:k≤116)(h:ZV k z q.1 q.2)(name key val:ByteArray):ZV (k+1) z (sN name key val q.1 q.2).1.1 (sN name key val q.1 q.2).1.2:=by
 have hb:=Rt hz h hj
 refine Be (RG hb hk name key val) ?_
 unfold sN
 split
 ·rename_i hc
  simp only[Bool.and_eq_true,decide_eq_true_eq]at hc
  obtain⟨hne,hsz⟩:=dp hc.1
  exact Nz h.vi hk h.cl name _ fun t ht=>tu ht hk hne hsz hc.2
 ·exact h.cl
theorem O6:cQ ⟨2,[],[]⟩ 2=[2,3]:=by kernel_rfl
theorem Pc(w0:W0)(hg:fF w0)(S:St):aa Tryz.prog w0 7 [] S (fun d S'=>d=dB true∧S'=S):=by
 have v0:=Ru 0
 have v1:=Np v0 (by omega) kB
 have hz:=Fp (label:=3) (by omega)
 have z0v:=hz.zv
 have z1:ZV 1 (z0 3) (mI kB mi []).1.1 (mI kB mi []).1.2:=JZ (q:=(mi,[])) hz (Nat.le_refl 0) (by omega) z0v ⟨0,kB,aZ,0⟩
 have z2:=Vz (q:=(mI kB mi []).1) hz (Nat.zero_le 1) (by omega) z1 kB kK kV
 have w1:=fun S=>R9 w0 0 kB mi [] S v0 (by omega)
 have w2:=fun S=>V5 w0 1 kB kK kV (mI kB mi []).1.1 (mI kB mi []).1.2 S v1 (by omega)
 have hf:=ZL
 have hp:=YF
 generalize sN kB kK kV (mI kB mi []).1.1 (mI kB mi []).1.2=Q at*
 generalize mI kB mi []=R at*
 have hz2:=sO hz (show 0≤2 by omega)
 have hfq:eu (Q.1.1,Q.1.2)=2:=hf
 have hrel:release (z0 3).p 0 false=⟨2,[],[]⟩:=by kernel_rfl
 have hbk:cq (z0 3) Q.1.1 Q.1.2=[]:=by unfold cq;rw[show bJ (z0 3).n (z0 3).l=[]from YS];rfl
 have hnd:nj (Q.1.1,Q.1.2) ⟨2,[],[]⟩ (cq (z0 3) Q.1.1 Q.1.2).length=2:=by
  rw[hbk];unfold nj;rw[hfq];kernel_rfl
 obtain⟨M,X,R1,W,hpa,hpo,_,w4⟩:=RW w0 hg (q:=4) (t:=0) (hd:=false) hz2 z2 (by omega) (by omega) (by omega) (by unfold mC;rw[hrel,hnd];decide)
 have w3:=fun S=>Sc w0 (q:=3) (t:=0) (hd:=false) S hz2 z2 (by omega) (by omega) (by omega) (by unfold mC;rw[hrel,hnd];decide)
 rw[hrel]at hpa hpo w4
 have hfi:((eu (Q.1.1,Q.1.2):Nat):Int)=2:=by rw[hfq];rfl
 have hp3:nO (z0 3) Q.1.1 Q.1.2 ⟨2,[],[]⟩=⟨4,[],[]⟩:=by unfold nO;rw[hbk,hfi];kernel_rfl
 have hm2:vt (z0 3) Q.1.1 Q.1.2 ⟨2,[],[]⟩=0:=by unfold vt;rw[hp3];kernel_rfl
 have hown:fw (z0 3) Q.1.1 Q.1.2 ⟨2,[],[]⟩=[]:=by unfold fw;rw[hp3,hm2];kernel_rfl
 have hp4:oT (z0 3) Q.1.1 Q.1.2 ⟨2,[],[]⟩=⟨4,[],[]⟩:=by unfold oT;rw[hp3,hm2];kernel_rfl
 have hwr:=hpa.wr
 rw[hfi,O6,hfq]at hwr
 obtain⟨A,bL,hW⟩:=hpa.last (by rw[hfq];omega)
 have hws:NN (z0 3) Q.1.1 Q.1.2 ⟨2,[],[]⟩ W=W:=by unfold NN;rw[hown];exact List.append_nil _
 obtain⟨x,y,hW2,hM⟩:∃x y,W=[(2,x),(3,y)]∧M.ak=3:=by
  match W,hwr with
  |[(_,x),(_,y)],hwr=>
   simp only[List.map_cons,List.map_nil,List.take_succ_cons,List.take_zero,List.cons.injEq,and_true]at hwr
   obtain⟨rfl,rfl⟩:=hwr
   refine⟨x,y,rfl,?_⟩
   match A,hW with
   |[a],hW=>simp only[List.cons_append,List.nil_append,List.cons.injEq,Prod.mk.injEq,and_true]at hW;exact hW.2.1.symm
   |[],hW=>simp at hW
   |_::_::_,hW=>simp at hW
 have wh1:=fun S=>DY w0 S hpo.zi (by omega)
 have wh0:=fun S=>DY w0 S hz (by omega)
 have hN:jR (z0 3) Q.1.1 Q.1.2 ⟨2,[],[]⟩ M X=⟨3,1,3,0,4,M,X,[],⟨4,[],[]⟩⟩:=by
  unfold jR;rw[hown,hp4,hM];rfl
 rw[hN]at w4 wh1
 rw[hws,hW2]at w4
 have hms:=uc 3 1 3 0 4
 generalize rS 3 1 3 0 4=ms at*
 unfold kB kK kV at*
 refine aY [] mx Tryz.func7 rfl rfl (by kernel_rfl) ?_;(refine @ab _ ?_;refine ao @Tryz.ntmps7 ?_)
 refine aq (W7 w0 3 _) ?_
 (refine @ab _ ?_;refine au ?_)
 intro b1
 refine aq (w1 _) ?_
 (refine @ab _ ?_;refine au ?_)
 intro b2
 refine aq (w2 _) ?_
 (refine @ab _ ?_;refine au ?_)
 intro b3
 refine aq (w4 _) ?_
 (refine @ab _ ?_;refine au ?_)
 intro b4
 refine aq (w3 _) ?_
 (refine @ab _ ?_;refine au ?_)
 intro b5
 have hml:((bY ms).length:Int)=128:=by rw[bg,hms];rfl
 refine⟨fun _=>aq (wh1 _) ?_,fun h=>absurd hml h⟩
 (refine @ab _ ?_;refine au ?_)
 refine aq (wh0 _) ?_
 (refine @ab _ ?_;refine au ?_)
 trivial
theorem Tp(w0:W0):∀(d:Nat) (n:N) (S:St),Good d n→bd n≤131072→aa Tryz.prog w0 23 [eT n] S (fun e S'=>e=eN n∧S'=S):=by
 intro d
 induction d with
 |zero=>
  intro n S hg ht
  have hn:=aw hg
  have hlf:=hn.1
  have hlen:=bj n
  rw[bT hlf]
  refine aY [1000] mx Tryz.func23 rfl rfl (by kernel_rfl) ?_;(refine @ab _ ?_;refine aO @Tryz.ntmps23 @hlf ?_)
  intro b b2 b3
  refine eg b3.n 2 4 (by omega) (fq _ _ _) rfl fun lk=>?_
  refine fQ [10] [] mx (by kernel_rfl) ?_
  (refine @ab _ ?_;refine au ?_)
  refine aA [10] n.l.length [1,2,3,4] (fun k=>[(4,dI k)]) (fun k=>⟨(b3.n,[dI n.ak,dB true,.acc lk.n k])::(b2.n,[dI 0,dB false,.sl 0 true []])::(b.n,[dI n.ak,dB true,.sl 1 false (n.l.map fun c=>dS c.key),.sl 2 false (n.l.map fM),.sl 5 false []])::S.box,(lk.n,.arr 4 ((n.l.take k).map dC))::S.acc⟩) (fun _=>True) mx (by kernel_rfl) ?_ ?_
  ·(refine @ab _ ?_;exact aK)
  ·intro k hk _
   have hml:(n.l.take k).length=k:=by rw[List.length_take];omega
   (refine @ab _ ?_;refine ao @hml ?_)
   refine⟨fun hlt=>⟨hlt,fun c hc b4=>⟨fun _=>⟨hlt,fun c2 hc2=>?_⟩,fun h=>absurd hlt h⟩⟩,fun hge=>?_⟩
   ·cases bq hc hc2
    refine⟨hlt,fun c3 hc3 _=>?_⟩
    cases bq hc hc3
    refine KF b4.n [dS c.key,dS c.data,.sl 1 false (c.ai.map dI),.sl 3 false []] (fq _ _ _) ⟨.refl _,.refl _,.refl _,.nil _ _ _,trivial⟩ ?_
    refine fQ [] [] mx (by kernel_rfl) ?_
    have hkid:c.kid=[]:=(hn.2 c (List.mem_of_getElem? hc)).2
    have ht1:n.l.take (k+1)=n.l.take k++[c]:=by rw[List.take_add_one,hc];rfl
    rw[ht1]
    simp(maxDischargeDepth:=12) (maxSteps:=1000000) -implicitDefEqProofs only[go_sem,Nat.reduceAdd,Nat.reduceSub,Nat.reduceMul,Nat.reduceLeDiff,Nat.reduceEqDiff,Nat.reduceGT,Nat.reduceBEq,reduceCtorEq,↓reduceIte,Int.reduceToNat,Int.reduceLE,Int.reduceLT,Int.reduceNe,Int.reduceEq,hml,List.map_append,List.map_cons,List.map_nil,hkid]
    exact⟨by omega,by unfold maxLen;omega,hlt,aW k (by omega)⟩
   ·rw[List.take_of_length_le (by omega),hlf]
    exact .refl _
 |succ d ih=>
  intro n S hg ht
  have hn:=aw hg
  have hlf:=hn.1
  have hlen:=bj n
  have hkn:=nH hn
  have hres:eT n= .agg [dI n.ak,dB false,.sl 1 false (n.l.map fun c=>dS c.key),.sl 2 false [],.sl 5 false ((n.l.map ay).map dT)]:=by
   show DV.agg _=_
   rw[hkn,hlf];rfl
  rw[hres]
  refine aY [1000] mx Tryz.func23 rfl rfl (by kernel_rfl) ?_;(refine @ab _ ?_;refine aO @Tryz.ntmps23 @hlf ?_)
  intro b b2 b3
  refine eg b3.n 2 4 (by omega) (fq _ _ _) rfl fun lk=>?_
  refine fQ [10] [] mx (by kernel_rfl) ?_
  (refine @ab _ ?_;refine au ?_)
  refine aA [10] n.l.length [1,2,3,4] (fun k=>[(4,dI k)]) (fun k=>⟨(b3.n,[dI n.ak,dB false,.acc lk.n k])::(b2.n,[dI 0,dB false,.sl 0 true []])::(b.n,[dI n.ak,dB false,.sl 1 false (n.l.map fun c=>dS c.key),.sl 2 false [],.sl 5 false ((n.l.map ay).map dT)])::S.box,(lk.n,.arr 4 ((n.l.take k).map dC))::S.acc⟩) (fun _=>True) mx (by kernel_rfl) ?_ ?_
  ·(refine @ab _ ?_;exact aK)
  ·intro k hk _
   have hml:(n.l.take k).length=k:=by rw[List.length_take];omega
   (refine @ab _ ?_;refine ao @hml ?_)
   refine⟨fun hlt=>⟨hlt,fun c hc b4 _=>⟨fun _=>⟨hlt,fun c2 hc2=>?_⟩,fun h=>absurd hlt h⟩⟩,fun hge=>?_⟩
   ·cases bq hc hc2
    obtain⟨⟨s1,s2,s3⟩, -,kd,hkid,hkg, -⟩:=hg.2.2.cell c (List.mem_of_getElem? hc)
    have hk0:=bl hkid
    have hkt:=dH (List.mem_of_getElem? hc) hkid
    rw[hk0]
    refine aq (ih kd _ hkg (by omega)) ?_
    (refine @ab _ ?_;refine ao @hml ?_)
    refine KF b4.n [dS c.key,dS aZ,.sl 1 false [],.sl 3 false [eN kd]] (fq _ _ _) ⟨.refl _,.refl _,.nil _ _ _,.full _ _ _,trivial⟩ ?_
    refine fQ [] [] mx (by kernel_rfl) ?_
    have ht1:n.l.take (k+1)=n.l.take k++[c]:=by rw[List.take_add_one,hc];rfl
    rw[ht1]
    simp(maxDischargeDepth:=12) (maxSteps:=1000000) -implicitDefEqProofs only[go_sem,Nat.reduceAdd,Nat.reduceSub,Nat.reduceMul,Nat.reduceLeDiff,Nat.reduceEqDiff,Nat.reduceGT,Nat.reduceBEq,reduceCtorEq,↓reduceIte,Int.reduceToNat,Int.reduceLE,Int.reduceLT,Int.reduceNe,Int.reduceEq,hml,List.map_append,List.map_cons,List.map_nil,hkid,s2,s3]
    exact⟨by omega,by unfold maxLen;omega,hlt,aW k (by omega)⟩
   ·rw[List.take_of_length_le (by omega),hlf]
    exact .refl _
theorem qf(w0:W0){k:Nat}{n:N}(h:TB k n)(hk:k≤116)(S:St):aa Tryz.prog w0 23 [eT n] S (fun e S'=>e=eN n∧S'=S):=by
 obtain⟨hr,d,hg,hd,ht⟩:=h
 exact Tp w0 d n S hg (by omega)
theorem yK(w0:W0)(k:Nat)(n:N)(l:List C)(S:St)(h:VI k n l)(hk:k≤116):aa Tryz.prog w0 15 [eV n l] S (fun d S'=>d=eL n l∧S'=S):=by
 have hln:=h.len
 have hdn:=fun S=>qf w0 h.dir hk S
 have hcn:=fun c (hc:c∈l) S=>qf w0 (h.cell c hc).2.1 hk S
 refine aY [] mx Tryz.func15 rfl rfl (by kernel_rfl) ?_;(refine @ab _ ?_;refine ao @Tryz.ntmps15 ?_)
 intro b b2
 refine aq (hdn _) ?_
 (refine @ab _ ?_;refine au ?_)
 intro b3
 refine eg b3.n 3 4 (by omega) (fq _ _ _) rfl fun lk=>?_
 (refine @ab _ ?_;refine au ?_)
 refine aA [] l.length [1,2,3,4] (fun k=>[(4,dI k)]) (fun k=>⟨(b3.n,[dI n.ak,dB n.leaf,.sl 4 false (n.l.map dC),.acc lk.n k])::(b2.n,[dI 0,dB false,.sl 0 true [],.sl 0 true []])::(b.n,[dI n.ak,dB n.leaf,.sl 1 false (n.l.map fun c=>dS c.key),.sl 2 false ((if n.leaf then n.l else []).map fM),.sl 5 false ((aI n).map dT),.sl 6 false (l.map lD)])::S.box,(lk.n,.arr 4 ((l.take k).map Qn))::S.acc⟩) (fun _=>True) mx (by kernel_rfl) ?_ ?_
 ·(refine @ab _ ?_;exact aK)
 ·intro j hj _
  have hml:(l.take j).length=j:=by rw[List.length_take];omega
  (refine @ab _ ?_;refine ao @hml ?_)
  refine⟨fun hlt=>⟨hlt,fun c hc=>⟨hlt,fun c2 hc2=>?_⟩⟩,fun hge=>?_⟩
  ·cases bq hc hc2
   refine aT (hcn c (List.mem_of_getElem? hc) _) ?_
   have ht1:l.take (j+1)=l.take j++[c]:=by rw[List.take_add_one,hc];rfl
   rw[ht1]
   simp(maxDischargeDepth:=12) (maxSteps:=1000000) -implicitDefEqProofs only[go_sem,Nat.reduceAdd,Nat.reduceSub,Nat.reduceMul,Nat.reduceLeDiff,Nat.reduceEqDiff,Nat.reduceGT,Nat.reduceBEq,reduceCtorEq,↓reduceIte,Int.reduceToNat,Int.reduceLE,Int.reduceLT,Int.reduceNe,Int.reduceEq,hml,List.map_append,List.map_cons,List.map_nil]
   exact⟨by omega,by unfold maxLen;omega,hlt,aW j (by omega)⟩
  ·rw[List.take_of_length_le (by omega)]
   exact .refl _
structure Ms where
 j:Nat
 z:Zt
 n:N
 l:List C
structure MsI(m:Nat)(label:Int)(s:Ms):Prop where
 le:s.j≤m
 zi:ZI s.j s.z
 zv:ZV s.j s.z s.n s.l
 lb:s.z.label=label
@[go_sem] def XM (n:N) (l:List C):List DV:=dI n.ak::dB n.leaf:: .sl 1 false (n.l.map fun c=>dS c.key):: .sl 2 false ((if n.leaf then n.l else []).map fM):: .sl 5 false ((aI n).map dT):: .sl 6 false (l.map lD)::[]
@[go_sem] def NI (z:Zt):List DV:=dI z.label::dU z.bD::dI z.root::dI z.n8::dI z.high::dI z.n.ak::dB z.n.leaf:: .sl 1 false (z.n.l.map fun c=>dS c.key):: .sl 2 false ((if z.n.leaf then z.n.l else []).map fM):: .sl 5 false ((aI z.n).map dT):: .sl 6 false (z.l.map lD)::dL z.own::dI z.p.high:: .sl 1 false (z.p.free.map dI):: .sl 2 false (z.p.wait.map dW)::[]
theorem U9{z:Zt}{n:N}{l:List C}{p:Pl}{W:List (Int×ByteArray)}:(NN z n l p W).map (·.1)=W.map (·.1)++fw z n l p:=by
 unfold NN
 rw[List.map_append]
 congr 1
 exact List.map_fst_zip (Nat.le_of_eq (rk _ _).symm)
theorem BJ(w0:W0){k:Nat}{n:N}(h:TB k n)(hk:k≤116)(S:St):aa Tryz.prog w0 56 [eN n] S (fun e S'=>e=dI (dg n)∧S'=S):=by
 obtain⟨hr,d,hg,hd,ht⟩:=h
 exact TU w0 d n S (aw hg) (by omega)
theorem Sa{k:Nat}{n:N}(h:TB k n)(hk:k≤116):dg n≤70000:=by
 obtain⟨hr,d,hg,hd,ht⟩:=h
 have:=tF (aw hg)
 omega
theorem Uv{k:Nat}{n:N}{l:List C}(h:VI k n l)(hk:k≤116):nF l≤70000*l.length:=by
 have:∀l:List C,(∀c,c∈l→dg (ay c)≤70000)→nF l≤70000*l.length:=fun l=>by
  induction l with
  |nil=>intro _;exact Nat.zero_le _
  |cons c l ih=>
   intro h
   have h1:=ih fun c hc=>h c (List.mem_cons_of_mem _ hc)
   have h2:=h c List.mem_cons_self
   unfold nF at h1 ⊢
   rw[List.map_cons,List.sum_cons,List.length_cons];omega
 exact this l fun c hc=>Sa (h.cell c hc).2.1 hk
theorem I2{l:List C}{k:Nat}{c:C}(h:l[k]? =some c):nF (l.take (k+1))=nF (l.take k)+dg (ay c):=by
 rw[List.take_add_one,h,Option.toList_some,Bv]
theorem M8(w0:W0)(k:Nat)(n:N)(l:List C)(S:St)(h:VI k n l)(hk:k≤116):aa Tryz.prog w0 21 [eL n l] S (fun d S'=>d=dI (eu (n,l))∧S'=S):=by
 have hln:=h.len
 have hfn:=Sa h.dir hk
 have hfl:=Uv h hk
 have hd:=fun S=>BJ w0 h.dir hk S
 have hc:=fun c (hc:c∈l) S=>BJ w0 (h.cell c hc).2.1 hk S
 refine aY [] mx Tryz.func21 rfl rfl (by kernel_rfl) ?_;(refine @ab _ ?_;refine ao @Tryz.ntmps21 ?_)
 intro b
 refine aq (hd _) ?_
 (refine @ab _ ?_;refine au ?_)
 refine aA [] l.length [1,3,4] (fun k=>[(3,dI ((dg n+nF (l.take k):Nat):Int)),(4,dI k)]) (fun _=>⟨(b.n,[dI n.ak,dB n.leaf,.sl 4 false (n.l.map dC),.sl 4 false (l.map Qn)])::S.box,S.acc⟩) (fun _=>True) mx (by kernel_rfl) ?_ ?_
 ·(refine @ab _ ?_;refine au ?_)
  rfl
 ·intro j hj _
  (refine @ab _ ?_;refine au ?_)
  refine⟨fun hlt=>⟨hlt,fun a ha=>?_⟩,fun hge=>?_⟩
  ·have h1:=I2 ha
   have h2:=A7 l (j+1)
   refine aq (hc a (List.mem_of_getElem? ha) _) ?_
   (refine @ab _ ?_;refine au ?_)
   exact⟨hlt,by rw[ba (by omega) (by omega)];omega,aW j (by omega)⟩
  ·rw[List.take_of_length_le (by omega)];rfl
theorem E5(w0:W0)(l:List Int)(S:St)(h0:l.length≤1048576):
 aa Tryz.prog w0 53 [dL l] S (fun d S'=>∃lp:FN S.acc,d= .acc lp.n l.length∧S'=⟨S.box,(lp.n,.arr 1 ((bz l).map dI))::S.acc⟩):=by
 refine nt [2,1002] mx Tryz.func53 rfl rfl (by kernel_rfl) ?_;simp(maxDischargeDepth:=12) (maxSteps:=1000000) -implicitDefEqProofs only[Tryz.ntmps53,go_sem,Nat.reduceAdd,Nat.reduceSub,Nat.reduceMul,Nat.reduceLeDiff,Nat.reduceEqDiff,Nat.reduceGT,Nat.reduceBEq,reduceCtorEq,↓reduceIte,Int.reduceToNat,Int.reduceLE,Int.reduceLT,Int.reduceNe,Int.reduceEq]
 refine j3 3 1 rfl (by omega) fun l0=>?_
 refine fQ [1002] [] mx (by kernel_rfl) ?_
 simp(maxDischargeDepth:=12) (maxSteps:=1000000) -implicitDefEqProofs only[go_sem,Nat.reduceAdd,Nat.reduceSub,Nat.reduceMul,Nat.reduceLeDiff,Nat.reduceEqDiff,Nat.reduceGT,Nat.reduceBEq,reduceCtorEq,↓reduceIte,Int.reduceToNat,Int.reduceLE,Int.reduceLT,Int.reduceNe,Int.reduceEq]
 refine iH [1002] (σ:=Nat×FN S.acc) [0,3,4] (fun s=>[(3,.acc s.2.n s.1),(4,dI s.1)]) (fun s=>⟨S.box,(s.2.n,.arr 1 ((bz (l.take s.1)).map dI))::S.acc⟩) (fun s=>s.1≤l.length) (fun s=>l.length-s.1) (0,l0) mx (by kernel_rfl) ?_ ?_
 ·rw[show bz (l.take 0)=[]by simp[bz]]
  simp(maxDischargeDepth:=12) (maxSteps:=1000000) -implicitDefEqProofs only[go_sem,Nat.reduceAdd,Nat.reduceSub,Nat.reduceMul,Nat.reduceLeDiff,Nat.reduceEqDiff,Nat.reduceGT,Nat.reduceBEq,reduceCtorEq,↓reduceIte,Int.reduceToNat,Int.reduceLE,Int.reduceLT,Int.reduceNe,Int.reduceEq]
  omega
 ·rintro⟨k,lq⟩ hk
  simp only at hk
  have hsl:(bz (l.take k)).length=k:=by rw[aN,List.length_take];omega
  simp(maxDischargeDepth:=12) (maxSteps:=1000000) -implicitDefEqProofs only[go_sem,Nat.reduceAdd,Nat.reduceSub,Nat.reduceMul,Nat.reduceLeDiff,Nat.reduceEqDiff,Nat.reduceGT,Nat.reduceBEq,reduceCtorEq,↓reduceIte,Int.reduceToNat,Int.reduceLE,Int.reduceLT,Int.reduceNe,Int.reduceEq]
  refine⟨fun hlt=>?_,fun hge=>⟨lq,by rw[show k=l.length by omega],by rw[List.take_of_length_le (by omega)]⟩⟩
  obtain⟨x,hx⟩:∃x,l[k]? =some x:=⟨_,List.getElem?_eq_getElem hlt⟩
  have fin:∀j,(∀(i:Nat) a,i<j→(bz (l.take k))[i]? =some a→a≤x)→(∀a,(bz (l.take k))[j]? =some a→x<a)→List.map dI ((bz (l.take k)).take j)++([DV.v (.int .i64 x)]++List.map dI ((bz (l.take k)).drop j))=List.map dI (bz (l.take (k+1))):=by
   intro j hup h
   rw[ig hx,←uV (x:=x) (j:=j) hup h]
   simp[dI]
  refine fQ [] [3] mx (by kernel_rfl) ?_
  simp(maxDischargeDepth:=12) (maxSteps:=1000000) -implicitDefEqProofs only[go_sem,Nat.reduceAdd,Nat.reduceSub,Nat.reduceMul,Nat.reduceLeDiff,Nat.reduceEqDiff,Nat.reduceGT,Nat.reduceBEq,reduceCtorEq,↓reduceIte,Int.reduceToNat,Int.reduceLE,Int.reduceLT,Int.reduceNe,Int.reduceEq,hsl]
  refine iH [] [0,3,4,5] (fun j:Nat=>[(5,dI j)]) (fun _=>S) (fun j=>j≤k∧∀(i:Nat) a,i<j→(bz (l.take k))[i]? =some a→a≤x) (fun j=>k-j) 0 mx (by kernel_rfl) ?_ ?_
  ·simp(maxDischargeDepth:=12) (maxSteps:=1000000) -implicitDefEqProofs only[go_sem,Nat.reduceAdd,Nat.reduceSub,Nat.reduceMul,Nat.reduceLeDiff,Nat.reduceEqDiff,Nat.reduceGT,Nat.reduceBEq,reduceCtorEq,↓reduceIte,Int.reduceToNat,Int.reduceLE,Int.reduceLT,Int.reduceNe,Int.reduceEq]
   exact⟨by omega,fun i a hi=>by omega⟩
  ·intro j hjj
   have hj:=hjj.1
   have hup:=hjj.2
   clear hjj
   simp(maxDischargeDepth:=12) (maxSteps:=1000000) -implicitDefEqProofs only[go_sem,Nat.reduceAdd,Nat.reduceSub,Nat.reduceMul,Nat.reduceLeDiff,Nat.reduceEqDiff,Nat.reduceGT,Nat.reduceBEq,reduceCtorEq,↓reduceIte,Int.reduceToNat,Int.reduceLE,Int.reduceLT,Int.reduceNe,Int.reduceEq,hsl]
   have em:min j k=j:=by omega
   have et:(bz (l.take k)).take k=bz (l.take k):=List.take_of_length_le (by omega)
   rw[em,et]
   have ek:IntKind.i64.wrap ((k:Int)+1)=((k+1:Nat):Int):=by rw[ba (by omega) (by omega)];omega
   have last:(∀a,(bz (l.take k))[j]? =some a→x<a)→∀b:FN S.acc,∃s':Nat×FN S.acc,s'.fst≤l.length∧l.length-s'.fst<l.length-k∧(Wk (.acc b.n (j+1+(k-j))) (.acc s'.snd.n s'.fst)∧IntKind.i64.wrap ((k:Int)+1)=((s'.fst:Nat):Int))∧Sub ⟨S.box,(s'.snd.n,.arr 1 (List.map dI (bz (l.take s'.fst))))::S.acc⟩ ⟨S.box,(b.n,.arr 1 (List.map dI ((bz (l.take k)).take j)++[DV.v (.int .i64 x)]++List.map dI ((bz (l.take k)).drop j)))::S.acc⟩:=by
    intro h b
    refine⟨(k+1,b),by show k+1≤_;omega,by show l.length-(k+1)<_;omega,⟨by show Wk _ (.acc b.n (k+1));rw[show j+1+(k-j)=k+1 by omega];exact .refl _,ek⟩,?_⟩
    rw[List.append_assoc,fin j hup h]
    exact .refl _
   refine⟨fun h1=>⟨h1,fun a ha=>⟨hlt,fun y hy=>?_⟩⟩,fun h1=>⟨hj,by omega,by unfold maxLen;omega,fun b=>⟨hlt,fun y hy=>?_⟩⟩⟩
   ·cases bq hx hy
    refine⟨fun h2=>⟨j+1,⟨by omega,fun i b hi hb=>?_⟩,by omega,ba (by omega) (by omega)⟩,fun h2=>⟨hj,by omega,by unfold maxLen;omega,fun b=>⟨hlt,fun y hy=>?_⟩⟩⟩
    ·by_cases e:i=j
     ·subst e;cases bq ha hb;exact h2
     ·exact hup i b (by omega) hb
    ·cases bq hx hy
     exact⟨by omega,by unfold maxLen;omega,by omega,by omega,by unfold maxLen;omega,last (fun b hb=>by cases bq ha hb;omega) b⟩
   ·cases bq hx hy
    exact⟨by omega,by unfold maxLen;omega,by omega,by omega,by unfold maxLen;omega,last (fun b hb=>by have:=(List.getElem?_eq_some_iff.1 hb).1;omega) b⟩
theorem H5(w0:W0)(d:Nat)(n:N)(S:St)(hn:Nd d n)(ht:bd n≤131072):aa Tryz.prog w0 55 [eN n] S (fun d S'=>∃lp:FN S.acc,d= .acc lp.n (dO n).length∧S'=⟨S.box,(lp.n,.arr 1 ((dO n).map dI))::S.acc⟩):=by
 have hle:=tg hn
 have hs:=fun S=>E5 w0 (bX n) S (by omega)
 rw[kM (nz d n hn)]at hs
 have hl:(bX n).length=(dO n).length:=by
  have:=congrArg List.length (kM (nz d n hn))
  rw[aN]at this
  exact this
 refine vp [] mx Tryz.func55 rfl rfl (by kernel_rfl) ?_;simp(maxDischargeDepth:=12) (maxSteps:=1000000) -implicitDefEqProofs only[Tryz.ntmps55,go_sem,Nat.reduceAdd,Nat.reduceSub,Nat.reduceMul,Nat.reduceLeDiff,Nat.reduceEqDiff,Nat.reduceGT,Nat.reduceBEq,reduceCtorEq,↓reduceIte,Int.reduceToNat,Int.reduceLE,Int.reduceLT,Int.reduceNe,Int.reduceEq]
 intro b
 refine aq (WN w0 d n _ hn ht) ?_
 simp(maxDischargeDepth:=12) (maxSteps:=1000000) -implicitDefEqProofs only[go_sem,Nat.reduceAdd,Nat.reduceSub,Nat.reduceMul,Nat.reduceLeDiff,Nat.reduceEqDiff,Nat.reduceGT,Nat.reduceBEq,reduceCtorEq,↓reduceIte,Int.reduceToNat,Int.reduceLE,Int.reduceLT,Int.reduceNe,Int.reduceEq]
 refine bB (hs _) ?_
 rintro d S' ⟨lp,rfl,rfl⟩
 simp(maxDischargeDepth:=12) (maxSteps:=1000000) -implicitDefEqProofs only[go_sem,Nat.reduceAdd,Nat.reduceSub,Nat.reduceMul,Nat.reduceLeDiff,Nat.reduceEqDiff,Nat.reduceGT,Nat.reduceBEq,reduceCtorEq,↓reduceIte,Int.reduceToNat,Int.reduceLE,Int.reduceLT,Int.reduceNe,Int.reduceEq]
 exact⟨_,⟨S.box,(lp.n,.arr 1 ((dO n).map dI))::S.acc⟩,by rw[hl];exact .refl _,.bw (.refl _),lp,rfl,rfl⟩
theorem Kd(w0:W0){k:Nat}{n:N}(h:TB k n)(hk:k≤116)(S:St):aa Tryz.prog w0 55 [eN n] S (fun d S'=>∃lp:FN S.acc,d= .acc lp.n (dO n).length∧S'=⟨S.box,(lp.n,.arr 1 ((dO n).map dI))::S.acc⟩):=by
 obtain⟨hr,d,hg,hd,ht⟩:=h
 exact H5 w0 d n S (aw hg) (by omega)
theorem Qr(w0:W0){k:Nat}{n:N}(h:TB k n)(hk:k≤116)(S:St):aa Tryz.prog w0 55 [eN n] S (fun e S'=>e=dL (dO n)∧S'=S):=by
 obtain⟨hr,d,hg,hd,ht⟩:=h
 exact Iu w0 d n S (aw hg) (by omega)
def xY(l:List C):List Int:=l.flatMap fun c=>dO (ay c)
theorem Mp{l:List C}{k:Nat}{c:C}(h:l[k]? =some c):xY (l.take (k+1))=xY (l.take k)++dO (ay c):=by
 unfold xY;rw[List.take_add_one,h,Option.toList_some,List.flatMap_append];simp
theorem Tt(n:N)(l:List C):bJ n l=bz (dO n++xY l):=by
 unfold bJ gR flat xY
 rw[List.map_cons,List.flatten_cons,List.map_map,List.flatMap_def];rfl
theorem Pp(w0:W0)(k:Nat)(n:N)(l:List C)(S:St)(h:VI k n l)(hk:k≤116)(hlen:(bJ n l).length≤1048576):aa Tryz.prog w0 20 [eL n l] S (fun d S'=>∃lp:FN S.acc,d= .acc lp.n (bJ n l).length∧S'=⟨S.box,(lp.n,.arr 1 ((bJ n l).map dI))::S.acc⟩):=by
 have hln:=h.len
 have hd:=fun S=>Kd w0 h.dir hk S
 have hc:=fun c (hc:c∈l) S=>Qr w0 (h.cell c hc).2.1 hk S
 rw[Tt,aN]at hlen ⊢
 have hs:=fun S=>E5 w0 (dO n++xY l) S hlen
 refine vp [] mx Tryz.func20 rfl rfl (by kernel_rfl) ?_;simp(maxDischargeDepth:=12) (maxSteps:=1000000) -implicitDefEqProofs only[Tryz.ntmps20,go_sem,Nat.reduceAdd,Nat.reduceSub,Nat.reduceMul,Nat.reduceLeDiff,Nat.reduceEqDiff,Nat.reduceGT,Nat.reduceBEq,reduceCtorEq,↓reduceIte,Int.reduceToNat,Int.reduceLE,Int.reduceLT,Int.reduceNe,Int.reduceEq]
 intro b
 refine bB (hd _) ?_
 rintro d S' ⟨lp,rfl,rfl⟩
 simp(maxDischargeDepth:=12) (maxSteps:=1000000) -implicitDefEqProofs only[go_sem,Nat.reduceAdd,Nat.reduceSub,Nat.reduceMul,Nat.reduceLeDiff,Nat.reduceEqDiff,Nat.reduceGT,Nat.reduceBEq,reduceCtorEq,↓reduceIte,Int.reduceToNat,Int.reduceLE,Int.reduceLT,Int.reduceNe,Int.reduceEq]
 refine aA [] l.length [1,3,4] (fun k=>[(3,.acc lp.n (dO n++xY (l.take k)).length),(4,dI k)]) (fun k=>⟨(b.n,[dI n.ak,dB n.leaf,.sl 4 false (n.l.map dC),.sl 4 false (l.map Qn)])::S.box,(lp.n,.arr 1 ((dO n++xY (l.take k)).map dI))::S.acc⟩) (fun _=>True) mx (by kernel_rfl) ?_ ?_
 ·simp(maxDischargeDepth:=12) (maxSteps:=1000000) -implicitDefEqProofs only[go_sem,Nat.reduceAdd,Nat.reduceSub,Nat.reduceMul,Nat.reduceLeDiff,Nat.reduceEqDiff,Nat.reduceGT,Nat.reduceBEq,reduceCtorEq,↓reduceIte,Int.reduceToNat,Int.reduceLE,Int.reduceLT,Int.reduceNe,Int.reduceEq]
  rw[show xY []=[]from rfl,List.append_nil,List.length_nil,Nat.add_zero]
  exact⟨.refl _,.refl _⟩
 ·intro j hj _
  have hpl:(xY (l.take j)).length≤(xY l).length:=by
   have:=congrArg (fun l=>(xY l).length) (List.take_append_drop j l)
   simp only[xY,List.flatMap_append,List.length_append]at this ⊢
   omega
  rw[List.length_append]at hlen
  simp(maxDischargeDepth:=12) (maxSteps:=1000000) -implicitDefEqProofs only[go_sem,Nat.reduceAdd,Nat.reduceSub,Nat.reduceMul,Nat.reduceLeDiff,Nat.reduceEqDiff,Nat.reduceGT,Nat.reduceBEq,reduceCtorEq,↓reduceIte,Int.reduceToNat,Int.reduceLE,Int.reduceLT,Int.reduceNe,Int.reduceEq]
  refine⟨fun hlt=>⟨hlt,fun a ha=>?_⟩,fun hge=> .inr ?_⟩
  ·have e:=Mp ha
   have hpl2:(xY (l.take (j+1))).length≤(xY l).length:=by
    have:=congrArg (fun l=>(xY l).length) (List.take_append_drop (j+1) l)
    simp only[xY,List.flatMap_append,List.length_append]at this ⊢
    omega
   have el:=congrArg List.length e
   rw[List.length_append]at el
   refine aq (hc a (List.mem_of_getElem? ha) _) ?_
   simp(maxDischargeDepth:=12) (maxSteps:=1000000) -implicitDefEqProofs only[go_sem,Nat.reduceAdd,Nat.reduceSub,Nat.reduceMul,Nat.reduceLeDiff,Nat.reduceEqDiff,Nat.reduceGT,Nat.reduceBEq,reduceCtorEq,↓reduceIte,Int.reduceToNat,Int.reduceLE,Int.reduceLT,Int.reduceNe,Int.reduceEq]
   rw[e,←List.append_assoc,List.map_append (l₁:=dO n++_)]
   refine⟨by omega,by unfold maxLen;omega,hlt,⟨?_,aW j (by omega)⟩,.refl _⟩
   rw[List.length_append,Nat.add_assoc];exact .refl _
  ·rw[List.take_of_length_le (by omega)]
   refine bB (hs _) ?_
   rintro d S' ⟨lp2,rfl,rfl⟩
   simp(maxDischargeDepth:=12) (maxSteps:=1000000) -implicitDefEqProofs only[go_sem,Nat.reduceAdd,Nat.reduceSub,Nat.reduceMul,Nat.reduceLeDiff,Nat.reduceEqDiff,Nat.reduceGT,Nat.reduceBEq,reduceCtorEq,↓reduceIte,Int.reduceToNat,Int.reduceLE,Int.reduceLT,Int.reduceNe,Int.reduceEq]
   have hn:iX S.acc lp2.m:=(show iX ((lp.n,_)::S.acc) lp2.m from lp2.h).2.2
   exact⟨.acc lp2.n (dO n++xY l).length,⟨S.box,(lp2.n,.arr 1 ((bz (dO n++xY l)).map dI))::S.acc⟩,by rw[List.length_append];exact .refl _,.bw (.Kc (.nZ (.refl _))),⟨lp2.m,hn⟩,by rw[List.length_append];rfl,rfl⟩
@[go_sem] def ZN (z:Zt):List DV:=dI z.label::dU z.bD::dI z.root::dI z.n8::dI z.high::dI z.n.ak::dB z.n.leaf:: .sl 4 false (z.n.l.map dC):: .sl 4 false (z.l.map Qn)::dL z.own::dI z.p.high:: .sl 1 false (z.p.free.map dI):: .sl 2 false (z.p.wait.map dW)::[]
@[go_sem] def SW (z:Zt):DV:= .agg (ZN z)
theorem U2(w0:W0)(l:List Int)(S:St)(hl:l.length≤1048576):aa Tryz.prog w0 46 [dL l,dL l] S (fun d S'=>d=dB true∧S'=S):=by
 refine aY [] mx Tryz.func46 rfl rfl (by kernel_rfl) ?_;(refine @ab _ ?_;refine ao @Tryz.ntmps46 ?_)
 refine aA [] l.length [0,1,5] (fun k=>[(5,dI k)]) (fun _=>S) (fun _=>True) mx (by kernel_rfl) ?_ ?_
 ·(refine @ab _ ?_;exact aK)
 ·intro j hj _
  (refine @ab _ ?_;refine au ?_)
  refine fun hlt=>⟨hlt,fun a ha=>⟨hlt,fun b hb=>⟨fun h=>?_,fun _=>⟨hlt,aW j (by omega)⟩⟩⟩⟩
  cases bq ha hb
  exact h rfl
theorem Ss(w0:W0){k:Nat}{z:Zt}(S:St)(hz:ZI k z)(hk:k≤116):aa Tryz.prog w0 16 [SW z,SW z] S (fun d S'=>d=dB true∧S'=S):=by
 have ks:=eH hz.keep
 obtain⟨b1,b2,b3⟩:=kN hz z.n z.l
 have h1:=fun S=>WG w0 k z.n z.l S hz.vi hk
 have h2:=fun S=>U2 w0 z.own S (by omega)
 have h3:=fun S=>Xx w0 z.p z.p S (by omega) (by omega) (by omega)
 refine aY [] mx Tryz.func16 rfl rfl (by kernel_rfl) ?_;(refine @ab _ ?_;refine ao @Tryz.ntmps16 ?_)
 intro b1 b2
 refine aq (h1 _) ?_
 (refine @ab _ ?_;refine au ?_)
 refine aq (h2 _) ?_
 (refine @ab _ ?_;refine au ?_)
 refine aq (h3 _) ?_
 (refine @ab _ ?_;refine au ?_)
 trivial
theorem Px(w0:W0){k:Nat}{z:Zt}(S:St)(hz:ZI k z)(hk:k≤116):aa Tryz.prog w0 17 [eZ z] S (fun d S'=>d=SW z∧S'=S):=by
 have ks:=eH hz.keep
 have hsh:=fun S=>yK w0 k z.n z.l S hz.vi hk
 refine aY [2,1000] mx Tryz.func17 rfl rfl (by kernel_rfl) ?_;(refine @ab _ ?_;refine ao @Tryz.ntmps17 ?_)
 intro b1 b2 b3
 refine Jp mx (by kernel_rfl) ?_
 (refine @ab _ ?_;refine au ?_)
 refine KE (fun B hB=>hsh _) ?_
 (refine @ab _ ?_;refine au ?_)
 intro b4
 refine eg b4.n 12 2 (by omega) (ds:=dI z.label::dU z.bD::dI z.root::dI z.n8::dI z.high::dI z.n.ak::dB z.n.leaf:: .sl 4 false (z.n.l.map dC):: .sl 4 false (z.l.map Qn)::dL z.own::dI z.p.high:: .sl 1 false (z.p.free.map dI):: .sl 0 true []::[]) (by(refine @ab _ ?_;exact aK)) rfl fun lw=>?_
 refine fQ [] [] mx (by kernel_rfl) ?_
 (refine @ab _ ?_;refine au ?_)
 refine aA [] z.p.wait.length [1,2,4,5] (fun k=>[(5,dI k)]) (fun k=>⟨(b4.n,dI z.label::dU z.bD::dI z.root::dI z.n8::dI z.high::dI z.n.ak::dB z.n.leaf:: .sl 4 false (z.n.l.map dC):: .sl 4 false (z.l.map Qn)::dL z.own::dI z.p.high:: .sl 1 false (z.p.free.map dI):: .acc lw.n k::[])::(b2.n,[dI 0,dU 0,dI 0,dI 0,dI 0,dI 0,dB false,.sl 0 true [],.sl 0 true [],.sl 0 true [],dI 0,.sl 0 true [],.sl 0 true []])::(b1.n,NI z)::S.box,(lw.n,.arr 2 ((z.p.wait.take k).map dW))::S.acc⟩) (fun _=>True) mx (by kernel_rfl) ?_ ?_
 ·(refine @ab _ ?_;exact aK)
 ·intro j hj _
  have hml:(z.p.wait.take j).length=j:=by rw[List.length_take];omega
  (refine @ab _ ?_;refine ao @hml ?_)
  refine⟨fun hlt=>⟨hlt,fun a ha=>⟨hlt,fun c hc=>?_⟩⟩,fun hge=>by rw[List.take_of_length_le (by omega)];exact .refl _⟩
  cases bq ha hc
  rw[ig ha,List.map_append]
  exact⟨by omega,by unfold maxLen;omega,hlt,aW j (by omega),.refl _⟩
def l8(l:List Int):List DV:=(List.range 1001).map fun i:Nat=>dB (decide ((i:Int)∈l))
theorem Ge:l8 []=List.replicate 1001 (.v (.bool false)):=by
 unfold l8
 rw[List.eq_replicate_iff]
 refine⟨by rw[List.length_map,List.length_range],fun x hx=>?_⟩
 obtain⟨i,_,rfl⟩:=List.mem_map.1 hx
 simp[dB]
theorem F3(l:List Int):(l8 l).length=1001:=by unfold l8;rw[List.length_map,List.length_range]
theorem QM(l:List Int)(i:Nat)(h:i<1001)(F:DV→Prop):BX (l8 l) i F=F (dB (decide ((i:Int)∈l))):=by
 unfold BX l8
 rw[List.getElem?_map,List.getElem?_range h]
 exact propext ⟨fun⟨d,e,_,h⟩=>by cases e;exact h,fun h=>⟨_,rfl,rfl,h⟩⟩
theorem vT(l:List Int)(x:Int)(h0:0≤x)(h1:x<1001):(l8 l).set x.toNat (dB true)=l8 (l++[x]):=by
 unfold l8
 apply List.ext_getElem?
 intro i
 rw[List.getElem?_set]
 simp only[List.getElem?_map,List.length_map,List.length_range]
 by_cases hi:i<1001
 ·rw[List.getElem?_range hi]
  by_cases e:x.toNat=i
  ·have:(i:Int)=x:=by omega
   simp[e,hi,this]
  ·have:¬(i:Int)=x:=by omega
   simp[e,this]
 ·rw[List.getElem?_eq_none (by rw[List.length_range];omega)]
  have:¬x.toNat=i:=by omega
  simp[this]
theorem PX{k:Nat}{n:N}(h:TB k n)(hk:k≤116):(gm n).length≤131072:=by
 obtain⟨hr,d,hg,hd,ht⟩:=h
 have:=LD (aw hg)
 unfold gm
 rw[List.length_map]
 omega
theorem RJ(w0:W0){k:Nat}{n:N}(h:TB k n)(hk:k≤116)(S:St):aa Tryz.prog w0 22 [eN n] S (fun e S'=>e= .sl 4 false ((gm n).map dC)∧S'=S):=by
 obtain⟨hr,d,hg,hd,ht⟩:=h
 exact M1 w0 d n S (aw hg) (by omega)
theorem Nk(w0:W0)(hg:fF w0)(l:List Sp)(q:Int)(S:St)(hl:l.length≤1048576)(hi:∀s,s∈l→ -9223372036854775808≤s.size∧s.size≤9223372036854775807)(hq:0≤q∧q≤65535):aa Tryz.prog w0 4 [.sl 4 false (l.map Yr),.v (.int .u16 q)] S (fun d S'=>d=dB true∧S'=S):=by
 have haw:=fun S=>Pc w0 hg S
 have hsm:=fun S=>NR w0 l S hl
 have hz:=Fp (label:=0) (by omega)
 cases hsl:mX l with
 |false=>
  rw[hsl]at hsm
  refine aY [24] mx Tryz.func4 rfl rfl (by kernel_rfl) ?_;(refine @ab _ ?_;refine ao @Tryz.ntmps4 ?_)
  refine aq (haw _) ?_
  (refine @ab _ ?_;refine au ?_)
  refine aq (hsm _) ?_
  (refine @ab _ ?_;exact aK)
 |true=>
  rw[hsl]at hsm
  unfold mX at hsl
  rw[Bool.and_eq_true,decide_eq_true_eq,List.all_eq_true]at hsl
  obtain⟨hs1,hs2⟩:=hsl
  have hsz:∀s,s∈l→s.size≤400:=fun s h=>by
   have:=hs1 s h
   unfold mZ at this
   rw[Bool.and_eq_true,Bool.and_eq_true,decide_eq_true_eq,decide_eq_true_eq,decide_eq_true_eq]at this
   exact this.2
  refine aY [24] mx Tryz.func4 rfl rfl (by kernel_rfl) ?_;(refine @ab _ ?_;refine ao @Tryz.ntmps4 ?_)
  refine aq (haw _) ?_
  (refine @ab _ ?_;refine au ?_)
  refine aq (hsm _) ?_
  (refine @ab _ ?_;refine au ?_)
  refine aq (W7 w0 0 _) ?_
  (refine @ab _ ?_;refine au ?_)
  intro b5 b6
  have hQ:∃Q:Int,IntKind.i64.wrap (IntKind.i64.wrap (q.tmod 1000)+1)=Q∧1≤Q∧Q≤1000:=by
   have h1:q.tmod 1000=q%1000:=Int.tmod_eq_emod_of_nonneg hq.1
   rw[h1,ba (n:=q%1000) (by omega) (by omega),ba (by omega) (by omega)]
   exact⟨_,rfl,by omega,by omega⟩
  obtain⟨Q,hQ,hQ0,hQ1⟩:=hQ
  rw[hQ]
  clear hQ
  refine iH [24] [0,7,8,9,10] (fun s:Ms=>[(10,dI s.j)]) (fun s=>⟨(b6.n,XM s.n s.l)::(b5.n,NI s.z)::S.box,S.acc⟩) (fun s=>MsI l.length 0 s∧s.z.p.high≤max Q 2) (fun s=>l.length-s.j) ⟨0,z0 0,(z0 0).n,(z0 0).l⟩ mx (by kernel_rfl) ?_ ?_
  ·(refine @ab _ ?_;refine au ?_)
   exact⟨⟨Nat.zero_le _,hz,hz.zv,rfl⟩,by show(2:Int)≤_;omega⟩
  ·rintro⟨j,z,n,v⟩ ⟨⟨hj,hz,hv,hlb⟩,hhi⟩
   simp only at hj hz hv hlb hhi
   have ej:IntKind.i64.wrap ((j:Int)+1)=((j+1:Nat):Int):=by rw[ba (by omega) (by omega)];omega
   (refine @ab _ ?_;refine ao @ej ?_)
   refine fun hlt=>⟨hlt,fun s hs=>⟨fun _=>⟨hlt,fun s1 hs1=>?_⟩,fun _=>⟨hlt,fun s1 hs1=>?_⟩⟩⟩
   ·rw[hs]at hs1
    obtain rfl:=Option.some.inj hs1
    refine aT (Kq w0 j n v s _ hv.vi (by omega) (hsz s (List.mem_of_getElem? hs))) ?_
    (refine @ab _ ?_;refine ao @ej ?_)
    refine⟨⟨j+1,z,(me s (n,v)).1,(me s (n,v)).2⟩,⟨⟨by show j+1≤_;omega,sO hz (by show j≤j+1;omega),JZ (q:=(n,v)) hz (Nat.le_refl j) (by omega) hv s,hlb⟩,hhi⟩,by show l.length-(j+1)<l.length-j;omega,?_⟩
    (refine @ab _ ?_;refine ao @ej ?_)
    trivial
   ·rw[hs]at hs1
    obtain rfl:=Option.some.inj hs1
    have htx:=hz.bD
    have hsi:=hi s (List.mem_of_getElem? hs)
    have hold:=fun S=>P8 w0 z s.size S ⟨htx.1,by omega⟩ hsi
    generalize (Jx z.bD s.size).1=ot at*
    generalize (Jx z.bD s.size).2=oh at*
    refine aT (hold _) ?_
    (refine @ab _ ?_;refine ao @ej ?_)
    have hpz:=fun S=>Px w0 S hz (by omega)
    have hsame:=fun S=>Ss w0 S hz (by omega)
    by_cases hf:mC z n v Q (release z.p ot oh)
    ·obtain⟨M,X,R1,W,hpa,hpo,hce,w4⟩:=RW w0 hg (q:=Q) (t:=ot) (hd:=oh) hz hv (by omega) (by omega) hQ1 hf
     have hzi:=hpo.zi
     have hwl:=congrArg List.length hpa.wr
     rw[List.length_map,List.length_take]at hwl
     have hwf:=U9 (z:=z) (n:=n) (l:=v) (p:=release z.p ot oh) (W:=W)
     have htk:(cQ (release z.p ot oh) (eu (n,v))).length=eu (n,v):=by rw[lu];omega
     rw[hpa.wr,List.take_of_length_le (by omega)]at hwf
     have hat:=hpo.at_
     have hatn:=hpo.atn
     have hph:=hpo.high
     have hsz8:∀x,x∈NN z n v (release z.p ot oh) W→x.2.size=128:=fun x hx=>by
      unfold NN at hx
      rcases List.mem_append.1 hx with hx|hx
      ·exact hpa.sz x hx
      ·have h2:=(List.of_mem_zip (a:=x.1) (b:=x.2) hx).2
       unfold gI at h2
       obtain⟨i,_,h3⟩:=List.mem_map.1 h2
       rw[←h3]
       exact jf 4 (by have:=pT (listed (oT z n v (release z.p ot oh))) (fw z n v (release z.p ot oh)) i;simp only[db,List.map_cons,List.map_nil,List.sum_cons,List.sum_nil];omega)
     have e1:fw z n v (release z.p ot oh)=(jR z n v (release z.p ot oh) M X).own:=rfl
     have e4:(jR z n v (release z.p ot oh) M X).n=M:=rfl
     have e7:(jR z n v (release z.p ot oh) M X).l=X:=rfl
     have e5:(jR z n v (release z.p ot oh) M X).label=0:=hlb
     have e6:(jR z n v (release z.p ot oh) M X).bD=z.bD+1:=rfl
     have e8:(oT z n v (release z.p ot oh)).high=(jR z n v (release z.p ot oh) M X).p.high:=rfl
     rw[e1]at hwf hat hatn
     rw[e8]at hat hph
     rw[←hwf]at hat hatn
     have hps:=uc (jR z n v (release z.p ot oh) M X).label (jR z n v (release z.p ot oh) M X).bD (jR z n v (release z.p ot oh) M X).root (jR z n v (release z.p ot oh) M X).n8 (jR z n v (release z.p ot oh) M X).high
     have hfv:eu (n,v)≤1000:=by
      have h1:=(jt hzi).length_eq
      have h2:=hzi.keep.oD.2.2.2.1
      rw[gC,List.length_append,List.length_append,(rR hzi.vi).length_eq,e4,e7,hpa.al.length_eq,List.length_append,List.length_take]at h1
      omega
     generalize jR z n v (release z.p ot oh) M X=Z at*
     generalize NN z n v (release z.p ot oh) W=WS at*
     generalize rS Z.label Z.bD Z.root Z.n8 Z.high=PG at*
     have htx2:=hzi.bD
     have hpg:=fun S=>Pp w0 j z.n z.l S hz.vi (by omega)
     have hshz:=fun S=>yK w0 j z.n z.l S hz.vi (by omega)
     refine aq (w4 _) ?_
     (refine @ab _ ?_;refine ao @ej ?_)
     intro b7
     refine aq (hshz _) ?_
     (refine @ab _ ?_;refine ao @ej ?_)
     obtain⟨c1,c2,c3⟩:=kN hz z.n z.l
     have hgl:(bJ z.n z.l).length+z.own.length≤998:=by
      have h1:=(jt hz).length_eq
      have h2:=hz.keep.oD.2.2.2.1
      rw[gC,List.length_append,List.length_append]at h1
      omega
     refine bB (hpg _ (by omega)) ?_
     rintro d S' ⟨lp,rfl,rfl⟩
     (refine @ab _ ?_;refine ao @ej ?_)
     have hHr:∀x,x∈bJ z.n z.l++z.own→0≤x∧x<1001:=fun x hx=>by
      have h2:=hz.keep.oD.2.2.2.1
      have hx2:x∈gS (z.n,z.l)++z.own:=by
       rcases List.mem_append.1 hx with hx|hx
       ·exact List.mem_append_left _ ((rR hz.vi).mem_iff.1 hx)
       ·exact List.mem_append_right _ hx
      have:=hz.qh x hx2
      omega
     have hHn:∀x,x∈WS.map (·.1)→x∉bJ z.n z.l++z.own:=fun x hx hx2=>(hat x hx).2.2 (by
      rcases List.mem_append.1 hx2 with hx|hx
      ·exact List.mem_append_left _ ((rR hz.vi).mem_iff.1 hx)
      ·exact List.mem_append_right _ hx)
     rw[←List.length_append]at hgl ⊢
     generalize bJ z.n z.l++z.own=H at*
     refine⟨by omega,by unfold maxLen;omega,by decide,fun ls=>?_⟩
     generalize hzX:Ob.arr 1 (DV.v (.bool false)::_)=X9
     have hX:X9= .arr 1 (l8 []):=by
      rw[Ge]
      simp only[List.reduceReplicate]
      exact hzX.symm
     clear hzX
     subst hX
     refine fQ [] [] mx (by kernel_rfl) ?_
     have hsl:=F3
     have hex:=QM
     (refine @ab _ ?_;refine ao @ej ?_)
     refine aA [] H.length [0,7,8,9,10,13,14,15,17,18,19] (fun k=>[(19,dI k)]) (fun k=>⟨(b7.n,NI Z)::(b6.n,XM n v)::(b5.n,NI z)::S.box,(ls.n,.arr 1 (l8 (H.take k)))::(lp.n,.arr 1 (H.map dI))::S.acc⟩) (fun _=>True) mx (by kernel_rfl) ?_ ?_
     ·(refine @ab _ ?_;exact aK)
     ·intro k hk _
      (refine @ab _ ?_;refine aO @ej @hsl ?_)
      refine⟨fun hlk=>⟨hlk,hlk,fun a ha=>?_⟩,fun hge=>?_⟩
      ·have hra:=hHr a (List.mem_of_getElem? ha)
       have hst:=vT (H.take k) a hra.1 hra.2
       have ht1:H.take (k+1)=H.take k++[a]:=ig ha
       refine⟨by omega,by omega,?_⟩
       rw[hex _ _ (by omega),ht1,←hst]
       exact⟨hlk,aW k (by omega),.refl _⟩
      ·rw[List.take_of_length_le (by omega)]
       refine aA [] WS.length [0,7,8,9,10,13,14,15,18,20] (fun k=>[(20,dI k)]) (fun k=>⟨(b7.n,NI Z)::(b6.n,XM n v)::(b5.n,NI z)::S.box,(ls.n,.arr 1 (l8 (H++(WS.take k).map (·.1))))::(lp.n,.arr 1 (H.map dI))::S.acc⟩) (fun _=>True) mx (by kernel_rfl) ?_ ?_
       ·(refine @ab _ ?_;refine au ?_)
        trivial
       ·intro k2 hk2 _
        (refine @ab _ ?_;refine aO @ej @hsl ?_)
        refine⟨fun hlk=>⟨hlk,fun a ha=>?_⟩,fun hge2=>?_⟩
        ·have ham:a.1∈WS.map (·.1):=List.mem_map.2 ⟨a,List.mem_of_getElem? ha,rfl⟩
         have hra:=hat a.1 ham
         have hch:=hzi.keep.oD.2.2.2.1
         have hzh:=hzi.high
         have hno:a.1∉H++(WS.take k2).map (·.1):=fun hx=>by
          rcases List.mem_append.1 hx with hx|hx
          ·exact hHn a.1 ham hx
          ·have e:WS.map (·.1)=(WS.take k2).map (·.1)++(WS.drop k2).map (·.1):=by rw[←List.map_append,List.take_append_drop]
           rw[e]at hatn
           refine(List.nodup_append.1 hatn).2.2 a.1 hx a.1 ?_ rfl
           refine List.mem_map.2 ⟨a,?_,rfl⟩
           refine List.mem_of_getElem? (i:=0) ?_
           rw[List.getElem?_drop];exact ha
         have hWl:WS.length=eu (n,v)+Z.own.length:=by
          have:=congrArg List.length hwf
          rw[List.length_map,List.length_append,htk]at this;exact this
         have hZo:=(kN hzi Z.n Z.l).2.2
         have hst:=vT (H++(WS.take k2).map (·.1)) a.1 (by omega) (by omega)
         have ht1:H++(WS.take (k2+1)).map (·.1)=H++(WS.take k2).map (·.1)++[a.1]:=by rw[ig ha,List.map_append,List.append_assoc];rfl
         refine⟨fun h=>by omega,fun _=>⟨fun h=>by omega,fun _=>⟨fun h=>by omega,fun _=>⟨by omega,by omega,?_⟩⟩⟩⟩
         rw[hex _ _ (by omega),show((a.1.toNat:Nat):Int)=a.1 by omega,decide_eq_false hno]
         (refine @ab _ ?_;refine aO @ej @hsl ?_)
         refine⟨hlk,fun a1 ha1=>?_⟩
         cases bq ha ha1
         have h128:=hsz8 a (List.mem_of_getElem? ha)
         rw[bg,h128]
         refine⟨fun h=>h rfl,fun _=>⟨by omega,by omega,?_⟩⟩
         rw[hex _ _ (by omega),ht1,←hst]
         exact⟨hlk,aW k2 (by omega),.refl _⟩
        ·rw[List.take_of_length_le (by omega)]
         have hwh:=fun S=>DY w0 S hzi (by omega)
         have hshZ:=fun S=>yK w0 (j+1) Z.n Z.l S hzi.vi (by omega)
         have hfrZ:=fun S=>M8 w0 (j+1) Z.n Z.l S hzi.vi (by omega)
         rw[hzi.fr]at hfrZ
         have hXl:Z.l.length=v.length:=by
          have:=congrArg List.length hpa.keys
          rw[List.length_map,List.length_map]at this
          rw[e7];exact this
         have hzt:IntKind.u64.wrap (z.bD+1)=z.bD+1:=ja (by omega) (by omega)
         have hPl:(bY PG).length=128:=by rw[bg,hps]
         have ht2:=e6.symm
         refine aq (hwh _) ?_
         (refine @ab _ ?_;refine AW @ej @hzt @hPl @hXl ?_)
         refine⟨fun h=>?_,fun _=>⟨fun h=>h e6,fun _=>?_⟩⟩
         ·have h1:=hzi.high
          have h2:=hph.2
          rw[h1]at h
          split at h <;>omega
         refine aq (hshZ _) ?_
         (refine @ab _ ?_;refine ao @ej ?_)
         refine aq (hfrZ _) ?_
         (refine @ab _ ?_;refine fa @ej @hPl @hXl ?_)
         have hvn:=fun c (hc:c∈v) S=>qf w0 (hv.vi.cell c hc).2.1 (by omega) S
         have hve:=fun c (hc:c∈v) S=>RJ w0 (hv.vi.cell c hc).2.1 (by omega) S
         have hvel:=fun c (hc:c∈v)=>PX (hv.vi.cell c hc).2.1 (by omega)
         have hxn:=fun c (hc:c∈Z.l) S=>qf w0 (hzi.vi.cell c hc).2.1 (by omega) S
         have hxe:=fun c (hc:c∈Z.l) S=>RJ w0 (hzi.vi.cell c hc).2.1 (by omega) S
         have hvl:=hv.vi.len
         refine aA [] v.length [0,7,8,9,10,13,22] (fun k=>[(22,dI k)]) (fun _=>⟨(b7.n,NI Z)::(b6.n,XM n v)::(b5.n,NI z)::S.box,S.acc⟩) (fun _=>True) mx (by kernel_rfl) ?_ ?_
         ·(refine @ab _ ?_;refine au ?_)
          trivial
         ·intro k3 hk3 _
          (refine @ab _ ?_;refine aO @ej @hXl ?_)
          refine⟨fun hlk=>⟨hlk,fun c hc=>?_⟩,fun hge3=>?_⟩
          ·refine aq (hvn c (List.mem_of_getElem? hc) _) ?_
           (refine @ab _ ?_;refine aO @ej @hXl ?_)
           refine aq (hve c (List.mem_of_getElem? hc) _) ?_
           (refine @ab _ ?_;refine aO @ej @hXl ?_)
           refine⟨hlk,fun x hx=>?_⟩
           refine aq (hxn x (List.mem_of_getElem? hx) _) ?_
           (refine @ab _ ?_;refine aO @ej @hXl ?_)
           refine aq (hxe x (List.mem_of_getElem? hx) _) ?_
           have he:=hpa.Y0 k3 c x hc (by rw[←e7];exact hx)
           rw[he]
           have hEl:=hvel c (List.mem_of_getElem? hc)
           have hck:c.key=x.key:=by
            have h1:=congrArg (fun l=>l[k3]?) hpa.keys
            rw[List.getElem?_map,List.getElem?_map,hc,←e7,hx]at h1
            exact(Option.some.inj h1).symm
           clear hve hxe hvn hxn
           generalize gm (ay c)=E at*
           (refine @ab _ ?_;refine aO @ej @hXl ?_)
           refine⟨hlk,fun c2 hc2=>⟨hlk,fun x2 hx2=>?_⟩⟩
           cases bq hc hc2
           cases bq hx hx2
           refine⟨fun _=>?_,fun h=>by rw[hck,fE]at h;cases h⟩
           refine aA [] E.length [0,7,8,9,10,13,22,23,24,25] (fun k=>[(25,dI k)]) (fun _=>⟨(b7.n,NI Z)::(b6.n,XM n v)::(b5.n,NI z)::S.box,S.acc⟩) (fun _=>True) mx (by kernel_rfl) ?_ ?_
           ·(refine @ab _ ?_;refine au ?_)
            trivial
           ·intro k4 hk4 _
            (refine @ab _ ?_;refine aO @ej @hXl ?_)
            refine⟨fun hl4=>⟨hl4,fun a ha=>⟨hl4,fun a2 ha2=>?_⟩⟩,fun _=>⟨hlk,aW k3 (by omega)⟩⟩
            cases bq ha ha2
            refine⟨fun h=>(by rw[fE]at h;cases h),fun _=>⟨hl4,fun a3 ha3=>⟨hl4,fun a4 ha4=>?_⟩⟩⟩
            cases bq ha ha3
            cases bq ha ha4
            exact⟨fun _=>⟨hl4,aW k4 (by omega)⟩,fun h=>by rw[fE]at h;cases h⟩
          ·exact⟨⟨j+1,Z,Z.n,Z.l⟩,⟨⟨by show j+1≤_;omega,hzi,hzi.zv,e5⟩,by show Z.p.high≤_;have:=hph.2;omega⟩,by show l.length-(j+1)<l.length-j;omega,rfl,.bw (.refl _)⟩
    ·have w3:=fun S=>Sc w0 (q:=Q) (t:=ot) (hd:=oh) S hz hv (by omega) (by omega) (by omega) hf
     refine aq (w3 _) ?_
     (refine @ab _ ?_;refine ao @ej ?_)
     intro b7
     refine⟨fun h=>absurd h (by decide),fun _=>?_⟩
     refine aT (hpz _) ?_
     (refine @ab _ ?_;refine ao @ej ?_)
     refine aT (hpz _) ?_
     (refine @ab _ ?_;refine ao @ej ?_)
     refine aT (hsame _) ?_
     (refine @ab _ ?_;refine ao @ej ?_)
     exact⟨⟨j+1,z,z.n,z.l⟩,⟨⟨by show j+1≤_;omega,sO hz (by show j≤j+1;omega),(sO hz (by show j≤j+1;omega)).zv,hlb⟩,hhi⟩,by show l.length-(j+1)<l.length-j;omega,rfl,.bw (.refl _)⟩
end Go.Proofs.YtpjenciplibdnaaGreatDoor
namespace Go.Proofs.YtpjenciplibdnaaGreatDoor
open Aml Go Go.RowKit Go.ChangeShapes
theorem RL:Tryz.prog.globalNamed "jalousie/crc.half" =some 1:=by kernel_rfl
theorem Uz:(Tryz.prog.globals[1]?).map (·.type)=some 317:=by kernel_rfl
theorem O9{W:World}(h:laidMetH Tryz.prog [("jalousie/crc.half",Rows.laid_jalousie_crc_half)] W):fF ⟨W,gW W⟩:=by
 have hT:Lib.TabIs Tryz.prog W "jalousie/crc.half" .u32 uh:=Lib.tabIs_of_head (rest:=[]) RL Uz Tryz.underlying317 Tryz.underlying197 (by kernel_rfl) (by kernel_rfl) h
 refine⟨fun j=>?_,fun u hu=>?_⟩
 ·show W.cell? ⟨1,j,none⟩=n9[j]?
  rw[World.var?_cell RL hT j,List.getElem?_toArray]
  rfl
 ·obtain⟨z,_,rfl⟩:=List.mem_map.1 hu
  rfl
noncomputable def qR(os:Os):World:=
 {World.holding Tryz.prog os ⟨#[], #[],[]⟩with heap:=(World.holding Tryz.prog os ⟨#[], #[],[]⟩).heap.modify 1 fun
  | .cells _ t frozen=> .cells n9.toArray t frozen
  |o=>o}
theorem HJ{α:Type}(l:List α):(l.map fun _=>1).sum=l.length:=by
 induction l with
 |nil=>rfl
 |cons a l ih=>simp only[List.map_cons,List.sum_cons,List.length_cons,ih];omega
end Go.Proofs.YtpjenciplibdnaaGreatDoor
namespace Go.Proofs.YtpjenciplibdnaaGreatDoor
open Aml Go Go.RowKit Go.ChangeShapes Go.WideShapes Go.ChangeAt
theorem SE{W:World}{t:TypeId}(ht:Tryz.prog.underlying t=some (.int .u16)):Rd Tryz.prog W t (fun n:Int=>[.v (.int .u16 n)]) (fun _=>1) (fun n=>0≤n∧n≤65535):=
 (KS .u16 ht).conv id (fun _=>rfl) (fun _=>Nat.le_refl _) fun n h=>by
  simp[Lit.wf,IntKind.min,IntKind.max,IntKind.signed,IntKind.bits]at h
  exact h
def V9(s:Sp):Prop:= -9223372036854775808≤s.size∧s.size≤9223372036854775807
theorem WQ{W:World}:Rd Tryz.prog W 58 (fun s:Sp=>[dI s.kind,dS s.name,dS s.key,dI s.size]) (fun s=>1) V9:=by
 have h:=Hn (W:=W) Tryz.underlying58 (total:=4) (by kernel_rfl) rfl (pH (k:=1) (K0 Tryz.underlying3) rfl (by kernel_rfl) (pH (k:=1) (NH Tryz.underlying9) rfl (by kernel_rfl) (pH (k:=1) (NH Tryz.underlying9) rfl (by kernel_rfl) (pH (k:=1) (K0 Tryz.underlying3) rfl (by kernel_rfl) OD))))
 exact h.conv (fun a=>⟨a.1,a.2.1,a.2.2.1,a.2.2.2.1⟩) (fun _=>rfl) (fun a=>by omega) fun a ha=>ha.2.2.2.1
theorem Tx{W:World}:Rd Tryz.prog W 22 (fun l:List Sp=>[.sl 4 false (l.map Yr)]) (fun l=>l.length) (fun l=>∀s,s∈l→V9 s):=
 (H4 WQ Tryz.underlying22 (k:=4) (by kernel_rfl) (by omega)).conv id (fun _=>rfl) (fun l=>by simp only[id,HJ];omega) fun _ h=>h
theorem rX:ownKnob Tryz.prog.godebug=none:=by kernel_rfl
theorem mE(H:Type)(enc:TypeId×Value→H)(W:World)(base:Nat)(args:Array Value)(ds gs:List (DataW H))(before:List MemPlace)
 (hval:∀(j:Nat) t v,Tryz.f4.params[j]? =some t→args[j]? =some v→Value.okWide Tryz.prog W .any base t v)
 (hW:DataW.Whole enc Tryz.prog Tryz.f4.params.toList Rows.commitKeepsSpec.vars false W args.toList ds gs before) (hk:Rows.uptoBulkAll (ds++gs)≤1048576) (hL:laidMetH Tryz.prog Rows.commitKeepsUptoRow.laid W):
 Calls Tryz.prog 4 args W fun e W'=>∃v,e= .returned v∧Rows.commitKeepsSpec.post enc Tryz.prog Tryz.f4 false true false false W args v W':=
 vJ (w0:=⟨W,gW W⟩) rfl (.refl _) enc (ts:=[22,23]) (tb:=4) (Fw Tx (by kernel_rfl) (Fw (SE Tryz.underlying23) (by kernel_rfl) P5)) Tryz.params4 rfl Tryz.underlying4 rfl (by kernel_rfl) (by intro t ht;revert t;decide +kernel) (fun ds hd=>by
  first
  |(match ds,hd with|[_],_=>rfl)
  |(match ds,hd with|[_,_],_=>rfl)
  |(match ds,hd with|[_,_,_],_=>rfl)
  |(match ds,hd with|[_,_,_,_],_=>rfl)) (fun a ha hs=>(Nk ⟨W,gW W⟩ (O9 hL) a.1 a.2.1 ⟨[],[]⟩ (by omega) ha.1 ha.2.1).mono fun d S' h=>h.1) base args ds gs before hval hW hk
theorem se(os:Os):laidMet Tryz.prog Rows.commitKeepsUptoRow.laid ((qR os).forCall (fun _ _=>0) ⟨#[], #[.slice none 0 0,.int .u16 0],[]⟩).memory:=
 laidMet_of_run' 8 (by kernel_rfl) (by kernel_rfl)
theorem pX(os:Os){H:Type}(enc:TypeId×Value→H):∃places,DataW.whole enc Tryz.prog ((qR os).forCall (fun _ _=>0) ⟨#[], #[.slice none 0 0,.int .u16 0],[]⟩).memory Tryz.f4.params.toList Rows.commitKeepsSpec.vars false (#[.slice none 0 0,.int .u16 0]:Array Value).toList 8=some ([.nil,.lit (.int .u16 0)],[],places):=
 ⟨[],by kernel_rfl⟩
theorem oP(os:Os)(started:os.Started)(H:Type)(enc:TypeId×Value→H)(F:Stop.Interp):
 ReturnsInHanded {} Tryz.checked os 4 .any ((Rows.OpenSpec.upto Rows.commitKeepsSpec).preRow enc Tryz.prog Tryz.f4 Rows.commitKeepsUptoRow.domain false Rows.commitKeepsUptoRow.laid) (((Rows.OpenSpec.upto Rows.commitKeepsSpec).at F).post enc Tryz.prog Tryz.f4 false true false false):=by
 obtain⟨places,hx⟩:=pX os enc
 refine returnsInHanded_of_row (C:=Tryz.checked) (s:=Rows.OpenSpec.upto Rows.commitKeepsSpec) rX started (by kernel_rfl) Tryz.func4
  (witness_row_at (enc:=enc) (C:=Tryz.checked) false (qR os) #[.slice none 0 0,.int .u16 0] rfl (by kernel_rfl) (by kernel_rfl) (by kernel_rfl)
   (OpenSpec.preRow_of_cond 8 hx (by kernel_rfl) (fun k hk=>by cases hk;kernel_rfl) (by kernel_rfl) (se os))) ?_
 intro W base args ds gs before hval hW _ hc _ hL _ _
 exact mE H enc W base args ds gs before hval hW (of_decide_eq_true (hc _ rfl)) hL
theorem qB:Rows.CommitKeepsUptoSaid:=
 OpenClaim.holds_of_cond 4 Tryz.f4 rfl rfl rfl rfl rfl rfl rfl ⟨rfl,rfl,rfl,rfl,rfl⟩ rfl rfl rfl rfl rfl (by kernel_rfl) Tryz.func4 (by kernel_rfl)
  (of_decide_eq_true (by kernel_rfl)) (by unfold Func.isWrapper;first|(rw[if_pos (by decide +kernel)];kernel_rfl)|(rw[if_neg (by decide +kernel)];exact⟨rfl,rfl⟩))
  (fun os started H enc _ F=>by rw[OpenClaim.pre_eq_preRow];exact oP os started H enc F)
theorem pE(f:FuncId)(fn:Func)(hf:Tryz.pinned.checked.prog.funcNamed Rows.commitKeepsUptoRow.func=some f)(hfn:Tryz.pinned.checked.prog.funcs[f]? =some fn):
 false=Tryz.pinned.checked.prog.looks []∧∀(j:Nat) t,fn.params[j]? =some t→Tryz.pinned.checked.prog.wantsStandIn t=false:=by
 obtain rfl:f=4:=Option.some.inj ((show Tryz.prog.funcNamed Rows.commitKeepsUptoRow.func=some 4 by kernel_rfl).symm.trans hf) |>.symm
 obtain rfl:fn=Tryz.f4:=(Option.some.inj (Tryz.func4.symm.trans hfn)).symm
 refine⟨by kernel_rfl,fun j t ht=>?_⟩
 rw[Tryz.params4]at ht
 have hm:t∈([22,23]:List TypeId):=by simpa using Array.mem_of_getElem? ht
 exact(show∀t,t∈([22,23]:List TypeId)→Tryz.prog.wantsStandIn t=false by decide +kernel) t hm
theorem commitKeeps_holds:Rows.CommitKeepsUptoCardSaid:=
 Claim7.holds_tied_plain_at .later [] _ _ _ _ qB (fun _ h=>by cases h) (by kernel_rfl) (fun _ h=>by cases h) commitKeepsUpto_row_tie rfl ⟨rfl,rfl⟩ (by kernel_rfl) rfl pE (by kernel_rfl)
end Go.Proofs.YtpjenciplibdnaaGreatDoor
