/-
  CommitAgain. By an AI agent.
-/
import Derived.Test.YtpjenciplibdnaaGreatDoorMM8
import Derived.Test.YtpjenciplibdnaaGreatDoorMM6
import Derived.Test.YtpjenciplibdnaaGreatDoorMM7
import Derived.Test.YtpjenciplibdnaaGreatDoorTie
import Derived.Test.YtpjenciplibdnaaGreatDoorCards
import Derived.Deep.DeepHandedRow
import Derived.Lib.LaidTab
set_option linter.unusedVariables false
set_option linter.unusedSimpArgs false
set_option maxRecDepth 100000
set_option maxHeartbeats 16000000
namespace Go.Proofs.YtpjenciplibdnaaGreatDoor
open Aml Go
theorem VK(w0:W0)(label:Int)(S:St):aa Tryz.prog w0 9 [dI label] S (fun d S'=>d=eZ (z0 label)∧S'=S):=by
 refine ba [] mx Tryz.func9 rfl rfl (by kernel_rfl) ?_;(refine @ab _ ?_;refine ao @Tryz.ntmps9 ?_)
 intro b
 refine aq (SQ w0 _) ?_
 (refine @ab _ ?_;refine au ?_)
 exact .agg (.cons (.refl _) (.cons (.refl _) (.cons (.refl _) (.cons (.refl _) (.cons (.refl _) (.cons (.refl _) (.cons (.refl _) (.cons (.refl _) (.cons (.refl _) (.cons (.refl _) (.cons (.refl _) (.cons (.nil _ _ _) (.cons (.refl _) (.cons (.nil _ _ _) (.cons (.nil _ _ _) .nil)))))))))))))))
theorem BK(w0:W0){k:Nat}{z:Zt}(S:St)(hz:ZI k z)(hk:k≤116):aa Tryz.prog w0 18 [eZ z] S (fun d S'=>d=dB true∧S'=S):=by
 have ks:=fM hz.keep
 have hL:=(n7 hz).length_eq
 have hS:=Hx hz
 rw[jg,List.length_append,List.length_append]at hL
 have efl:flat [cb z.n z.l,z.own,listed z.p]=cb z.n z.l++z.own++listed z.p:=by simp[flat]
 have hcc:=fun S=>concat w0 [cb z.n z.l,z.own,listed z.p] S (by simp) (by rw[efl,List.length_append,List.length_append];omega)
 rw[efl]at hcc
 have hhi:=hz.high
 have hch:=fun S=>check w0 z.p 1000 S (by omega) (by omega)
 have hc1:pB (G4 z.p 1000)=true:=by unfold pB;exact @decide_eq_true _ (Classical.propDecidable _) hz.keep.pQ
 rw[hc1]at hch
 refine ba [1] mx Tryz.func18 rfl rfl (by kernel_rfl) ?_;(refine @ab _ ?_;refine ao @Tryz.ntmps18 ?_)
 intro b1
 refine Y.l9 [] [9] [0,3,5,1,2,4,6,7,8,9,10] mx (by kernel_rfl) ?_
 (refine @ab _ ?_;refine au ?_)
 refine Y.tj (fun T _=>Ec w0 k z.n z.l T hz.vi hk) ?_
 (refine @ab _ ?_;refine au ?_)
 refine Y.tj (fun T _=>xP w0 z.p T (by omega) (by omega)) ?_
 (refine @ab _ ?_;refine au ?_)
 refine V4 (hcc _) ?_ (.cons (Wk.full _ _ _) .nil)
 intro m
 (refine @ab _ ?_;refine au ?_)
 have eA:(cb z.n z.l).length+z.own.length+(listed z.p).length=(cb z.n z.l++z.own++listed z.p).length:=by rw[List.length_append,List.length_append]
 rw[eA]
 rw[eA]at hL
 generalize cb z.n z.l++z.own++listed z.p=A at*
 refine .inl ?_
 refine xe (mi w0 (l:=m.n) (zs:=A) (by(refine @ab _ ?_;exact aQ)) (by omega)) ?_
 rw[hS]
 (refine @ab _ ?_;refine au ?_)
 have Ss:(bP 2 (z.p.high-2).toNat).length=A.length:=by rw[jg,hL]
 refine aE [] A.length [1,3,18,19,20] (fun k=>[(20,dI k)]) (fun _=>⟨(b1.n,dI z.label::dU z.bS::dI z.root::dI z.qe::dI z.high::dI z.n.an::dB z.n.leaf:: .sl 1 false (z.n.l.map fun c=>dS c.key):: .sl 2 false ((if z.n.leaf then z.n.l else []).map fk):: .sl 5 false ((aF z.n).map dT)::yo z.l::dL z.own::dI z.p.high:: .sl 1 false (z.p.free.map dI):: .sl 2 false (z.p.wait.map dW)::[])::S.box,(m.n,.arr 1 ((bP 2 (z.p.high-2).toNat).map dI))::S.acc⟩) (fun _=>True) mx (by kernel_rfl) ?_ ?_
 ·(refine @ab _ ?_;exact aQ)
 ·intro j hj _
  have ej:IntKind.i64.wrap ((j:Int)+1)=((j+1:Nat):Int):=by rw[bw (by omega) (by omega)];omega
  have e2:IntKind.i64.wrap (2+(j:Int))=2+(j:Int):=by rw[bw (by omega) (by omega)]
  have e3:IntKind.i64.wrap (z.p.high-2)=((A.length:Nat):Int):=by rw[bw (by omega) (by omega)];omega
  (refine @ab _ ?_;refine CV @ej @e2 @e3 @hhi ?_)
  refine⟨fun hlt=>⟨hlt,Ss,by omega,fun a ha=>?_⟩,fun hge=>aq (hch _) ?_⟩
  ·have:=MN ha
   exact⟨fun h=>h this,fun _=>hlt⟩
  ·(refine @ab _ ?_;refine au ?_)
   try trivial
def mO(s:Sp):Bool:=decide (s.name.size≤40)&&decide (s.key.size≤40)&&decide (s.size≤400)
def mS(l:List Sp):Bool:=l.all mO&&decide (l.length≤70)
theorem NO{l:List Sp}{k:Nat}{a:Sp}(ha:l[k]? =some a)(h:mO a=false):mS l=false:=by
 unfold mS
 rw[List.all_eq_false.2 ⟨a,List.mem_of_getElem? ha,by rw[h];simp⟩];rfl
theorem NH(w0:W0)(l:List Sp)(S:St)(hl:l.length≤1048576):aa Tryz.prog w0 8 [.sl 4 false (l.map W7)] S (fun d S'=>d=dB (mS l)∧S'=S):=by
 have hno:=fun k a=>NO (l:=l) (k:=k) (a:=a)
 have hyes:l.all mO=true→mS l=decide (l.length≤70):=fun e=>by unfold mS;rw[e];rfl
 generalize mS l=R at*
 refine ba [] mx Tryz.func8 rfl rfl (by kernel_rfl) ?_;(refine @ab _ ?_;refine ao @Tryz.ntmps8 ?_)
 refine aE [] l.length [0,3] (fun k=>[(3,dI k)]) (fun _=>S) (fun k=>(l.take k).all mO=true) mx (by kernel_rfl) ?_ ?_
 ·(refine @ab _ ?_;exact aQ)
 ·intro k hk ha
  (refine @ab _ ?_;refine au ?_)
  refine⟨fun h=>⟨h,fun a e=>⟨fun q=>(hno k a e (by unfold mO;rw[decide_eq_false (by omega)];rfl)).symm,fun q1=>⟨h,fun a' e'=>?_⟩⟩⟩,fun h=>?_⟩
  ·cases cM e e'
   refine⟨fun q=>(hno k a e (by unfold mO;rw[decide_eq_false (p:=a.key.size≤40) (by omega),Bool.and_false];rfl)).symm,fun q2=>⟨h,fun a' e'=>?_⟩⟩
   cases cM e e'
   refine⟨fun q=>(hno k a e (by unfold mO;rw[decide_eq_false (p:=a.size≤400) (by omega),Bool.and_false])).symm,fun q3=>⟨h,?_,bl k (by omega)⟩⟩
   rw[List.take_add_one,e,List.all_append,ha]
   simp only[Option.toList_some,List.all_cons,List.all_nil,Bool.and_true,Bool.true_and]
   unfold mO
   rw[decide_eq_true (by omega),decide_eq_true (by omega),decide_eq_true (by omega)];rfl
  ·have:k=l.length:=by omega
   rw[this,List.take_length]at ha
   rw[hyes ha,Bool.eq_iff_iff,decide_eq_true_iff,decide_eq_true_iff];omega
theorem K0(w0:W0)(k:Nat)(n:N)(l:List C)(s:Sp)(S:St)(h:VI k n l)(hk:k≤116)(hs:s.size≤400):aa Tryz.prog w0 11 [eV n l,W7 s] S (fun d S'=>d=eV (l5 s (n,l)).1 (l5 s (n,l)).2∧S'=S):=by
 have hmk:=fun S=>Q8 w0 k s.name n l S h hk
 have hdr:=fun S=>VQ w0 k s.name n l S h hk
 have hpu:=fun v S=>WE w0 k s.name s.key v n l S h hk
 have hde:=fun S=>PU w0 k s.name s.key n l S h hk
 have e1:(if s.size<0 then 0 else s.size)=(s.size.toNat:Int):=by split <;>omega
 have q0:s.kind=0→l5 s (n,l)=(mu s.name n l).1:=fun e=>by unfold l5;rw[if_pos e]
 have q1:¬s.kind=0→s.kind=1→l5 s (n,l)=(vu s.name n l).1:=fun a e=>by unfold l5;rw[if_neg a,if_pos e]
 have q2:¬s.kind=0→¬s.kind=1→s.kind=2→l5 s (n,l)=(rU s.name s.key (strOfNums (List.replicate s.size.toNat 0)) n l).1:=fun a c e=>by unfold l5;rw[if_neg a,if_neg c,if_pos e]
 have q3:¬s.kind=0→¬s.kind=1→¬s.kind=2→s.kind=3→l5 s (n,l)=(OG s.name s.key n l).1:=fun a c d e=>by unfold l5;rw[if_neg a,if_neg c,if_neg d,if_pos e]
 have q4:¬s.kind=0→¬s.kind=1→¬s.kind=2→¬s.kind=3→l5 s (n,l)=(n,l):=fun a c d e=>by unfold l5;rw[if_neg a,if_neg c,if_neg d,if_neg e]
 generalize l5 s (n,l)=R at*
 refine ba [7] mx Tryz.func11 rfl rfl (by kernel_rfl) ?_;(refine @ab _ ?_;refine ao @Tryz.ntmps11 ?_)
 intro b b1 b2
 refine⟨fun h0=>aq (hmk _) ?_,fun h0=>⟨fun h1=>aq (hdr _) ?_,fun h1=>⟨fun h2=>?_,fun h2=>⟨fun h3=>aq (hde _) ?_,fun h3=>?_⟩⟩⟩⟩
 ·rw[q0 h0];(refine @ab _ ?_;exact aQ)
 ·rw[q1 h0 h1];(refine @ab _ ?_;exact aQ)
 ·refine Y.l9 [8,9] [] [1,3,5,0,2,4,6,7,8,9,10,11,12,13,14] mx (by kernel_rfl) ?_
  rw[q2 h0 h1 h2]
  (refine @ab _ ?_;refine ao @e1 ?_)
  refine⟨by omega,by omega,fun b3=>⟨List.length_replicate,Y.tj (fun T _=>hpu _ T) ?_⟩⟩
  (refine @ab _ ?_;exact aQ)
 ·rw[q3 h0 h1 h2 h3];(refine @ab _ ?_;exact aQ)
 ·rw[q4 h0 h1 h2 h3];exact .refl _
def kB:ByteArray:={data:= #[98]}
def kK:ByteArray:={data:= #[107]}
def kV:ByteArray:={data:= #[118]}
theorem Yt:ct (rU kB kK kV (mu kB l6 []).1.1 (mu kB l6 []).1.2).1=2:=by kernel_rfl
theorem yY{n:N}{l:List C}(h:((gT n l).flatMap fun n=>me (dj qy n))=[]):cb n l=[]:=by
 have h2:(flat ((gT n l).map iP)).length=0:=by
  unfold flat
  rw[List.length_flatten,List.map_map]
  have:∀V:List N,(V.flatMap fun n=>me (dj qy n))=[]→(V.map (List.length∘iP)).sum=0:=fun V=>by
   induction V with
   |nil=>intro _;rfl
   |cons a V ih=>
    intro h
    rw[List.flatMap_cons,List.append_eq_nil_iff]at h
    rw[List.map_cons,List.sum_cons,ih h.2]
    show(iP a).length+0=0
    unfold iP
    rw[aV,h.1];rfl
  exact this _ h
 unfold cb
 exact List.eq_nil_of_length_eq_zero (by rw[aV];exact h2)
theorem XM:cb (rU kB kK kV (mu kB l6 []).1.1 (mu kB l6 []).1.2).1.1 (rU kB kK kV (mu kB l6 []).1.1 (mu kB l6 []).1.2).1.2=[]:=yY (by kernel_rfl)
theorem WI:cb l6 []=[]:=yY (by kernel_rfl)
theorem FG{k m:Nat}{z:Zt}(h:ZI k z)(hm:k≤m):ZI m z:=⟨fF h.vi hm,h.tv,h.fr,h.cl,h.nd,h.qW,h.keep,h.high,h.root,⟨h.bS.1,by have:=h.bS.2;omega⟩,h.label⟩
theorem CZ(a t r l h:Int):(sH a t r l h).size=128:=by
 unfold sH
 refine k7 _ ?_
 simp only[de,List.map_cons,List.map_nil,List.sum_cons,List.sum_nil,sK];omega
theorem Vq{j k:Nat}{z:Zt}{q:N×List C}(hz:ZI j z)(hj:j≤k)(hk:k≤116)(h:ZV k z q.1 q.2)(name key val:ByteArray):ZV (k+1) z (rU name key val q.1 q.2).1.1 (rU name key val q.1 q.2).1.2:=by
 have hb:=QS hz h hj
 refine yS (Q4 hb hk name key val) ?_
 unfold rU
 split
 ·rename_i hc
  simp only[Bool.and_eq_true,decide_eq_true_eq]at hc
  obtain⟨hne,hsz⟩:=dw hc.1
  exact Ll h.vi hk h.cl name _ fun t ht=>tR ht hk hne hsz hc.2
 ·exact h.cl
theorem O2:cV ⟨2,[],[]⟩ 2=[2,3]:=by kernel_rfl
theorem OO(w0:W0)(hg:fE w0)(S:St):aa Tryz.prog w0 7 [] S (fun d S'=>d=dB true∧S'=S):=by
 have v0:=QG 0
 have v1:=Jh v0 (by omega) kB
 have hz:=FI (label:=3) (by omega)
 have z0v:=hz.zv
 have z1:ZV 1 (z0 3) (mu kB l6 []).1.1 (mu kB l6 []).1.2:=LF (q:=(l6,[])) hz (Nat.le_refl 0) (by omega) z0v ⟨0,kB,aX,0⟩
 have z2:=Vq (q:=(mu kB l6 []).1) hz (Nat.zero_le 1) (by omega) z1 kB kK kV
 have w1:=fun S=>Q8 w0 0 kB l6 [] S v0 (by omega)
 have w2:=fun S=>WE w0 1 kB kK kV (mu kB l6 []).1.1 (mu kB l6 []).1.2 S v1 (by omega)
 have hf:=Yt
 have hp:=XM
 generalize rU kB kK kV (mu kB l6 []).1.1 (mu kB l6 []).1.2=Q at*
 generalize mu kB l6 []=R at*
 have hz2:=FG hz (show 0≤2 by omega)
 have hfq:ct (Q.1.1,Q.1.2)=2:=hf
 have hrel:release (z0 3).p 0 false=⟨2,[],[]⟩:=by kernel_rfl
 have hbk:bE (z0 3) Q.1.1 Q.1.2=[]:=by unfold bE;rw[show cb (z0 3).n (z0 3).l=[]from WI];rfl
 have hnd:lX (Q.1.1,Q.1.2) ⟨2,[],[]⟩ (bE (z0 3) Q.1.1 Q.1.2).length=2:=by
  rw[hbk];unfold lX;rw[hfq];kernel_rfl
 obtain⟨M,X,R1,W,hpa,hpo,_,w4⟩:=IU w0 hg (q:=4) (t:=0) (hd:=false) hz2 z2 (by omega) (by omega) (by omega) (by unfold jL;rw[hrel,hnd];decide)
 have w3:=fun S=>QP w0 (q:=3) (t:=0) (hd:=false) S hz2 z2 (by omega) (by omega) (by omega) (by unfold jL;rw[hrel,hnd];decide)
 rw[hrel]at hpa hpo w4
 have hfi:((ct (Q.1.1,Q.1.2):Nat):Int)=2:=by rw[hfq];rfl
 have hp3:mc (z0 3) Q.1.1 Q.1.2 ⟨2,[],[]⟩=⟨4,[],[]⟩:=by unfold mc;rw[hbk,hfi];kernel_rfl
 have hm2:sO (z0 3) Q.1.1 Q.1.2 ⟨2,[],[]⟩=0:=by unfold sO;rw[hp3];kernel_rfl
 have hown:fx (z0 3) Q.1.1 Q.1.2 ⟨2,[],[]⟩=[]:=by unfold fx;rw[hp3,hm2];kernel_rfl
 have hp4:ot (z0 3) Q.1.1 Q.1.2 ⟨2,[],[]⟩=⟨4,[],[]⟩:=by unfold ot;rw[hp3,hm2];kernel_rfl
 have hwr:=hpa.wr
 rw[hfi,O2,hfq]at hwr
 obtain⟨A,bL,hW⟩:=hpa.last (by rw[hfq];omega)
 have hws:RF (z0 3) Q.1.1 Q.1.2 ⟨2,[],[]⟩ W=W:=by unfold RF;rw[hown];exact List.append_nil _
 obtain⟨x,y,hW2,hM⟩:∃x y,W=[(2,x),(3,y)]∧M.an=3:=by
  match W,hwr with
  |[(_,x),(_,y)],hwr=>
   simp only[List.map_cons,List.map_nil,List.take_succ_cons,List.take_zero,List.cons.injEq,and_true]at hwr
   obtain⟨rfl,rfl⟩:=hwr
   refine⟨x,y,rfl,?_⟩
   match A,hW with
   |[a],hW=>simp only[List.cons_append,List.nil_append,List.cons.injEq,Prod.mk.injEq,and_true]at hW;exact hW.2.1.symm
   |[],hW=>simp at hW
   |_::_::_,hW=>simp at hW
 have wh1:=fun S=>BK w0 S hpo.zi (by omega)
 have wh0:=fun S=>BK w0 S hz (by omega)
 have hN:oL (z0 3) Q.1.1 Q.1.2 ⟨2,[],[]⟩ M X=⟨3,1,3,0,4,M,X,[],⟨4,[],[]⟩⟩:=by
  unfold oL;rw[hown,hp4,hM];rfl
 rw[hN]at w4 wh1
 rw[hws,hW2]at w4
 have hms:=CZ 3 1 3 0 4
 generalize sH 3 1 3 0 4=ms at*
 unfold kB kK kV at*
 refine ba [] mx Tryz.func7 rfl rfl (by kernel_rfl) ?_;(refine @ab _ ?_;refine ao @Tryz.ntmps7 ?_)
 refine aq (VK w0 3 _) ?_
 (refine @ab _ ?_;refine au ?_)
 intro b1
 refine aq (w1 _) ?_
 (refine @ab _ ?_;refine au ?_)
 intro b2
 refine aq (w2 _) ?_
 (refine @ab _ ?_;refine au ?_)
 intro b3
 refine aq (w4 _) ?_
 (refine @ab _ ?_;refine au ?_)
 intro b4
 refine aq (w3 _) ?_
 (refine @ab _ ?_;refine au ?_)
 intro b5
 have hml:((bY ms).length:Int)=128:=by rw[bd,hms];rfl
 refine⟨fun _=>aq (wh1 _) ?_,fun h=>absurd hml h⟩
 (refine @ab _ ?_;refine au ?_)
 refine aq (wh0 _) ?_
 (refine @ab _ ?_;refine au ?_)
 trivial
theorem Tf(w0:W0):∀(d:Nat) (n:N) (S:St),Good d n→bh n≤131072→aa Tryz.prog w0 23 [eT n] S (fun e S'=>e=eN n∧S'=S):=by
 intro d
 induction d with
 |zero=>
  intro n S hg ht
  have hn:=ax hg
  have hlf:=hn.1
  have hlen:=bT n
  rw[bQ hlf]
  refine ba [1000] mx Tryz.func23 rfl rfl (by kernel_rfl) ?_;(refine @ab _ ?_;refine aY @Tryz.ntmps23 @hlf ?_)
  intro b b2 b3
  refine eJ b3.n 2 4 (by omega) (fg _ _ _) rfl fun lk=>?_
  refine jx [10] [] mx (by kernel_rfl) ?_
  (refine @ab _ ?_;refine au ?_)
  refine aE [10] n.l.length [1,2,3,4] (fun k=>[(4,dI k)]) (fun k=>⟨(b3.n,[dI n.an,dB true,.acc lk.n k])::(b2.n,[dI 0,dB false,.sl 0 true []])::(b.n,[dI n.an,dB true,.sl 1 false (n.l.map fun c=>dS c.key),.sl 2 false (n.l.map fk),.sl 5 false []])::S.box,(lk.n,.arr 4 ((n.l.take k).map dC))::S.acc⟩) (fun _=>True) mx (by kernel_rfl) ?_ ?_
  ·(refine @ab _ ?_;exact aQ)
  ·intro k hk _
   have hml:(n.l.take k).length=k:=by rw[List.length_take];omega
   (refine @ab _ ?_;refine ao @hml ?_)
   refine⟨fun hlt=>⟨hlt,fun c hc b4=>⟨fun _=>⟨hlt,fun c2 hc2=>?_⟩,fun h=>absurd hlt h⟩⟩,fun hge=>?_⟩
   ·cases cM hc hc2
    refine⟨hlt,fun c3 hc3 _=>?_⟩
    cases cM hc hc3
    refine IX b4.n [dS c.key,dS c.data,.sl 1 false (c.aj.map dI),.sl 3 false []] (fg _ _ _) ⟨.refl _,.refl _,.refl _,.nil _ _ _,trivial⟩ ?_
    refine jx [] [] mx (by kernel_rfl) ?_
    have hkid:c.kid=[]:=(hn.2 c (List.mem_of_getElem? hc)).2
    have ht1:n.l.take (k+1)=n.l.take k++[c]:=by rw[List.take_add_one,hc];rfl
    rw[ht1]
    simp(maxDischargeDepth:=12) (maxSteps:=1000000) -implicitDefEqProofs only[go_sem,Nat.reduceAdd,Nat.reduceSub,Nat.reduceMul,Nat.reduceLeDiff,Nat.reduceEqDiff,Nat.reduceGT,Nat.reduceBEq,reduceCtorEq,↓reduceIte,Int.reduceToNat,Int.reduceLE,Int.reduceLT,Int.reduceNe,Int.reduceEq,hml,List.map_append,List.map_cons,List.map_nil,hkid]
    exact⟨by omega,by unfold maxLen;omega,hlt,bl k (by omega)⟩
   ·rw[List.take_of_length_le (by omega),hlf]
    exact .refl _
 |succ d ih=>
  intro n S hg ht
  have hn:=ax hg
  have hlf:=hn.1
  have hlen:=bT n
  have hkn:=nh hn
  have hres:eT n= .agg [dI n.an,dB false,.sl 1 false (n.l.map fun c=>dS c.key),.sl 2 false [],.sl 5 false ((n.l.map ay).map dT)]:=by
   show DV.agg _=_
   rw[hkn,hlf];rfl
  rw[hres]
  refine ba [1000] mx Tryz.func23 rfl rfl (by kernel_rfl) ?_;(refine @ab _ ?_;refine aY @Tryz.ntmps23 @hlf ?_)
  intro b b2 b3
  refine eJ b3.n 2 4 (by omega) (fg _ _ _) rfl fun lk=>?_
  refine jx [10] [] mx (by kernel_rfl) ?_
  (refine @ab _ ?_;refine au ?_)
  refine aE [10] n.l.length [1,2,3,4] (fun k=>[(4,dI k)]) (fun k=>⟨(b3.n,[dI n.an,dB false,.acc lk.n k])::(b2.n,[dI 0,dB false,.sl 0 true []])::(b.n,[dI n.an,dB false,.sl 1 false (n.l.map fun c=>dS c.key),.sl 2 false [],.sl 5 false ((n.l.map ay).map dT)])::S.box,(lk.n,.arr 4 ((n.l.take k).map dC))::S.acc⟩) (fun _=>True) mx (by kernel_rfl) ?_ ?_
  ·(refine @ab _ ?_;exact aQ)
  ·intro k hk _
   have hml:(n.l.take k).length=k:=by rw[List.length_take];omega
   (refine @ab _ ?_;refine ao @hml ?_)
   refine⟨fun hlt=>⟨hlt,fun c hc b4 _=>⟨fun _=>⟨hlt,fun c2 hc2=>?_⟩,fun h=>absurd hlt h⟩⟩,fun hge=>?_⟩
   ·cases cM hc hc2
    obtain⟨⟨s1,s2,s3⟩, -,kd,hkid,hkg, -⟩:=hg.2.2.cell c (List.mem_of_getElem? hc)
    have hk0:=bq hkid
    have hkt:=fi (List.mem_of_getElem? hc) hkid
    rw[hk0]
    refine aq (ih kd _ hkg (by omega)) ?_
    (refine @ab _ ?_;refine ao @hml ?_)
    refine IX b4.n [dS c.key,dS aX,.sl 1 false [],.sl 3 false [eN kd]] (fg _ _ _) ⟨.refl _,.refl _,.nil _ _ _,.full _ _ _,trivial⟩ ?_
    refine jx [] [] mx (by kernel_rfl) ?_
    have ht1:n.l.take (k+1)=n.l.take k++[c]:=by rw[List.take_add_one,hc];rfl
    rw[ht1]
    simp(maxDischargeDepth:=12) (maxSteps:=1000000) -implicitDefEqProofs only[go_sem,Nat.reduceAdd,Nat.reduceSub,Nat.reduceMul,Nat.reduceLeDiff,Nat.reduceEqDiff,Nat.reduceGT,Nat.reduceBEq,reduceCtorEq,↓reduceIte,Int.reduceToNat,Int.reduceLE,Int.reduceLT,Int.reduceNe,Int.reduceEq,hml,List.map_append,List.map_cons,List.map_nil,hkid,s2,s3]
    exact⟨by omega,by unfold maxLen;omega,hlt,bl k (by omega)⟩
   ·rw[List.take_of_length_le (by omega),hlf]
    exact .refl _
theorem Bg(w0:W0){k:Nat}{n:N}(h:TB k n)(hk:k≤116)(S:St):aa Tryz.prog w0 23 [eT n] S (fun e S'=>e=eN n∧S'=S):=by
 obtain⟨hr,d,hg,hd,ht⟩:=h
 exact Tf w0 d n S hg (by omega)
theorem OD(w0:W0)(k:Nat)(n:N)(l:List C)(S:St)(h:VI k n l)(hk:k≤116):aa Tryz.prog w0 15 [eV n l] S (fun d S'=>d=eL n l∧S'=S):=by
 have hln:=h.len
 have hdn:=fun S=>Bg w0 h.dir hk S
 have hcn:=fun c (hc:c∈l) S=>Bg w0 (h.cell c hc).2.1 hk S
 refine ba [] mx Tryz.func15 rfl rfl (by kernel_rfl) ?_;(refine @ab _ ?_;refine ao @Tryz.ntmps15 ?_)
 intro b b2
 refine aq (hdn _) ?_
 (refine @ab _ ?_;refine au ?_)
 intro b3
 refine eJ b3.n 3 4 (by omega) (fg _ _ _) rfl fun lk=>?_
 (refine @ab _ ?_;refine au ?_)
 refine aE [] l.length [1,2,3,4] (fun k=>[(4,dI k)]) (fun k=>⟨(b3.n,[dI n.an,dB n.leaf,.sl 4 false (n.l.map dC),.acc lk.n k])::(b2.n,[dI 0,dB false,.sl 0 true [],.sl 0 true []])::(b.n,[dI n.an,dB n.leaf,.sl 1 false (n.l.map fun c=>dS c.key),.sl 2 false ((if n.leaf then n.l else []).map fk),.sl 5 false ((aF n).map dT),.sl 6 false (l.map jR)])::S.box,(lk.n,.arr 4 ((l.take k).map WZ))::S.acc⟩) (fun _=>True) mx (by kernel_rfl) ?_ ?_
 ·(refine @ab _ ?_;exact aQ)
 ·intro j hj _
  have hml:(l.take j).length=j:=by rw[List.length_take];omega
  (refine @ab _ ?_;refine ao @hml ?_)
  refine⟨fun hlt=>⟨hlt,fun c hc=>⟨hlt,fun c2 hc2=>?_⟩⟩,fun hge=>?_⟩
  ·cases cM hc hc2
   refine aS (hcn c (List.mem_of_getElem? hc) _) ?_
   have ht1:l.take (j+1)=l.take j++[c]:=by rw[List.take_add_one,hc];rfl
   rw[ht1]
   simp(maxDischargeDepth:=12) (maxSteps:=1000000) -implicitDefEqProofs only[go_sem,Nat.reduceAdd,Nat.reduceSub,Nat.reduceMul,Nat.reduceLeDiff,Nat.reduceEqDiff,Nat.reduceGT,Nat.reduceBEq,reduceCtorEq,↓reduceIte,Int.reduceToNat,Int.reduceLE,Int.reduceLT,Int.reduceNe,Int.reduceEq,hml,List.map_append,List.map_cons,List.map_nil]
   exact⟨by omega,by unfold maxLen;omega,hlt,bl j (by omega)⟩
  ·rw[List.take_of_length_le (by omega)]
   exact .refl _
theorem Lw{l:List C}(h:nD l=0):∀c,c∈l→dm (ay c)=0:=by
 intro c hc
 obtain⟨A,B,rfl⟩:=List.append_of_mem hc
 unfold nD at h
 rw[List.map_append,List.map_cons,List.sum_append,List.sum_cons]at h
 omega
theorem MH{k:Nat}{n:N}{l:List C}(hv:VI k n l)(hcl:jI (vH l) n)(h:dm n=0){c:C}(hc:c∈l):nZ n c.key (ay c).an=n:=by
 obtain⟨hr,d,hg,hd,ht⟩:=hv.dir
 obtain⟨f,hf,hen⟩:=hv.en
 have he:cO f c∈df n:=by rw[hen];exact List.mem_map.2 ⟨c,hc,rfl⟩
 rw[eR (ax hg)]at h
 have hp:n.an≠0:=fun e=>by
  rw[if_neg (fun z=>z e)]at h
  by_cases hq:n.leaf=true∧n.l=[]
  ·rw[cA hq.1,hq.2]at he;cases he
  ·rw[if_neg hq]at h;omega
 obtain⟨c',h1,h2,h3,h4⟩:=hcl.one hp _ he
 have e:=mP hv.bP h1 hc h2
 subst e
 unfold nZ
 rw[if_pos]
 rw[yT hg hv.bP hen hc]
 exact h4
theorem GN{k:Nat}{n:N}{l:List C}(hv:VI k n l)(hcl:jI (vH l) n)(h:ct (n,l)=0)(q:List Int):eD l n q=⟨l,n,q,[]⟩:=by
 have hfv:ct (n,l)=dm n+nD l:=rfl
 have hn:dm n=0:=by omega
 have hl:nD l=0:=by omega
 have key:∀j,j≤l.length→eD (l.take j) n q=⟨l.take j,n,q,[]⟩:=by
  intro j
  induction j with
  |zero=>intro _;rfl
  |succ j ih=>
   intro hj
   have hc:l[j]? =some l[j]:=List.getElem?_eq_getElem (by omega)
   have hcm:=List.mem_of_getElem? hc
   obtain⟨hce,htb,hok⟩:=hv.cell _ hcm
   obtain⟨_,d,hg,_⟩:=htb
   rw[pZ hc,ih (by omega)]
   unfold Cc
   rw[qm (ax hg) (Lw hl _ hcm)]
   rw[MH hv hcl hn hcm,←hce,List.append_nil,List.take_add_one,hc];rfl
 have:=key l.length (Nat.le_refl _)
 rw[List.take_length]at this
 exact this
theorem CT{k:Nat}{n:N}{l:List C}{q:List Int}{M:N}{X:List C}{R:List Int}{W:List (Int×ByteArray)}(hv:VI k n l)(hcl:jI (vH l) n)(h:ct (n,l)=0)(hc:UL n l q M X R W):M=n∧X=l∧R=q∧W=[]:=by
 obtain⟨V,h1,h2,h3⟩:=hc
 have hfv:ct (n,l)=dm n+nD l:=rfl
 obtain⟨_,d,hg,_⟩:=hv.dir
 rw[GN hv hcl h]at h1 h2 h3
 rw[qm (ax hg) (by omega)]at h3
 simp only[Prod.mk.injEq]at h3
 obtain⟨rfl,rfl,rfl⟩:=h3
 exact⟨rfl,h1,rfl,h2⟩
theorem RE(l:List Int):fO l l=[]:=by
 refine List.eq_nil_iff_forall_not_mem.2 fun x hx=>?_
 have:=pj.1 hx
 exact this.2 this.1
theorem zx:cX []=[]:=List.eq_nil_of_length_eq_zero (by rw[aV];rfl)
theorem wj(h:Int)(m:Nat):take ⟨h,[],[]⟩ m=⟨h+m,[],[]⟩:=by
 have e:aW ⟨h,[],[]⟩ m=0:=by unfold aW;simp
 unfold take
 rw[e,Int.toNat_natCast,Nat.sub_zero]
 show(⟨h+(m:Int),(cX []).drop 0,[]⟩:Pl)=_
 rw[zx];rfl
theorem Bt(h t:Int)(b:Bool):release ⟨h,[],[]⟩ t b=⟨h,[],[]⟩:=by
 show(⟨h,cX (flat ([]::ny [])),fW t b []⟩:Pl)=_
 rw[show flat ([]::ny [])=[]from rfl,zx];rfl
theorem MR:nE 0 0=0:=by kernel_rfl
theorem yM{z:Zt}{n:N}{l:List C}{h:Int}(hb:bE z n l=[]):fx z n l ⟨h,[],[]⟩=[]∧ot z n l ⟨h,[],[]⟩=⟨h+ct (n,l),[],[]⟩:=by
 have h3:mc z n l ⟨h,[],[]⟩=⟨h+ct (n,l),[],[]⟩:=by unfold mc;rw[hb,wj];rfl
 have hm:sO z n l ⟨h,[],[]⟩=0:=by unfold sO;rw[h3];exact MR
 constructor
 ·unfold fx;rw[h3,hm]
  exact List.eq_nil_of_length_eq_zero (by rw[kj];rfl)
 ·unfold ot;rw[h3,hm,wj];simp
theorem HR{z:Zt}{n:N}{l:List C}{h q:Int}(hb:bE z n l=[])(hr:(ct (n,l):Int)≤if h<q then q-h else 0):jL z n l q ⟨h,[],[]⟩:=by
 unfold jL lX
 rw[hb]
 have:nE (([]:List Int).length-ct (n,l)) (nW []+([]:List Int).length)=0:=by rw[show([]:List Int).length-ct (n,l)=0 from Nat.zero_sub _];exact MR
 rw[this]
 unfold dg
 simpa using hr
def ll(l:List Sp)(q:N×List C):N×List C:=l.foldl (fun q s=>l5 s q) q
theorem vz{l:List Sp}{j:Nat}{s:Sp}(h:l[j]? =some s)(q:N×List C):ll (l.take (j+1)) q=l5 s (ll (l.take j) q):=by
 unfold ll
 rw[List.take_add_one,h,Option.toList_some,List.foldl_append];rfl
theorem EO{z:Zt}{l:List Sp}{m:Nat}(hz:ZI 0 z)(hl:l.length≤100):∀j,j≤l.length→ZV j z (ll (l.take j) (z.n,z.l)).1 (ll (l.take j) (z.n,z.l)).2
 |0,_=>hz.zv
 |j+1,hj=>by
  have hc:l[j]? =some l[j]:=List.getElem?_eq_getElem (by omega)
  rw[vz hc]
  exact LF hz (Nat.zero_le j) (by omega) (EO (m:=m) hz hl j (by omega)) _
theorem Kt(w0:W0)(hg:fE w0)(l:List Sp)(S:St)(hl:l.length≤1048576):aa Tryz.prog w0 5 [.sl 4 false (l.map W7)] S (fun d S'=>d=dB true∧S'=S):=by
 have haw:=fun S=>OO w0 hg S
 have hsm:=fun S=>NH w0 l S hl
 have hz:=FI (label:=0) (by omega)
 cases hsl:mS l with
 |false=>
  rw[hsl]at hsm
  refine ba [] mx Tryz.func5 rfl rfl (by kernel_rfl) ?_;(refine @ab _ ?_;refine ao @Tryz.ntmps5 ?_)
  refine aq (haw _) ?_
  (refine @ab _ ?_;refine au ?_)
  refine aq (hsm _) ?_
  (refine @ab _ ?_;exact aQ)
 |true=>
  rw[hsl]at hsm
  unfold mS at hsl
  rw[Bool.and_eq_true,decide_eq_true_eq,List.all_eq_true]at hsl
  obtain⟨hs1,hs2⟩:=hsl
  have hsz:∀s,s∈l→s.size≤400:=fun s h=>by
   have:=hs1 s h
   unfold mO at this
   rw[Bool.and_eq_true,Bool.and_eq_true,decide_eq_true_eq,decide_eq_true_eq,decide_eq_true_eq]at this
   exact this.2
  have hrun:=EO (m:=0) hz (show l.length≤100 by omega)
  have hzl:=FG hz (Nat.zero_le l.length)
  have hvl:=hrun l.length (Nat.le_refl _)
  rw[List.take_length]at hvl
  refine ba [] mx Tryz.func5 rfl rfl (by kernel_rfl) ?_;(refine @ab _ ?_;refine ao @Tryz.ntmps5 ?_)
  refine aq (haw _) ?_
  (refine @ab _ ?_;refine au ?_)
  refine aq (hsm _) ?_
  (refine @ab _ ?_;refine au ?_)
  refine aq (VK w0 0 _) ?_
  (refine @ab _ ?_;refine au ?_)
  intro b5 b6
  refine aE [] l.length [0,5,6,7] (fun k=>[(7,dI k)]) (fun k=>⟨(b6.n,dI (ll (l.take k) ((z0 0).n,(z0 0).l)).1.an::dB (ll (l.take k) ((z0 0).n,(z0 0).l)).1.leaf:: .sl 1 false ((ll (l.take k) ((z0 0).n,(z0 0).l)).1.l.map fun c=>dS c.key):: .sl 2 false ((if(ll (l.take k) ((z0 0).n,(z0 0).l)).1.leaf then(ll (l.take k) ((z0 0).n,(z0 0).l)).1.l else []).map fk):: .sl 5 false ((aF (ll (l.take k) ((z0 0).n,(z0 0).l)).1).map dT):: .sl 6 false ((ll (l.take k) ((z0 0).n,(z0 0).l)).2.map jR)::[])::(b5.n,dI (z0 0).label::dU (z0 0).bS::dI (z0 0).root::dI (z0 0).qe::dI (z0 0).high::dI (z0 0).n.an::dB (z0 0).n.leaf:: .sl 1 false ((z0 0).n.l.map fun c=>dS c.key):: .sl 2 false ((if(z0 0).n.leaf then(z0 0).n.l else []).map fk):: .sl 5 false ((aF (z0 0).n).map dT):: .sl 6 false ((z0 0).l.map jR)::dL (z0 0).own::dI (z0 0).p.high:: .sl 1 false ((z0 0).p.free.map dI):: .sl 2 false ((z0 0).p.wait.map dW)::[])::S.box,S.acc⟩) (fun _=>True) mx (by kernel_rfl) ?_ ?_
  ·have e0:ll (l.take 0) ((z0 0).n,(z0 0).l)=((z0 0).n,(z0 0).l):=rfl
   rw[e0]
   (refine @ab _ ?_;exact aQ)
  ·intro j hj _
   have ej:IntKind.i64.wrap ((j:Int)+1)=((j+1:Nat):Int):=by rw[bw (by omega) (by omega)];omega
   have hvj:=hrun j hj
   have hru:=fun s (h:l[j]? =some s)=>vz h ((z0 0).n,(z0 0).l)
   have hfin:¬j<l.length→ll (l.take j) ((z0 0).n,(z0 0).l)=ll l ((z0 0).n,(z0 0).l):=fun h=>by rw[List.take_of_length_le (by omega)]
   generalize ll (l.take (j+1)) ((z0 0).n,(z0 0).l)=Q' at*
   generalize ll (l.take j) ((z0 0).n,(z0 0).l)=Q at*
   (refine @ab _ ?_;refine ao @ej ?_)
   refine⟨fun hlt=>⟨hlt,fun s hs=>?_⟩,fun hge=>?_⟩
   ·have e:=hru s hs
    subst e
    obtain⟨q1,q2⟩:=Q
    refine aS (K0 w0 j q1 q2 s _ hvj.vi (by omega) (hsz s (List.mem_of_getElem? hs))) ?_
    (refine @ab _ ?_;refine ao @ej ?_)
    exact hlt
   ·have e:=hfin hge
    subst e
    have hbk:bE (z0 0) (ll l ((z0 0).n,(z0 0).l)).1 (ll l ((z0 0).n,(z0 0).l)).2=[]:=by
     unfold bE;rw[show cb (z0 0).n (z0 0).l=[]from WI];rfl
    have hre:release (z0 0).p 0 false=⟨2,[],[]⟩:=Bt 2 0 false
    generalize ll l ((z0 0).n,(z0 0).l)=Q at*
    by_cases hf:jL (z0 0) Q.1 Q.2 1000 (release (z0 0).p 0 false)
    ·obtain⟨M,X,R1,W,hpa,hpo,hce,w4⟩:=IU w0 hg (q:=1000) (t:=0) (hd:=false) hzl hvl (by omega) (by omega) (by omega) hf
     refine aq (w4 _) ?_
     rw[hre]at hpa hpo hce
     obtain⟨ho,hp4⟩:=yM (h:=2) hbk
     have hza:=hpo.zi
     have hN:oL (z0 0) Q.1 Q.2 ⟨2,[],[]⟩ M X=⟨0,1,M.an,0,2+ct (Q.1,Q.2),M,X,[],⟨2+ct (Q.1,Q.2),[],[]⟩⟩:=by
      unfold oL;rw[ho,hp4];rfl
     rw[hre,hN]
     rw[hN]at hza
     have hhi:(2:Int)+ct (Q.1,Q.2)≤1000:=hza.keep.pQ.2.2.2.1
     generalize hA:(⟨0,1,M.an,0,2+ct (Q.1,Q.2),M,X,[],⟨2+ct (Q.1,Q.2),[],[]⟩⟩:Zt)=Za at*
     have hbk2:bE Za Za.n Za.l=[]:=by unfold bE;rw[RE,←hA];rfl
     have hre2:release Za.p 0 false=⟨2+ct (Q.1,Q.2),[],[]⟩:=by rw[←hA];exact Bt _ _ _
     have hfr:=hza.fr
     have hf2:jL Za Za.n Za.l 1000 (release Za.p 0 false):=by
      rw[hre2];exact HR hbk2 (by rw[hfr];split <;>omega)
     obtain⟨M2,X2,R2,W2,hpa2,hpo2,hce2,w5⟩:=IU w0 hg (q:=1000) (t:=0) (hd:=false) hza hza.zv (by omega) (by omega) (by omega) hf2
     rw[hre2]at hpa2 hpo2 hce2 w5
     obtain⟨rfl,rfl,_,rfl⟩:=CT hza.vi hza.cl hfr hce2
     obtain⟨ho2,hp42⟩:=yM (h:=2+ct (Q.1,Q.2)) hbk2
     have hN2:oL Za Za.n Za.l ⟨2+ct (Q.1,Q.2),[],[]⟩ Za.n Za.l=⟨0,2,M.an,0,2+ct (Q.1,Q.2),M,X,[],⟨2+ct (Q.1,Q.2),[],[]⟩⟩:=by
      unfold oL;rw[ho2,hp42,hfr,←hA];simp
     have hws:RF Za Za.n Za.l ⟨2+ct (Q.1,Q.2),[],[]⟩ []=[]:=by unfold RF;rw[ho2];rfl
     have wh:=fun S=>BK w0 S hpo2.zi (by omega)
     rw[hN2]at w5 wh
     rw[hws]at w5
     have hsh:=fun S=>OD w0 (l.length+1) M X S (by have:=hza.vi;rw[←hA]at this;exact this) (by omega)
     have hsa:=fun S=>Vm w0 (l.length+1) M X S (by have:=hza.vi;rw[←hA]at this;exact this) (by omega)
     subst hA
     (refine @ab _ ?_;refine au ?_)
     intro b8
     refine aq (w5 _) ?_
     (refine @ab _ ?_;refine au ?_)
     intro b9
     refine aS (hsh _) ?_
     (refine @ab _ ?_;refine au ?_)
     refine aS (hsh _) ?_
     (refine @ab _ ?_;refine au ?_)
     refine aS (hsa _) ?_
     (refine @ab _ ?_;refine au ?_)
     refine aE [] 0 [8,12,13,16] (fun k=>[(16,dI k)]) (fun _=>⟨(b9.n,dI 0::dU 2::dI M.an::dI 0::dI (2+ct (Q.1,Q.2))::dI M.an::dB M.leaf:: .sl 1 false (M.l.map fun c=>dS c.key):: .sl 2 false ((if M.leaf then M.l else []).map fk):: .sl 5 false ((aF M).map dT):: .sl 6 false (X.map jR):: .sl 1 false []::dI (2+ct (Q.1,Q.2)):: .sl 1 false []:: .sl 2 false []::[])::(b8.n,dI 0::dU 1::dI M.an::dI 0::dI (2+ct (Q.1,Q.2))::dI M.an::dB M.leaf:: .sl 1 false (M.l.map fun c=>dS c.key):: .sl 2 false ((if M.leaf then M.l else []).map fk):: .sl 5 false ((aF M).map dT):: .sl 6 false (X.map jR):: .sl 1 false []::dI (2+ct (Q.1,Q.2)):: .sl 1 false []:: .sl 2 false []::[])::S.box,S.acc⟩) (fun _=>True) mx (by kernel_rfl) ?_ ?_
     ·(refine @ab _ ?_;refine au ?_)
      trivial
     ·intro k2 hk2 _
      obtain rfl:k2=0:=by omega
      (refine @ab _ ?_;refine au ?_)
      refine aE [] 0 [8,12,17,18] (fun k=>[(17,dI 0),(18,dI k)]) (fun _=>⟨(b9.n,dI 0::dU 2::dI M.an::dI 0::dI (2+ct (Q.1,Q.2))::dI M.an::dB M.leaf:: .sl 1 false (M.l.map fun c=>dS c.key):: .sl 2 false ((if M.leaf then M.l else []).map fk):: .sl 5 false ((aF M).map dT):: .sl 6 false (X.map jR):: .sl 1 false []::dI (2+ct (Q.1,Q.2)):: .sl 1 false []:: .sl 2 false []::[])::(b8.n,dI 0::dU 1::dI M.an::dI 0::dI (2+ct (Q.1,Q.2))::dI M.an::dB M.leaf:: .sl 1 false (M.l.map fun c=>dS c.key):: .sl 2 false ((if M.leaf then M.l else []).map fk):: .sl 5 false ((aF M).map dT):: .sl 6 false (X.map jR):: .sl 1 false []::dI (2+ct (Q.1,Q.2)):: .sl 1 false []:: .sl 2 false []::[])::S.box,S.acc⟩) (fun _=>True) mx (by kernel_rfl) ?_ ?_
      ·(refine @ab _ ?_;exact aQ)
      ·intro k3 hk3 _
       obtain rfl:k3=0:=by omega
       (refine @ab _ ?_;refine au ?_)
       refine aq (wh _) ?_
       (refine @ab _ ?_;refine au ?_)
       trivial
    ·have w3:=fun S=>QP w0 (q:=1000) (t:=0) (hd:=false) S hzl hvl (by omega) (by omega) (by omega) hf
     refine aq (w3 _) ?_
     (refine @ab _ ?_;refine au ?_)
     trivial
end Go.Proofs.YtpjenciplibdnaaGreatDoor
namespace Go.Proofs.YtpjenciplibdnaaGreatDoor
open Aml Go Go.RowKit Go.ChangeShapes
theorem Ra:Tryz.prog.globalNamed "jalousie/crc.half" =some 1:=by kernel_rfl
theorem To:(Tryz.prog.globals[1]?).map (·.type)=some 317:=by kernel_rfl
theorem OA{W:World}(h:laidMetH Tryz.prog [("jalousie/crc.half",Rows.laid_jalousie_crc_half)] W):fE ⟨W,gW W⟩:=by
 have hT:Lib.TabIs Tryz.prog W "jalousie/crc.half" .u32 sY:=Lib.tabIs_of_head (rest:=[]) Ra To Tryz.underlying317 Tryz.underlying197 (by kernel_rfl) (by kernel_rfl) h
 refine⟨fun j=>?_,fun u hu=>?_⟩
 ·show W.cell? ⟨1,j,none⟩=nN[j]?
  rw[World.var?_cell Ra hT j,List.getElem?_toArray]
  rfl
 ·obtain⟨z,_,rfl⟩:=List.mem_map.1 hu
  rfl
noncomputable def pU(os:Os):World:=
 {World.holding Tryz.prog os ⟨#[], #[],[]⟩with heap:=(World.holding Tryz.prog os ⟨#[], #[],[]⟩).heap.modify 1 fun
  | .cells _ t frozen=> .cells nN.toArray t frozen
  |o=>o}
theorem XU{W:World}:Rd Tryz.prog W 58 (fun s:Sp=>[dI s.kind,dS s.name,dS s.key,dI s.size]) (fun s=>1) (fun s=>True):=by
 have h:=Hh (W:=W) Tryz.underlying58 (total:=4) (by kernel_rfl) rfl (oY (k:=1) (K7 Tryz.underlying3) rfl (by kernel_rfl) (oY (k:=1) (Kf Tryz.underlying9) rfl (by kernel_rfl) (oY (k:=1) (Kf Tryz.underlying9) rfl (by kernel_rfl) (oY (k:=1) (K7 Tryz.underlying3) rfl (by kernel_rfl) P2))))
 exact h.conv (fun a=>⟨a.1,a.2.1,a.2.2.1,a.2.2.2.1⟩) (fun _=>rfl) (fun a=>by omega) fun _ _=>trivial
theorem Ie{α:Type}(l:List α):(l.map fun _=>1).sum=l.length:=by
 induction l with
 |nil=>rfl
 |cons a l ih=>simp only[List.map_cons,List.sum_cons,List.length_cons,ih];omega
theorem VF{W:World}:Rd Tryz.prog W 22 (fun l:List Sp=>[.sl 4 false (l.map W7)]) (fun l=>l.length) (fun l=>True):=
 (GC XU Tryz.underlying22 (k:=4) (by kernel_rfl) (by omega)).conv id (fun _=>rfl) (fun l=>by simp only[id,Ie];omega) fun _ _=>trivial
end Go.Proofs.YtpjenciplibdnaaGreatDoor
namespace Go.Proofs.YtpjenciplibdnaaGreatDoor
open Aml Go Go.RowKit Go.ChangeShapes Go.WideShapes Go.ChangeAt
theorem rP:ownKnob Tryz.prog.godebug=none:=by kernel_rfl
theorem mE(H:Type)(enc:TypeId×Value→H)(W:World)(base:Nat)(args:Array Value)(ds gs:List (DataW H))(before:List MemPlace)
 (hval:∀(j:Nat) t v,Tryz.f5.params[j]? =some t→args[j]? =some v→Value.okWide Tryz.prog W .any base t v)
 (hW:DataW.Whole enc Tryz.prog Tryz.f5.params.toList Rows.commitAgainSpec.vars false W args.toList ds gs before) (hk:Rows.uptoBulkAll (ds++gs)≤1048576) (hL:laidMetH Tryz.prog Rows.commitAgainUptoRow.laid W):
 Calls Tryz.prog 5 args W fun e W'=>∃v,e= .returned v∧Rows.commitAgainSpec.post enc Tryz.prog Tryz.f5 false true false false W args v W':=
 u7 (w0:=⟨W,gW W⟩) rfl (.refl _) enc (ts:=[22]) (tb:=4) (OW VF (by kernel_rfl) O5) Tryz.params5 rfl Tryz.underlying4 rfl (by kernel_rfl) (by intro t ht;revert t;decide +kernel) (fun ds hd=>by
  first
  |(match ds,hd with|[_],_=>rfl)
  |(match ds,hd with|[_,_],_=>rfl)
  |(match ds,hd with|[_,_,_],_=>rfl)
  |(match ds,hd with|[_,_,_,_],_=>rfl)) (fun a ha hs=>(Kt ⟨W,gW W⟩ (OA hL) a.1 ⟨[],[]⟩ (by omega)).mono fun d S' h=>h.1) base args ds gs before hval hW hk
theorem rM(os:Os):laidMet Tryz.prog Rows.commitAgainUptoRow.laid ((pU os).forCall (fun _ _=>0) ⟨#[], #[.slice none 0 0],[]⟩).memory:=
 laidMet_of_run' 8 (by kernel_rfl) (by kernel_rfl)
theorem oQ(os:Os){H:Type}(enc:TypeId×Value→H):∃places,DataW.whole enc Tryz.prog ((pU os).forCall (fun _ _=>0) ⟨#[], #[.slice none 0 0],[]⟩).memory Tryz.f5.params.toList Rows.commitAgainSpec.vars false (#[.slice none 0 0]:Array Value).toList 8=some ([.nil],[],places):=
 ⟨[],by kernel_rfl⟩
theorem oB(os:Os)(started:os.Started)(H:Type)(enc:TypeId×Value→H)(F:Stop.Interp):
 ReturnsInHanded {} Tryz.checked os 5 .any ((Rows.OpenSpec.upto Rows.commitAgainSpec).preRow enc Tryz.prog Tryz.f5 Rows.commitAgainUptoRow.domain false Rows.commitAgainUptoRow.laid) (((Rows.OpenSpec.upto Rows.commitAgainSpec).at F).post enc Tryz.prog Tryz.f5 false true false false):=by
 obtain⟨places,hx⟩:=oQ os enc
 refine returnsInHanded_of_row (C:=Tryz.checked) (s:=Rows.OpenSpec.upto Rows.commitAgainSpec) rP started (by kernel_rfl) Tryz.func5
  (witness_row_at (enc:=enc) (C:=Tryz.checked) false (pU os) #[.slice none 0 0] rfl (by kernel_rfl) (by kernel_rfl) (by kernel_rfl)
   (OpenSpec.preRow_of_cond 8 hx (by kernel_rfl) (fun k hk=>by cases hk;kernel_rfl) (by kernel_rfl) (rM os))) ?_
 intro W base args ds gs before hval hW _ hc _ hL _ _
 exact mE H enc W base args ds gs before hval hW (of_decide_eq_true (hc _ rfl)) hL
theorem p8:Rows.CommitAgainUptoSaid:=
 OpenClaim.holds_of_cond 5 Tryz.f5 rfl rfl rfl rfl rfl rfl rfl ⟨rfl,rfl,rfl,rfl,rfl⟩ rfl rfl rfl rfl rfl (by kernel_rfl) Tryz.func5 (by kernel_rfl)
  (of_decide_eq_true (by kernel_rfl)) (by unfold Func.isWrapper;first|(rw[if_pos (by decide +kernel)];kernel_rfl)|(rw[if_neg (by decide +kernel)];exact⟨rfl,rfl⟩))
  (fun os started H enc _ F=>by rw[OpenClaim.pre_eq_preRow];exact oB os started H enc F)
theorem pG(f:FuncId)(fn:Func)(hf:Tryz.pinned.checked.prog.funcNamed Rows.commitAgainUptoRow.func=some f)(hfn:Tryz.pinned.checked.prog.funcs[f]? =some fn):
 false=Tryz.pinned.checked.prog.looks []∧∀(j:Nat) t,fn.params[j]? =some t→Tryz.pinned.checked.prog.wantsStandIn t=false:=by
 obtain rfl:f=5:=Option.some.inj ((show Tryz.prog.funcNamed Rows.commitAgainUptoRow.func=some 5 by kernel_rfl).symm.trans hf) |>.symm
 obtain rfl:fn=Tryz.f5:=(Option.some.inj (Tryz.func5.symm.trans hfn)).symm
 refine⟨by kernel_rfl,fun j t ht=>?_⟩
 rw[Tryz.params5]at ht
 have hm:t∈([22]:List TypeId):=by simpa using Array.mem_of_getElem? ht
 exact(show∀t,t∈([22]:List TypeId)→Tryz.prog.wantsStandIn t=false by decide +kernel) t hm
theorem commitAgain_holds:Rows.CommitAgainUptoCardSaid:=
 Claim7.holds_tied_plain_at .later [] _ _ _ _ p8 (fun _ h=>by cases h) (by kernel_rfl) (fun _ h=>by cases h) commitAgainUpto_row_tie rfl ⟨rfl,rfl⟩ (by kernel_rfl) rfl pG (by kernel_rfl)
end Go.Proofs.YtpjenciplibdnaaGreatDoor
