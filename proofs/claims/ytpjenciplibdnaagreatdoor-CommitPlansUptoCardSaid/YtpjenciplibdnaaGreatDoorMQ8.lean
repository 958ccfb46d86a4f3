/-
  Part 8 of the proof that the last text ends: from 'Values laid on pages: what the program computes is the reference's' to 'A tree of steps, laid on pages: all that is known of it'. By an AI agent.
-/
import Derived.Test.YtpjenciplibdnaaGreatDoorMQ7
import Derived.Test.YtpjenciplibdnaaGreatDoorMQ6
import Derived.Test.YtpjenciplibdnaaGreatDoorMQ5
set_option linter.unusedVariables false
set_option linter.unusedSimpArgs false
set_option maxRecDepth 100000
set_option maxHeartbeats 16000000
namespace Go.Proofs.YtpjenciplibdnaaGreatDoor
open Aml Go
@[go_sem] def oY (w:Int×ByteArray):DV:= .agg [dI w.1,gm w.2]
def gS(S:St)(bs lw:Nat)(left:List Int)(ws:List (Int×ByteArray)):St:=⟨up S.box bs [.acc lw ws.length,.sl 1 false (left.map dI)],up S.acc lw (.arr 2 (ws.map oY))⟩
structure ni(S:St)(bs lw:Nat)(left:List Int)(ws:List (Int×ByteArray)):Prop where
 box:lk S.box bs=some [.acc lw ws.length,.sl 1 false (left.map dI)]
 acc:lk S.acc lw=some (.arr 2 (ws.map oY))
theorem qw{S:St}{bs lw:Nat}{left:List Int}{ws:List (Int×ByteArray)}(h:ni S bs lw left ws):gS S bs lw left ws=S:=by
 unfold gS;rw[bS h.box,bS h.acc]
theorem KA(w0:W0)(bs lw:Nat)(left:List Int)(ws:List (Int×ByteArray))(n:Nat)(S:St)(h:ni S bs lw left ws)(hn:n≤left.length)(hl:left.length≤1048576):
 ab Tryz.prog w0 251 [.v (.pointer (some ⟨bs,0,none⟩)),dI n] S (fun d S'=>d=dL (left.take n)∧S'=gS S bs lw (left.drop n) ws):=by
 have hb:=h.box;have ha:=h.acc;refine rz [] mx Tryz.func251 rfl rfl (by kernel_rfl) ?_;refine @aa _ (eE @Tryz.ntmps251 @hb @ha ?_);refine⟨hn,hn,⟨_,_,Wk.full _ _ _,.refl _,rfl,?_⟩⟩;unfold gS;rw[bS ha]
theorem Uj(w0:W0)(hg:gn w0)(bs lw:Nat)(d:ByteArray)(ps:List Int)(q:LS)(S:St)(h:ni S bs lw q.1 q.2)(hd:d.size≤400)(hp:ps.length≤1048576)(hq:q.1.length≤65536)(hw:q.2.length≤65536)(hn:need (d.size:Int)≤q.1.length∨ps≠[])(hr:∀x,x∈q.1→2≤x∧x≤999)(hu:q.1.Nodup):
 ab Tryz.prog w0 250 [.v (.pointer (some ⟨bs,0,none⟩)),.agg [dS d,dL ps]] S (fun e S'=>e= .agg [dS d,dL (dE d ps q).1]∧S'=gS S bs lw (dE d ps q).2.1 (dE d ps q).2.2):=by
 obtain⟨left,ws⟩:=q;simp only at h hq hw hn hr hu;have hb:=h.box;have ha:=h.acc;have q1:need (d.size:Int)=0→dE d ps (left,ws)=(ps,(left,ws)):=fun e=>by unfold dE;rw[if_pos (.inl e)]
 have q2:ps≠[]→dE d ps (left,ws)=(ps,(left,ws)):=fun e=>by unfold dE;rw[if_pos (.inr e)]
 have q3:need (d.size:Int)≠0→ps=[]→dE d ps (left,ws)=(left.take (need (d.size:Int)),(left.drop (need (d.size:Int)),ws++(left.take (need (d.size:Int))).zip (aQ d (left.take (need (d.size:Int)))))):=fun e f=>by unfold dE;rw[if_neg (by simp[e,f])]
 generalize dE d ps (left,ws)=R at*;refine rz [5,9] mx Tryz.func250 rfl rfl (by kernel_rfl) ?_;refine @aa _ (ai @Tryz.ntmps250 ?_);intro b b1;refine ae (Bf w0 _ _) ?_;refine @aa _ (af ?_);refine⟨fun hz=>?_,fun hz=>⟨fun hp0=>?_,fun hp0=>?_⟩⟩
 ·rw[q1 (by omega)];refine⟨_,_,.refl _,?_,rfl,rfl⟩;rw[qw h];exact⟨(acy _ _).trans (acy _ _),ad5 _⟩
 ·rw[q2 fun e=>by rw[e]at hp0;simp at hp0];refine⟨_,_,.refl _,?_,rfl,rfl⟩;rw[qw h];exact⟨(acy _ _).trans (acy _ _),ad5 _⟩
 ·have hps:ps=[]:=aa4 (by omega);have hne:need (d.size:Int)≤left.length:=hn.resolve_right fun e=>e hps;rw[q3 (by omega) hps];have hI:ni (⟨(b1.n,[dS ByteArray.empty,.sl 0 true []])::(b.n,[dS d,.sl 1 false (ps.map dI)])::S.box,S.acc⟩:St) bs lw left ws:=⟨by exact @aa _ (jd @hb),ha⟩;refine bC (KA w0 bs lw left ws (need (d.size:Int)) _ hI hne (by omega)) ?_;rintro e S' ⟨rfl,rfl⟩;have hTl:(left.take (need (d.size:Int))).length=need (d.size:Int):=by rw[aaE];omega
  have hT0:left.take (need (d.size:Int))≠[]:=fun e=>by rw[e]at hTl;simp at hTl;omega
  have hTr:∀x,x∈left.take (need (d.size:Int))→2≤x∧x≤999:=fun x hx=>hr x (ac5 hx);have hTu:(left.take (need (d.size:Int))).Nodup:=hu.sublist (List.take_sublist _ _);have hput:=fun S=>YR w0 hg d (left.take (need (d.size:Int))) S hd hTl.symm hT0 hTr hTu;have hcl:(aQ d (left.take (need (d.size:Int)))).length=(left.take (need (d.size:Int))).length:=by unfold aQ;rw[abv,ae5]
  have hnl:=qj (d.size:Int);simp(maxDischargeDepth:=12) (maxSteps:=1000000) -implicitDefEqProofs only[go_sem,Nat.reduceAdd,Nat.reduceSub,Nat.reduceMul,Nat.reduceLeDiff,Nat.reduceEqDiff,Nat.reduceGT,Nat.reduceBEq,reduceCtorEq,↓reduceIte,Int.reduceToNat,Int.reduceLE,Int.reduceLT,Int.reduceNe,Int.reduceEq,gS,hb];generalize left.take (need (d.size:Int))=T at*;generalize left.drop (need (d.size:Int))=L at*;generalize need (d.size:Int)=nd at*;generalize hC:aQ d T=Ch at*;refine eI [9] [] mx (by kernel_rfl) ?_;refine @aa _ (ai @hb ?_);refine ae (hput _) ?_;refine @aa _ (ai @hb ?_);refine aw [9] T.length [0,3,4,35,36,37] (fun k=>[(37,dI k)]) (fun k=>⟨(b1.n,[dS ByteArray.empty,.sl 0 true []])::(b.n,[dS d,.sl 1 false (T.map dI)])::up S.box bs [.acc lw (ws.length+k),.sl 1 false (L.map dI)],up S.acc lw (.arr 2 ((ws++(T.zip Ch).take k).map oY))⟩) (fun _=>True) mx (by kernel_rfl) ?_ ?_
  ·refine @aa _ (af ?_);exact .refl _
  ·intro k hk' _;refine @aa _ (ai @hb ?_);refine⟨fun hlt=>?_,fun hge=>?_⟩
   ·refine⟨by omega,fun c hc=>?_⟩;refine Y.j4 [] [13,16] [0,1,2,3,5,7,10,4,6,8,9,11,12,13,14,15,16] mx (by kernel_rfl) ?_;have hm8:maxLen=9223372036854775807:=rfl;have hzl:((T.zip Ch).take k).length=k:=by rw[aaE,aeU];omega
    have hwl:(ws++(T.zip Ch).take k).length=ws.length+k:=by rw[c9,hzl]
    have e:lk (up S.box bs [.acc lw (ws.length+k),.sl 1 false (L.map dI)]) bs=some [.acc lw (ws.length+k),.sl 1 false (L.map dI)]:=by rw[av,hb];rfl
    have e2:lk (up S.acc lw (.arr 2 ((ws++(T.zip Ch).take k).map oY))) lw=some (.arr 2 ((ws++(T.zip Ch).take k).map oY)):=by rw[av,ha];rfl
    have em:min k (T.zip Ch).length=k:=by rw[aeU];omega
    refine @aa _ (eE @hb @e @e2 ?_);rw[em];refine⟨by omega,fun x hx=>⟨rfl,by omega,by omega,by omega,by rw[aG (by omega) (by omega)];rfl,?_⟩⟩;have hzk:(T.zip Ch)[k]? =some (x,c):=afC.2 ⟨hx,hc⟩;have hz1:(T.zip Ch).take (k+1)=(T.zip Ch).take k++[(x,c)]:=by rw[abZ,hzk];rfl
    rw[hz1,←abA,aa1];exact .refl _
   ·have hkl:k=T.length:=by omega
    have hzt:(T.zip Ch).take k=T.zip Ch:=aaA (by rw[aeU];omega);rw[hzt];refine⟨_,_,.refl _,?_,rfl,rfl⟩;have hwl:(ws++T.zip Ch).length=ws.length+k:=by rw[c9,aeU];omega
    unfold gS;rw[hwl];exact⟨(acy _ _).trans (acy _ _),ad5 _⟩
theorem nL{d:Nat}{n:N}{q:LS}(hg:Good d n)(hla:mf n)(hs:(ah n).sum≤122)(h2:n.leaf=true∨2≤n.l.length)(hf:di n≤q.1.length)(hr:∀x,x∈q.1→2≤x∧x≤999)(hp:∀p,p∈ca n→2≤p∧p≤999)(h0:¬(n.aj≠0∨(n.leaf=true∧n.l=[]))):Xn n.leaf (ao n.leaf n.l q).1:=by
 have hn:=ax hg;have hz:∀p,p∈q.1→p≠0:=fun p hp=>by have:=hr p hp;omega
 have hlen:=bX n.leaf n.l q;have e1:=eY n q;have e2:=D8 n q;rw[if_neg h0]at e2
 have hne:n.l≠[]:=fun e=>by
  cases d with
  |zero=>exact h0 (.inr ⟨hg.1,e⟩)
  |succ d=>exact hg.2.1 e
 have:=O9 (rf q hg) (v7 hn hla hf hz) (Pq hn hf hz hp hr) (by rw[oB];exact hs) (by rw[e2];intro e;rw[e]at hlen;exact hne (aa4 hlen.symm)) (by rw[e1,e2,hlen];exact h2);rw[e1,e2]at this;exact this
theorem Z8(w0:W0)(bs lw:Nat):∀(d:Nat) (n:N) (q:LS) (S:St),Good d n→mf n→wq S bs lw q.1 q.2→bA n≤131072→(ah n).sum≤122→(n.leaf=true∨2≤n.l.length)→di n≤q.1.length→q.1.length≤1024→q.1.Nodup→(∀x,x∈q.1→2≤x∧x≤999)→(∀p,p∈ca n→2≤p∧p≤999)→q.2.length+di n≤65536→
 ab Tryz.prog w0 143 [.v (.pointer (some ⟨bs,0,none⟩)),eN n] S (fun e S'=>e=eN (bx n q).1∧S'=jE S bs lw (bx n q).2.1 (bx n q).2.2):=by
 intro d
 induction d with
 |zero=>
  intro n q S hg hla hI ht hs h2 hf hq hu hr hp hw;have hn:=ax hg;have hlf:=hg.1;have hlen:=aT n;have hq1:=nL (q:=q) hg hla hs h2 hf hr hp;have hq2:=dD n q;have hq3:=eP hn;have hlC:=lU hn;have hwC:=tW hn;obtain⟨left,ws⟩:=q;simp only at hI hf hu hr hw hq;have hb:=hI.box;have ha:=hI.acc;have hbu:=bS hb;have hau:=bS ha;rw[hlf]at hq1 hq2 hq3 hlC hwC;generalize bx n (left,ws)=R at*;refine rz [18] mx Tryz.func143 rfl rfl (by kernel_rfl) ?_;refine @aa _ (aM @Tryz.ntmps143 @hlf ?_);intro b b1;have fin1:n.aj≠0∨(true=true∧n.l=[])→R=(n,(left,ws)):=fun e=>by rw[hq2,if_pos e]
  have en:eN n= .agg [dI n.aj,dB true,.sl 4 false (n.l.map dC)]:=by unfold eN;rw[hlf]
  refine⟨fun h0=>?_,fun h0=>⟨fun h1=>?_,fun h1=>?_⟩⟩
  ·rw[fin1 (.inl h0)];refine⟨_,_,.refl _,?_,by rw[hlf],rfl⟩;rw[rP hI];exact⟨(acy _ _).trans (acy _ _),ad5 _⟩
  ·rw[fin1 (.inr ⟨rfl,aa4 (by omega)⟩)];refine⟨_,_,.refl _,?_,by rw[hlf],rfl⟩;rw[rP hI];exact⟨(acy _ _).trans (acy _ _),ad5 _⟩
  ·have h00:¬(n.aj≠0∨true=true∧n.l=[]):=fun e=>e.elim (fun e=>h0 e) fun e=>h1 (by rw[e.2];rfl);rw[if_neg h00]at hq2;rw[if_neg (fun e=>h00 (.inl e)),if_neg (fun e=>h00 (.inr e))]at hq3;replace hq1:=hq1 h00;intro b2 b3;refine bW b2.n 2 4 (by omega) (ds:=[dI 0,dB true,.sl 0 true []]) (by exact @aa _ aF) rfl fun lo=>?_;refine @aa _ (af ?_);refine bW b3.n 1 5 (by omega) (ds:=[dB true,.sl 0 true []]) (by exact @aa _ aF) rfl fun lm=>?_;refine @aa _ (af ?_);refine aw [18] n.l.length [0,3,4,5,6,7] (fun k=>[(7,dI k)]) (fun k=>⟨(b3.n,[dB true,.acc lm.n k])::(b2.n,[dI 0,dB true,.acc lo.n k])::(b1.n,[dI 0,dB false,.sl 0 true []])::(b.n,[dI n.aj,dB true,.sl 4 false (n.l.map dC)])::up S.box bs [.acc lw (ao true (n.l.take k) (left,ws)).2.2.length,.sl 1 false ((ao true (n.l.take k) (left,ws)).2.1.map dI)],(lm.n,.arr 5 (((ao true (n.l.take k) (left,ws)).1.map (cM true)).map mV))::(lo.n,.arr 4 ((ao true (n.l.take k) (left,ws)).1.map dC))::up S.acc lw (.arr 2 ((ao true (n.l.take k) (left,ws)).2.2.map su))⟩) (fun _=>True) mx (by kernel_rfl) ?_ ?_
   ·simp(maxDischargeDepth:=12) (maxSteps:=1000000) -implicitDefEqProofs only[go_sem,Nat.reduceAdd,Nat.reduceSub,Nat.reduceMul,Nat.reduceLeDiff,Nat.reduceEqDiff,Nat.reduceGT,Nat.reduceBEq,reduceCtorEq,↓reduceIte,Int.reduceToNat,Int.reduceLE,Int.reduceLT,Int.reduceNe,Int.reduceEq,hbu,hau,ao]
   ·intro k hk _;have hlk:(ao true (n.l.take k) (left,ws)).1.length=k:=by rw[bX,aaE];omega
    have hdk:=eB (q:=(left,ws)) fun c hc=>hlC c (ac5 (i:=k) hc);have hwk:=ja (q:=(left,ws)) fun c hc=>hwC c (ac5 (i:=k) hc);have htk:=fm true n.l k;have hm8:maxLen=9223372036854775807:=rfl;refine @aa _ (ai @hb ?_);refine⟨fun hlt=>⟨hlt,fun c hc b4=>?_⟩,fun hge=>?_⟩
    ·have hs:=j8 (b:=true) hc (left,ws);rw[cB]at hs;have hcm:=aap hc;have htk1:=fm true n.l (k+1);have hsu:=kj (b:=true) hc;have hcn:=hn.2 c hcm;have hrc:j9 true c=if c.an=[]then need (c.data.size:Int)else 0:=rfl
     rw[hs];generalize ao true (n.l.take k) (left,ws)=Pk at*;obtain⟨Lk,lf,wk⟩:=Pk;simp only at hlk hdk hwk;have hlfl:lf.length=left.length-gH true (n.l.take k):=by rw[hdk,acv]
     have hIk:wq (⟨(b4.n,[dS c.key,dS c.data,.sl 1 false (c.an.map dI),.sl 3 false (c.kid.map dN)])::(b3.n,[dB true,.acc lm.n k])::(b2.n,[dI 0,dB true,.acc lo.n k])::(b1.n,[dI 0,dB false,.sl 0 true []])::(b.n,[dI n.aj,dB true,.sl 4 false (n.l.map dC)])::up S.box bs [.acc lw wk.length,.sl 1 false (lf.map dI)],(lm.n,.arr 5 ((Lk.map (cM true)).map mV))::(lo.n,.arr 4 (Lk.map dC))::up S.acc lw (.arr 2 (wk.map su))⟩:St) bs lw lf wk:=⟨by
      have e:lk (up S.box bs [.acc lw wk.length,.sl 1 false (lf.map dI)]) bs=some [.acc lw wk.length,.sl 1 false (lf.map dI)]:=by rw[av,hb];rfl
      exact @aa _ (iX @hb @e),by
      have e:lk (up S.acc lw (.arr 2 (wk.map su))) lw=some (.arr 2 (wk.map su)):=by rw[av,ha];rfl
      exact @aa _ (iX @ha @e)⟩
     have hval:=Lr w0 bs lw c.data c.an (lf,wk) _ hIk hcn.1.2.1 (by have:=hcn.1.2.2;omega) (by show lf.length≤_;omega) (by show wk.length≤_;omega) (by
      by_cases e:c.an=[]
      ·rw[if_pos e]at hrc;exact .inl (by show _≤lf.length;omega)
      ·exact .inr e) (fun x hx=>hr x (by rw[hdk]at hx;exact adk hx)) (by show lf.Nodup;rw[hdk];exact hu.sublist (ae6 _ _))
     generalize dE c.data c.an (lf,wk)=V at*;obtain⟨ps,l1,w1⟩:=V;refine bC hval ?_;rintro e S' ⟨rfl,rfl⟩;have hcell:=fun S=>GO w0 true (.mk c.key c.data ps c.kid) S (fun e=>by cases e);simp(maxDischargeDepth:=12) (maxSteps:=1000000) -implicitDefEqProofs only[go_sem,Nat.reduceAdd,Nat.reduceSub,Nat.reduceMul,Nat.reduceLeDiff,Nat.reduceEqDiff,Nat.reduceGT,Nat.reduceBEq,reduceCtorEq,↓reduceIte,Int.reduceToNat,Int.reduceLE,Int.reduceLT,Int.reduceNe,Int.reduceEq,jE,hb,ha,hlk];refine⟨by omega,by omega,aK (hcell _) ?_ (by exact @aa _ aF)⟩;simp(maxDischargeDepth:=12) (maxSteps:=1000000) -implicitDefEqProofs only[go_sem,Nat.reduceAdd,Nat.reduceSub,Nat.reduceMul,Nat.reduceLeDiff,Nat.reduceEqDiff,Nat.reduceGT,Nat.reduceBEq,reduceCtorEq,↓reduceIte,Int.reduceToNat,Int.reduceLE,Int.reduceLT,Int.reduceNe,Int.reduceEq,jE,hb,ha,hlk,aa1,aa9,adT];exact⟨by omega,by omega,hlt,aZ k (by omega)⟩
    ·have hkl:k=n.l.length:=by omega
     subst hkl;rw[aed]at hlk hdk hwk ⊢;generalize ao true n.l (left,ws)=Pk at*;obtain⟨Lk,lf,wk⟩:=Pk;simp only at hlk hdk hwk hq1 hq2;have hlfl:lf.length=left.length-gH true n.l:=by rw[hdk,acv]
     cases lf with
     |nil=>simp only[acL]at hlfl;omega
     |cons p lr=>
      simp only[List.headD_cons,List.tail_cons]at hq2;subst hq2;have e1:lk (up S.box bs [.acc lw wk.length,.sl 1 false ((p::lr).map dI)]) bs=some [.acc lw wk.length,.sl 1 false ((p::lr).map dI)]:=by rw[av,hb];rfl
      have e2:lk (up S.acc lw (.arr 2 (wk.map su))) lw=some (.arr 2 (wk.map su)):=by rw[av,ha];rfl
      refine bC (JO w0 bs lw (p::lr) wk 1 _ ⟨by exact @aa _ (iX @hb @e1),by exact @aa _ (iX @ha @e2)⟩ (by simp) (by omega)) ?_;rintro e S' ⟨rfl,rfl⟩;simp(maxDischargeDepth:=12) (maxSteps:=1000000) -implicitDefEqProofs only[go_sem,Nat.reduceAdd,Nat.reduceSub,Nat.reduceMul,Nat.reduceLeDiff,Nat.reduceEqDiff,Nat.reduceGT,Nat.reduceBEq,reduceCtorEq,↓reduceIte,Int.reduceToNat,Int.reduceLE,Int.reduceLT,Int.reduceNe,Int.reduceEq,jE,hb,ha,hlk,aeW,afX,afM,aeM,abx,acL,aeX];have hput:=fun S=>Ss w0 true (Lk.map (cM true)) S (by rw[abv];omega) hq1.ok hq1.bN hq1.first hq1.fits hq1.many;refine ae (hput _) ?_;refine @aa _ (aM @hb @ha ?_);have e3:lk (up S.box bs [.acc lw wk.length,.sl 1 false (lr.map dI)]) bs=some [.acc lw wk.length,.sl 1 false (lr.map dI)]:=by rw[av,hb];rfl
      refine bC (C8 w0 bs lw lr wk p _ _ ⟨by exact @aa _ (iX @hb @e3),by exact @aa _ (iX @ha @e2)⟩ (by omega)) ?_;rintro e S' rfl;simp(maxDischargeDepth:=12) (maxSteps:=1000000) -implicitDefEqProofs only[go_sem,Nat.reduceAdd,Nat.reduceSub,Nat.reduceMul,Nat.reduceLeDiff,Nat.reduceEqDiff,Nat.reduceGT,Nat.reduceBEq,reduceCtorEq,↓reduceIte,Int.reduceToNat,Int.reduceLE,Int.reduceLT,Int.reduceNe,Int.reduceEq,jE,hb,ha];refine pU b2.n 2 (l:=lo.n) (s:=4) (xs:=Lk.map dC) (ds:=[dI p,dB true,.acc lo.n n.l.length]) (by exact @aa _ aF) (by simp[hlk]) (by exact @aa _ aF) ?_;refine @aa _ (af ?_);refine eI [] [] mx (by kernel_rfl) ?_;refine @aa _ (af ?_);refine⟨_,_,.refl _,?_,rfl,rfl⟩;have e5:(wk++[(p,xS true Lk)]).length=wk.length+1:=c9;unfold jE;rw[e5];exact⟨((acy _ _).trans (acy _ _)).trans ((acy _ _).trans (acy _ _)),(acy _ _).trans (acy _ _)⟩
 |succ d ih=>
  intro n q S hg hla hI ht hs h2 hf hq hu hr hp hw;have hn:=ax hg;have hlf:=hg.1;have hlen:=aT n;have hq1:=nL (q:=q) hg hla hs h2 hf hr hp;have hq2:=dD n q;have hq3:=eP hn;have hlC:=lU hn;have hwC:=tW hn;obtain⟨left,ws⟩:=q;simp only at hI hf hu hr hw hq;have hb:=hI.box;have ha:=hI.acc;have hbu:=bS hb;have hau:=bS ha;rw[hlf]at hq1 hq2 hq3 hlC hwC;generalize bx n (left,ws)=R at*;refine rz [12,18] mx Tryz.func143 rfl rfl (by kernel_rfl) ?_;refine @aa _ (aM @Tryz.ntmps143 @hlf ?_);intro b b1;have fin1:n.aj≠0∨(false=true∧n.l=[])→R=(n,(left,ws)):=fun e=>by rw[hq2,if_pos e]
  have en:eN n= .agg [dI n.aj,dB false,.sl 4 false (n.l.map dC)]:=by unfold eN;rw[hlf]
  refine⟨fun h0=>?_,fun h0=>?_⟩
  ·rw[fin1 (.inl h0)];refine⟨_,_,.refl _,?_,by rw[hlf],rfl⟩;rw[rP hI];exact⟨(acy _ _).trans (acy _ _),ad5 _⟩
  ·have h00:¬(n.aj≠0∨false=true∧n.l=[]):=fun e=>e.elim (fun e=>h0 e) fun e=>by cases e.1
   rw[if_neg h00]at hq2;rw[if_neg (fun e=>h00 (.inl e)),if_neg (fun e=>h00 (.inr e))]at hq3;replace hq1:=hq1 h00;intro b2 b3;refine bW b2.n 2 4 (by omega) (ds:=[dI 0,dB false,.sl 0 true []]) (by exact @aa _ aF) rfl fun lo=>?_;refine @aa _ (af ?_);refine bW b3.n 1 5 (by omega) (ds:=[dB false,.sl 0 true []]) (by exact @aa _ aF) rfl fun lm=>?_;refine @aa _ (af ?_);refine aw [12,18] n.l.length [0,3,4,5,6,7] (fun k=>[(7,dI k)]) (fun k=>⟨(b3.n,[dB false,.acc lm.n k])::(b2.n,[dI 0,dB false,.acc lo.n k])::(b1.n,[dI 0,dB false,.sl 0 true []])::(b.n,[dI n.aj,dB false,.sl 4 false (n.l.map dC)])::up S.box bs [.acc lw (ao false (n.l.take k) (left,ws)).2.2.length,.sl 1 false ((ao false (n.l.take k) (left,ws)).2.1.map dI)],(lm.n,.arr 5 (((ao false (n.l.take k) (left,ws)).1.map (cM false)).map mV))::(lo.n,.arr 4 ((ao false (n.l.take k) (left,ws)).1.map dC))::up S.acc lw (.arr 2 ((ao false (n.l.take k) (left,ws)).2.2.map su))⟩) (fun _=>True) mx (by kernel_rfl) ?_ ?_
   ·simp(maxDischargeDepth:=12) (maxSteps:=1000000) -implicitDefEqProofs only[go_sem,Nat.reduceAdd,Nat.reduceSub,Nat.reduceMul,Nat.reduceLeDiff,Nat.reduceEqDiff,Nat.reduceGT,Nat.reduceBEq,reduceCtorEq,↓reduceIte,Int.reduceToNat,Int.reduceLE,Int.reduceLT,Int.reduceNe,Int.reduceEq,hbu,hau,ao]
   ·intro k hk _;have hlk:(ao false (n.l.take k) (left,ws)).1.length=k:=by rw[bX,aaE];omega
    have hdk:=eB (q:=(left,ws)) fun c hc=>hlC c (ac5 (i:=k) hc);have hwk:=ja (q:=(left,ws)) fun c hc=>hwC c (ac5 (i:=k) hc);have htk:=fm false n.l k;have hm8:maxLen=9223372036854775807:=rfl;refine @aa _ (ai @hb ?_);refine⟨fun hlt=>⟨hlt,fun c hc b4=>?_⟩,fun hge=>?_⟩
    ·have hs:=j8 (b:=false) hc (left,ws);obtain⟨hsh,_,kid,hkid,hkg,hkf⟩:=hg.2.2.cell c (aap hc);have hnd:=ax hkg;have htk2:=cL (aap hc) hkid;rw[dj hkid]at hs;have hcm:=aap hc;have htk1:=fm false n.l (k+1);have hsu:=kj (b:=false) hc;have hrc:j9 false c=di kid:=by rw[←aO hkid];rfl
     rw[hs];generalize ao false (n.l.take k) (left,ws)=Pk at*;obtain⟨Lk,lf,wk⟩:=Pk;simp only at hlk hdk hwk;have hlfl:lf.length=left.length-gH false (n.l.take k):=by rw[hdk,acv]
     have hIk:wq (⟨(b4.n,[dS c.key,dS c.data,.sl 1 false (c.an.map dI),.sl 3 false (c.kid.map dN)])::(b3.n,[dB false,.acc lm.n k])::(b2.n,[dI 0,dB false,.acc lo.n k])::(b1.n,[dI 0,dB false,.sl 0 true []])::(b.n,[dI n.aj,dB false,.sl 4 false (n.l.map dC)])::up S.box bs [.acc lw wk.length,.sl 1 false (lf.map dI)],(lm.n,.arr 5 ((Lk.map (cM false)).map mV))::(lo.n,.arr 4 (Lk.map dC))::up S.acc lw (.arr 2 (wk.map su))⟩:St) bs lw lf wk:=⟨by
      have e:lk (up S.box bs [.acc lw wk.length,.sl 1 false (lf.map dI)]) bs=some [.acc lw wk.length,.sl 1 false (lf.map dI)]:=by rw[av,hb];rfl
      exact @aa _ (iX @hb @e),by
      have e:lk (up S.acc lw (.arr 2 (wk.map su))) lw=some (.arr 2 (wk.map su)):=by rw[av,ha];rfl
      exact @aa _ (iX @ha @e)⟩
     have hal:∀p,p∈ca kid→p∈ca n:=fun p hp=>by
      rw[fw n,hlf];exact adL _ (ad7.2 ⟨c,hcm,by rw[fK hkid];exact adL _ hp⟩)
     have hkl2:kid.leaf=true∨2≤kid.l.length:=by
      cases d with
      |zero=>exact .inl hkg.1
      |succ d=>
       refine .inr ?_;have h30:=hkf.1;have hsz:=gE hkg;unfold ah at h30 hsz
       match hm:kid.l with
       |[]=>rw[hm]at h30;simp at h30
       |[x]=>
        rw[hm]at h30 hsz;have:=hsz _ (aew aaX);simp only[aa9,adT,adb,aeQ]at h30 this;rw[if_neg (by omega)]at this;omega
       |x::y::r=>simp
     have hval:=ih kid (lf,wk) _ hkg (by
      cases hla with|mk _ _ _ h3=>exact h3 hlf c hcm kid hkid) hIk (by omega) hkf.2 hkl2 (by show _≤lf.length;omega) (by show lf.length≤_;omega) (by show lf.Nodup;rw[hdk];exact hu.sublist (ae6 _ _)) (fun x hx=>hr x (by rw[hdk]at hx;exact adk hx)) (fun p hp'=>hp p (hal p hp')) (by show wk.length+_≤_;omega)
     generalize bx kid (lf,wk)=V at*;obtain⟨kd,l1,w1⟩:=V;rw[hkid]at hIk hval ⊢;simp only[aa9,adT,Tg]at hIk hval;refine @aa _ (af ?_);refine bC hval ?_;rintro e S' ⟨rfl,rfl⟩;have hcell:=fun S=>GO w0 false (.mk c.key c.data c.an [kd]) S (fun e=>⟨kd,rfl⟩);simp(maxDischargeDepth:=12) (maxSteps:=1000000) -implicitDefEqProofs only[go_sem,Nat.reduceAdd,Nat.reduceSub,Nat.reduceMul,Nat.reduceLeDiff,Nat.reduceEqDiff,Nat.reduceGT,Nat.reduceBEq,reduceCtorEq,↓reduceIte,Int.reduceToNat,Int.reduceLE,Int.reduceLT,Int.reduceNe,Int.reduceEq,jE,hb,ha,hlk];refine y7 b4.n [dS c.key,dS c.data,.sl 1 false (c.an.map dI),.sl 3 false [dN kd]] (ds:=[dS c.key,dS c.data,.sl 1 false (c.an.map dI),.sl 3 true [eN kd]]) (by exact @aa _ aF) (by rw[Tg];exact .cons (.refl _) (.cons (.refl _) (.cons (.refl _) (.cons (.full _ _ _) .nil)))) ?_;refine @aa _ (af ?_);refine eI [18] [] mx (by kernel_rfl) ?_;simp(maxDischargeDepth:=12) (maxSteps:=1000000) -implicitDefEqProofs only[go_sem,Nat.reduceAdd,Nat.reduceSub,Nat.reduceMul,Nat.reduceLeDiff,Nat.reduceEqDiff,Nat.reduceGT,Nat.reduceBEq,reduceCtorEq,↓reduceIte,Int.reduceToNat,Int.reduceLE,Int.reduceLT,Int.reduceNe,Int.reduceEq,jE,hb,ha,hlk];refine⟨by omega,by omega,aK (hcell _) ?_ (by exact @aa _ aF)⟩;simp(maxDischargeDepth:=12) (maxSteps:=1000000) -implicitDefEqProofs only[go_sem,Nat.reduceAdd,Nat.reduceSub,Nat.reduceMul,Nat.reduceLeDiff,Nat.reduceEqDiff,Nat.reduceGT,Nat.reduceBEq,reduceCtorEq,↓reduceIte,Int.reduceToNat,Int.reduceLE,Int.reduceLT,Int.reduceNe,Int.reduceEq,jE,hb,ha,hlk,aa1,aa9,adT];exact⟨by omega,by omega,hlt,aZ k (by omega)⟩
    ·have hkl:k=n.l.length:=by omega
     subst hkl;rw[aed]at hlk hdk hwk ⊢;generalize ao false n.l (left,ws)=Pk at*;obtain⟨Lk,lf,wk⟩:=Pk;simp only at hlk hdk hwk hq1 hq2;have hlfl:lf.length=left.length-gH false n.l:=by rw[hdk,acv]
     cases lf with
     |nil=>simp only[acL]at hlfl;omega
     |cons p lr=>
      simp only[List.headD_cons,List.tail_cons]at hq2;subst hq2;have e1:lk (up S.box bs [.acc lw wk.length,.sl 1 false ((p::lr).map dI)]) bs=some [.acc lw wk.length,.sl 1 false ((p::lr).map dI)]:=by rw[av,hb];rfl
      have e2:lk (up S.acc lw (.arr 2 (wk.map su))) lw=some (.arr 2 (wk.map su)):=by rw[av,ha];rfl
      refine bC (JO w0 bs lw (p::lr) wk 1 _ ⟨by exact @aa _ (iX @hb @e1),by exact @aa _ (iX @ha @e2)⟩ (by simp) (by omega)) ?_;rintro e S' ⟨rfl,rfl⟩;simp(maxDischargeDepth:=12) (maxSteps:=1000000) -implicitDefEqProofs only[go_sem,Nat.reduceAdd,Nat.reduceSub,Nat.reduceMul,Nat.reduceLeDiff,Nat.reduceEqDiff,Nat.reduceGT,Nat.reduceBEq,reduceCtorEq,↓reduceIte,Int.reduceToNat,Int.reduceLE,Int.reduceLT,Int.reduceNe,Int.reduceEq,jE,hb,ha,hlk,aeW,afX,afM,aeM,abx,acL,aeX];have hput:=fun S=>Ss w0 false (Lk.map (cM false)) S (by rw[abv];omega) hq1.ok hq1.bN hq1.first hq1.fits hq1.many;refine ae (hput _) ?_;refine @aa _ (aM @hb @ha ?_);have e3:lk (up S.box bs [.acc lw wk.length,.sl 1 false (lr.map dI)]) bs=some [.acc lw wk.length,.sl 1 false (lr.map dI)]:=by rw[av,hb];rfl
      refine bC (C8 w0 bs lw lr wk p _ _ ⟨by exact @aa _ (iX @hb @e3),by exact @aa _ (iX @ha @e2)⟩ (by omega)) ?_;rintro e S' rfl;simp(maxDischargeDepth:=12) (maxSteps:=1000000) -implicitDefEqProofs only[go_sem,Nat.reduceAdd,Nat.reduceSub,Nat.reduceMul,Nat.reduceLeDiff,Nat.reduceEqDiff,Nat.reduceGT,Nat.reduceBEq,reduceCtorEq,↓reduceIte,Int.reduceToNat,Int.reduceLE,Int.reduceLT,Int.reduceNe,Int.reduceEq,jE,hb,ha];refine pU b2.n 2 (l:=lo.n) (s:=4) (xs:=Lk.map dC) (ds:=[dI p,dB false,.acc lo.n n.l.length]) (by exact @aa _ aF) (by simp[hlk]) (by exact @aa _ aF) ?_;refine @aa _ (af ?_);refine eI [] [] mx (by kernel_rfl) ?_;refine @aa _ (af ?_);refine⟨_,_,.refl _,?_,rfl,rfl⟩;have e5:(wk++[(p,xS false Lk)]).length=wk.length+1:=c9;unfold jE;rw[e5];exact⟨((acy _ _).trans (acy _ _)).trans ((acy _ _).trans (acy _ _)),(acy _ _).trans (acy _ _)⟩
theorem Bp(w0:W0)(n:N)(S:St)(hn:n.leaf=false→∀c,c∈n.l→∃k,c.kid=[k])(hl:n.l.length≤1048576):
 ab Tryz.prog w0 253 [eT n] S (fun d S'=>d= .sl 5 false ((n.l.map (cM n.leaf)).map mV)∧S'=S):=by
 have hm8:maxLen=9223372036854775807:=rfl
 cases hlf:n.leaf with
 |true=>
  rw[cm hlf];refine aJ [2,10] mx Tryz.func253 rfl rfl (by kernel_rfl) ?_;refine @aa _ (ai @Tryz.ntmps253 ?_);intro b1;refine fH 3 5 rfl (by omega) fun lp=>?_;refine eI [10] [] mx (by kernel_rfl) ?_;refine @aa _ (af ?_);refine aw [10] n.l.length [1,3,8,9,10] (fun k=>[(3,.acc lp.n k),(10,dI k)]) (fun k=>⟨(b1.n,[dI n.aj,dB true,.sl 1 false (n.l.map fun c=>dS c.key),.sl 2 false (n.l.map gx),.sl 5 false []])::S.box,(lp.n,.arr 5 (((n.l.take k).map (cM true)).map mV))::S.acc⟩) (fun _=>True) mx (by kernel_rfl) ?_ ?_
  ·exact @aa _ aF
  ·intro k hk' _;have hml:(n.l.take k).length=k:=by rw[aaE];omega
   have e1:IntKind.i64.wrap ((k:Int)+1)=((k+1:Nat):Int):=by rw[aG (by omega) (by omega)];omega
   refine @aa _ (aM @hml @e1 ?_);refine⟨fun hlt=>⟨hlt,fun a ha b2=>⟨hlt,fun a2 ha2=>?_⟩⟩,fun hge=>?_⟩
   ·cases aC ha ha2
    have htk:((n.l.take (k+1)).map (cM true)).map mV=((n.l.take k).map (cM true)).map mV++[mV (cM true a)]:=by
     rw[abZ,ha,aea,aa1,aa1];rfl
    rw[htk];refine⟨fun hp=>?_,fun hp=>⟨hlt,fun a3 ha3=>?_⟩⟩
    ·obtain⟨x,r,hx⟩:∃x r,a.an=x::r:=by
      cases q:a.an with
      |nil=>rw[q]at hp;simp at hp
      |cons x r=>exact⟨x,r,rfl⟩
     have he:cM true a=⟨a.key,aN,true,a.data.size,x⟩:=by unfold cM;rw[if_pos rfl,if_neg (by rw[hx];simp),hx];rfl
     rw[he];refine Y.j4 [] [] [0,2,7,9,1,3,4,5,6,8,10,11,12,13,14,15,16,17] mx (by kernel_rfl) ?_;have em:min k n.l.length=k:=by omega
     refine @aa _ (aM @hml @em ?_);refine⟨hlt,fun c1 h1=>⟨hlt,fun c2 h2=>?_⟩⟩;cases aC ha h1;cases aC ha h2;refine⟨by omega,fun y hy=>?_⟩;rw[hx]at hy;cases hy;exact⟨by omega,by omega,hlt,e1,.aX (.refl _)⟩
    ·cases aC ha ha3;have he:cM true a=⟨a.key,a.data,false,0,0⟩:=by unfold cM;rw[if_pos rfl,if_pos (aa4 (by omega))]
     rw[he];exact⟨by omega,by omega,hlt,.aX (.refl _)⟩
   ·rw[aaA (by omega)];exact .refl _
 |false=>
  rw[fc hlf (hn hlf)];unfold zP;refine aJ [2] mx Tryz.func253 rfl rfl (by kernel_rfl) ?_;refine @aa _ (ai @Tryz.ntmps253 ?_);intro b1;refine fH 3 5 rfl (by omega) fun lp=>?_;refine eI [] [] mx (by kernel_rfl) ?_;refine @aa _ (af ?_);refine aw [] n.l.length [1,3,8,9,10] (fun k=>[(3,.acc lp.n k),(10,dI k)]) (fun k=>⟨(b1.n,[dI n.aj,dB false,.sl 1 false (n.l.map fun c=>dS c.key),.sl 2 false [],.sl 5 false (dK n.l)])::S.box,(lp.n,.arr 5 (((n.l.take k).map (cM false)).map mV))::S.acc⟩) (fun _=>True) mx (by kernel_rfl) ?_ ?_
  ·exact @aa _ aF
  ·intro k hk' _;have hml:(n.l.take k).length=k:=by rw[aaE];omega
   have e1:IntKind.i64.wrap ((k:Int)+1)=((k+1:Nat):Int):=by rw[aG (by omega) (by omega)];omega
   refine @aa _ (aM @hml @e1 ?_);refine⟨fun hlt=>⟨hlt,fun a ha b2=>⟨hlt,fun a2 ha2=>?_⟩⟩,fun hge=>?_⟩
   ·cases aC ha ha2
    have htk:((n.l.take (k+1)).map (cM false)).map mV=((n.l.take k).map (cM false)).map mV++[mV (cM false a)]:=by
     rw[abZ,ha,aea,aa1,aa1];rfl
    rw[htk];have he:cM false a=⟨a.key,aN,false,0,(aB a).aj⟩:=by unfold cM;rfl
    rw[he];exact⟨by omega,by omega,hlt,.aX (.refl _)⟩
   ·rw[aaA (by omega)];exact .refl _
theorem my{P:Program}{w0:W0}{f:FuncId}{args:List DV}{S X:St}{r:DV}(h1:ab P w0 f args S (fun d S'=>pD S' d fun d S''=>Wk d r∧Aml.Sub X S'')):ab P w0 f args S (fun d S'=>d=r∧S'=X):=by
 intro g vs w k1 k2;refine(h1 g vs w k1 k2).mono ?_;rintro e w' ⟨v,g',d,S',q1,q2,q3,q4,q5⟩;obtain⟨g2,d',S2,p1,p2,p3,p4,p5⟩:=uh q3 q4 q5;exact⟨v,g2,r,X,q1,q2.trans p1,p2.forget p5.box p5.acc,p4 _ _ p3,rfl,rfl⟩
def nC(b:Bool)(l:List C)(q:LS)(k:Nat):List C:=(ao b (l.take k) q).1++l.drop k
theorem AJ(b:Bool)(l:List C)(q:LS){k:Nat}(h:k≤l.length):(nC b l q k).length=l.length:=by
 unfold nC;rw[c9,bX,aaE,acv];omega
theorem xF(b:Bool)(l:List C)(q:LS):nC b l q 0=l:=by unfold nC;simp[ao]
theorem Aj(b:Bool)(l:List C)(q:LS):nC b l q l.length=(ao b l q).1:=by unfold nC;simp
theorem Al{b:Bool}{l:List C}{q:LS}{k:Nat}{c:C}(h:l[k]? =some c):(nC b l q k)[k]? =some c:=by
 have hk:=(aaq.1 h).1;unfold nC;rw[adN (by rw[bX,aaE];omega),bX,aaE,aff (by omega),aeK,aeg];exact h
theorem Aq{b:Bool}{l:List C}{q:LS}{k:Nat}{c:C}(h:l[k]? =some c):(nC b l q k).set k (fE b c (ao b (l.take k) q).2).1=nC b l q (k+1):=by
 have hk:=(aaq.1 h).1;unfold nC;rw[afe _ _ (by rw[bX,aaE];omega),bX,aaE,aff (by omega),aeK,j8 h];rw[aet hk,show l[k]=c from aen ((aay hk).symm.trans h)];simp
theorem VO(w0:W0)(hg:gn w0)(bs lw:Nat)(l:List C)(q:LS)(S:St)(h:ni S bs lw q.1 q.2)(hl:l.length≤1048576)
 (hv:∀k c,l[k]? =some c→∀S,ni S bs lw (ao true (l.take k) q).2.1 (ao true (l.take k) q).2.2→ab Tryz.prog w0 250 [.v (.pointer (some ⟨bs,0,none⟩)),.agg [dS c.data,dL c.an]] S (fun e S'=>e= .agg [dS c.data,dL (dE c.data c.an (ao true (l.take k) q).2).1]∧S'=gS S bs lw (ao true (l.take (k+1)) q).2.1 (ao true (l.take (k+1)) q).2.2)):
 ab Tryz.prog w0 249 [dR 2 (l.map gx),.v (.func (.func 250) #[.pointer (some ⟨bs,0,none⟩)] #[])] S (fun d S'=>∃b:FN S.acc,d= .acc b.n l.length∧S'=⟨(gS S bs lw (ao true l q).2.1 (ao true l q).2.2).box,(b.n,.arr 2 ((ao true l q).1.map gx))::(gS S bs lw (ao true l q).2.1 (ao true l q).2.2).acc⟩):=by
 refine rz [] mx Tryz.func249 rfl rfl (by kernel_rfl) ?_;refine @aa _ (ai @Tryz.ntmps249 ?_);refine bC (zw w0 (l.map gx) _ (by rw[abv];exact hl)) ?_;rintro _ _ ⟨lc,rfl,rfl⟩;refine @aa _ (af ?_);refine aw [] l.length [1,5,10,11,12] (fun k=>[(12,dI k)]) (fun k=>⟨up S.box bs [.acc lw (ao true (l.take k) q).2.2.length,.sl 1 false ((ao true (l.take k) q).2.1.map dI)],(lc.n,.arr 2 ((nC true l q k).map gx))::up S.acc lw (.arr 2 ((ao true (l.take k) q).2.2.map oY))⟩) (fun _=>True) mx (by kernel_rfl) ?_ ?_
 ·have h1:=bS h.box;have h2:=bS h.acc;have h3:(ao true (l.take 0) q)=([],q):=by simp[ao]
  rw[h3];exact @aa _ (Y9 @h1 @h2 @xF)
 ·intro k hk _;have hml:=AJ true l q hk;have hb:=h.box;have ha:=h.acc;refine @aa _ (ai @hml ?_);refine⟨fun hlt=>⟨hlt,hlt,fun c hc b2=>?_⟩,fun hge=>?_⟩
  ·have hk1:∃c0,l[k]? =some c0:=⟨_,aay hlt⟩;obtain⟨c0,hc0⟩:=hk1;cases aC (Al (b:=true) (q:=q) hc0) hc;have hs:=Aq (b:=true) (q:=q) hc0;rw[cB]at hs;have e1:lk (up S.box bs [.acc lw (ao true (l.take k) q).2.2.length,.sl 1 false ((ao true (l.take k) q).2.1.map dI)]) bs=some [.acc lw (ao true (l.take k) q).2.2.length,.sl 1 false ((ao true (l.take k) q).2.1.map dI)]:=by rw[av,hb];rfl
   have e2:lk (up S.acc lw (.arr 2 ((ao true (l.take k) q).2.2.map oY))) lw=some (.arr 2 ((ao true (l.take k) q).2.2.map oY)):=by rw[av,ha];rfl
   refine bC (hv k c hc0 _ ⟨by exact @aa _ (iX @hb @e1),by exact @aa _ (iX @ha @e2)⟩) ?_;rintro _ _ ⟨rfl,rfl⟩;simp(maxDischargeDepth:=12) (maxSteps:=1000000) -implicitDefEqProofs only[go_sem,Nat.reduceAdd,Nat.reduceSub,Nat.reduceMul,Nat.reduceLeDiff,Nat.reduceEqDiff,Nat.reduceGT,Nat.reduceBEq,reduceCtorEq,↓reduceIte,Int.reduceToNat,Int.reduceLE,Int.reduceLT,Int.reduceNe,Int.reduceEq,gS,hb,ha,sZ,hml]
   have dO:((nC true l q k).map gx).set k (.agg [dS c.data,dL (dE c.data c.an (ao true (l.take k) q).2).1])=(nC true l q (k+1)).map gx:=by
    rw[←hs,afK];rfl
   rw[←dO];exact⟨hlt,hlt,fun _ _=>⟨hlt,aZ k (by omega),.aX (.refl _)⟩⟩
  ·have:k=l.length:=by omega
   subst this;rw[Aj,aed];exact⟨_,_,.refl _,.refl _,lc,rfl,rfl⟩
theorem Xb(w0:W0)(hg:gn w0)(bs lw:Nat)(l:List C)(q:LS)(S:St)(h:ni S bs lw q.1 q.2)(hl:l.length≤1048576)
 (hv:∀k c,l[k]? =some c→∀S,ni S bs lw (ao true (l.take k) q).2.1 (ao true (l.take k) q).2.2→ab Tryz.prog w0 250 [.v (.pointer (some ⟨bs,0,none⟩)),.agg [dS c.data,dL c.an]] S (fun e S'=>e= .agg [dS c.data,dL (dE c.data c.an (ao true (l.take k) q).2).1]∧S'=gS S bs lw (ao true (l.take (k+1)) q).2.1 (ao true (l.take (k+1)) q).2.2)):
 ab Tryz.prog w0 249 [dR 2 (l.map gx),.v (.func (.func 250) #[.pointer (some ⟨bs,0,none⟩)] #[])] S (fun d S'=>d=dR 2 ((ao true l q).1.map gx)∧S'=gS S bs lw (ao true l q).2.1 (ao true l q).2.2):=by
 refine my (ab.mono (VO w0 hg bs lw l q S h hl hv) ?_);rintro d S' ⟨b,rfl,rfl⟩;have:=bX true l q;exact @aa _ (jd @this)
theorem T7(w0:W0)(hg:gn w0)(bs lw:Nat)(l:List C)(q:LS)(S:St)(h:ni S bs lw q.1 q.2)(hl:l.length≤1048576)(hk1:∀c,c∈l→∃k,c.kid=[k])
 (hv:∀k c,l[k]? =some c→∀S,ni S bs lw (ao false (l.take k) q).2.1 (ao false (l.take k) q).2.2→ab Tryz.prog w0 228 [.v (.pointer (some ⟨bs,0,none⟩)),eT (aB c)] S (fun e S'=>e=eT (bx (aB c) (ao false (l.take k) q).2).1∧S'=gS S bs lw (ao false (l.take (k+1)) q).2.1 (ao false (l.take (k+1)) q).2.2)):
 ab Tryz.prog w0 248 [dR 5 (dK l),.v (.func (.func 228) #[.pointer (some ⟨bs,0,none⟩)] #[])] S (fun d S'=>∃b:FN S.acc,d= .acc b.n l.length∧S'=⟨(gS S bs lw (ao false l q).2.1 (ao false l q).2.2).box,(b.n,.arr 5 (dK (ao false l q).1))::(gS S bs lw (ao false l q).2.1 (ao false l q).2.2).acc⟩):=by
 refine rz [] mx Tryz.func248 rfl rfl (by kernel_rfl) ?_;refine @aa _ (ai @Tryz.ntmps248 ?_);refine bC (zu w0 (dK l) _ (by rw[jt];exact hl)) ?_;rintro _ _ ⟨lc,rfl,rfl⟩;refine @aa _ (af ?_);refine aw [] l.length [1,5,10,11,12] (fun k=>[(12,dI k)]) (fun k=>⟨up S.box bs [.acc lw (ao false (l.take k) q).2.2.length,.sl 1 false ((ao false (l.take k) q).2.1.map dI)],(lc.n,.arr 5 (dK (nC false l q k)))::up S.acc lw (.arr 2 ((ao false (l.take k) q).2.2.map oY))⟩) (fun _=>True) mx (by kernel_rfl) ?_ ?_
 ·have h1:=bS h.box;have h2:=bS h.acc;have h3:(ao false (l.take 0) q)=([],q):=by simp[ao]
  rw[h3];exact @aa _ (Y9 @h1 @h2 @xF)
 ·intro k hk _;have hml:=AJ false l q hk;have hb:=h.box;have ha:=h.acc;refine @aa _ (ai @hml ?_);refine⟨fun hlt=>⟨hlt,hlt,fun c hc b2=>?_⟩,fun hge=>?_⟩
  ·obtain⟨c0,hc0⟩:∃c0,l[k]? =some c0:=⟨_,aay hlt⟩;cases aC (Al (b:=false) (q:=q) hc0) hc;have hs:=Aq (b:=false) (q:=q) hc0;have e1:lk (up S.box bs [.acc lw (ao false (l.take k) q).2.2.length,.sl 1 false ((ao false (l.take k) q).2.1.map dI)]) bs=some [.acc lw (ao false (l.take k) q).2.2.length,.sl 1 false ((ao false (l.take k) q).2.1.map dI)]:=by rw[av,hb];rfl
   have e2:lk (up S.acc lw (.arr 2 ((ao false (l.take k) q).2.2.map oY))) lw=some (.arr 2 ((ao false (l.take k) q).2.2.map oY)):=by rw[av,ha];rfl
   refine bC (hv k c hc0 _ ⟨by exact @aa _ (iX @hb @e1),by exact @aa _ (iX @ha @e2)⟩) ?_;rintro _ _ ⟨rfl,rfl⟩
   have dO:(dK (nC false l q k)).set k (eT (bx (aB c) (ao false (l.take k) q).2).1)=dK (nC false l q (k+1)):=by
    obtain⟨kid,hkid⟩:=hk1 c (aap hc0);rw[←hs,dj hkid,aO hkid];unfold dK;rw[afK];congr 1;rw[aO rfl,kT]
   rw[←dO];simp(maxDischargeDepth:=12) (maxSteps:=1000000) -implicitDefEqProofs only[go_sem,Nat.reduceAdd,Nat.reduceSub,Nat.reduceMul,Nat.reduceLeDiff,Nat.reduceEqDiff,Nat.reduceGT,Nat.reduceBEq,reduceCtorEq,↓reduceIte,Int.reduceToNat,Int.reduceLE,Int.reduceLT,Int.reduceNe,Int.reduceEq,gS,hb,ha,sZ,hml];exact⟨hlt,hlt,fun _ _=>⟨hlt,aZ k (by omega)⟩⟩
  ·have:k=l.length:=by omega
   subst this;rw[Aj,aed];exact⟨_,_,.refl _,.refl _,lc,rfl,rfl⟩
theorem Xf(w0:W0)(hg:gn w0)(bs lw:Nat)(l:List C)(q:LS)(S:St)(h:ni S bs lw q.1 q.2)(hl:l.length≤1048576)(hk1:∀c,c∈l→∃k,c.kid=[k])
 (hv:∀k c,l[k]? =some c→∀S,ni S bs lw (ao false (l.take k) q).2.1 (ao false (l.take k) q).2.2→ab Tryz.prog w0 228 [.v (.pointer (some ⟨bs,0,none⟩)),eT (aB c)] S (fun e S'=>e=eT (bx (aB c) (ao false (l.take k) q).2).1∧S'=gS S bs lw (ao false (l.take (k+1)) q).2.1 (ao false (l.take (k+1)) q).2.2)):
 ab Tryz.prog w0 248 [dR 5 (dK l),.v (.func (.func 228) #[.pointer (some ⟨bs,0,none⟩)] #[])] S (fun d S'=>d=dR 5 (dK (ao false l q).1)∧S'=gS S bs lw (ao false l q).2.1 (ao false l q).2.2):=by
 refine my (ab.mono (T7 w0 hg bs lw l q S h hl hk1 hv) ?_);rintro d S' ⟨b,rfl,rfl⟩;have:=bX false l q;exact @aa _ (jd @this)
theorem VT(w0:W0)(bs lw:Nat)(left:List Int)(ws:List (Int×ByteArray))(S:St)(h:ni S bs lw left ws):ab Tryz.prog w0 249 [dR 2 [],.v (.func (.func 250) #[.pointer (some ⟨bs,0,none⟩)] #[])] S (fun d S'=>d=dR 2 []∧S'=S):=by
 refine my (ab.mono (K:=fun d S'=>∃b:FN S.acc,d= .acc b.n 0∧S'=⟨S.box,(b.n,.arr 2 [])::S.acc⟩) ?_ ?_)
 ·refine rz [] mx Tryz.func249 rfl rfl (by kernel_rfl) ?_;refine @aa _ (ai @Tryz.ntmps249 ?_);refine bC (zw w0 [] _ (by decide)) ?_;rintro _ _ ⟨lc,rfl,rfl⟩;refine @aa _ (af ?_);refine aw [] 0 [1,5,10,11,12] (fun k=>[(12,dI k)]) (fun k=>⟨S.box,(lc.n,.arr 2 [])::S.acc⟩) (fun _=>True) mx (by kernel_rfl) ?_ ?_
  ·exact @aa _ aF
  ·intro k hk _;refine @aa _ (af ?_);exact⟨fun h=>by omega,fun _=>⟨_,_,.refl _,.refl _,lc,rfl,rfl⟩⟩
 ·rintro d S' ⟨b,rfl,rfl⟩;exact @aa _ aF
theorem U7(w0:W0)(bs lw:Nat)(left:List Int)(ws:List (Int×ByteArray))(S:St)(h:ni S bs lw left ws):ab Tryz.prog w0 248 [dR 5 [],.v (.func (.func 228) #[.pointer (some ⟨bs,0,none⟩)] #[])] S (fun d S'=>d=dR 5 []∧S'=S):=by
 refine my (ab.mono (K:=fun d S'=>∃b:FN S.acc,d= .acc b.n 0∧S'=⟨S.box,(b.n,.arr 5 [])::S.acc⟩) ?_ ?_)
 ·refine rz [] mx Tryz.func248 rfl rfl (by kernel_rfl) ?_;refine @aa _ (ai @Tryz.ntmps248 ?_);refine bC (zu w0 [] _ (by decide)) ?_;rintro _ _ ⟨lc,rfl,rfl⟩;refine @aa _ (af ?_);refine aw [] 0 [1,5,10,11,12] (fun k=>[(12,dI k)]) (fun k=>⟨S.box,(lc.n,.arr 5 [])::S.acc⟩) (fun _=>True) mx (by kernel_rfl) ?_ ?_
  ·exact @aa _ aF
  ·intro k hk _;refine @aa _ (af ?_);exact⟨fun h=>by omega,fun _=>⟨_,_,.refl _,.refl _,lc,rfl,rfl⟩⟩
 ·rintro d S' ⟨b,rfl,rfl⟩;exact @aa _ aF
theorem so(b:Bool):∀(l:List C) (q:LS),((ao b l q).1.map fun c=>dS c.key)=l.map fun c=>dS c.key
 |[],_=>rfl
 |c::l,q=>by
  simp only[ao,aa9,so b l,(gY b c q).1]
theorem aaN(w0:W0)(hgl:gn w0)(bs lw:Nat):∀(d:Nat) (n:N) (q:LS) (S:St),Good d n→mf n→ni S bs lw q.1 q.2→bA n≤131072→(ah n).sum≤122→(n.leaf=true∨2≤n.l.length)→di n≤q.1.length→q.1.length≤1024→q.1.Nodup→(∀x,x∈q.1→2≤x∧x≤999)→(∀p,p∈ca n→2≤p∧p≤999)→q.2.length+di n≤65536→
 ab Tryz.prog w0 228 [.v (.pointer (some ⟨bs,0,none⟩)),eT n] S (fun e S'=>e=eT (bx n q).1∧S'=gS S bs lw (bx n q).2.1 (bx n q).2.2):=by
 intro d
 induction d with
 |zero=>
  intro n q S hg hla hI ht hs h2 hf hq hu hr hp hw;have hn:=ax hg;have hlf:=hg.1;have hlen:=aT n;have hq1:=nL (q:=q) hg hla hs h2 hf hr hp;have hq2:=dD n q;have hq3:=eP hn;have hlC:=lU hn;have hwC:=tW hn;obtain⟨left,ws⟩:=q;simp only at hI hf hu hr hw hq;have hb:=hI.box;have ha:=hI.acc;rw[hlf]at hq1 hq2 hq3 hlC hwC;generalize bx n (left,ws)=R at*;rw[cm hlf];refine rz [3,6] mx Tryz.func228 rfl rfl (by kernel_rfl) ?_;refine @aa _ (ai @Tryz.ntmps228 ?_);intro b b1;have fin1:n.aj≠0∨(true=true∧n.l=[])→R=(n,(left,ws)):=fun e=>by rw[hq2,if_pos e]
  refine⟨fun h0=>?_,fun h0=>⟨fun h1=>?_,fun h1=>?_⟩⟩
  ·rw[fin1 (.inl h0)];refine⟨_,_,.refl _,?_,(cm hlf).symm,rfl⟩;rw[qw hI];exact⟨(acy _ _).trans (acy _ _),ad5 _⟩
  ·rw[fin1 (.inr ⟨rfl,aa4 (by omega)⟩)];refine⟨_,_,.refl _,?_,(cm hlf).symm,rfl⟩;rw[qw hI];exact⟨(acy _ _).trans (acy _ _),ad5 _⟩
  ·have h0:n.aj=0:=afj.1 h0;have h00:¬(n.aj≠0∨true=true∧n.l=[]):=fun e=>e.elim (fun e=>e h0) fun e=>h1 (by rw[e.2];rfl);rw[if_neg h00]at hq2;rw[if_neg (fun e=>h00 (.inl e)),if_neg (fun e=>h00 (.inr e))]at hq3;replace hq1:=hq1 h00;refine JB ⟨[(b.n,[dI n.aj,dB true,.sl 1 false (n.l.map fun c=>dS c.key),.sl 2 false (n.l.map gx),.sl 5 false []])],[]⟩ [4,9] [11,13] [0,2,3,5,7,8,1,6,4,10,9,11,12,13] mx (by kernel_rfl) ?_;refine @aa _ (af ?_)
   have hone:∀k c,n.l[k]? =some c→∀S,ni S bs lw (ao true (n.l.take k) (left,ws)).2.1 (ao true (n.l.take k) (left,ws)).2.2→ab Tryz.prog w0 250 [.v (.pointer (some ⟨bs,0,none⟩)),.agg [dS c.data,dL c.an]] S (fun e S'=>e= .agg [dS c.data,dL (dE c.data c.an (ao true (n.l.take k) (left,ws)).2).1]∧S'=gS S bs lw (ao true (n.l.take (k+1)) (left,ws)).2.1 (ao true (n.l.take (k+1)) (left,ws)).2.2):=fun k c hc T hT=>by
    have hdk:=eB (q:=(left,ws)) fun c hc=>hlC c (ac5 (i:=k) hc);have hwk:=ja (q:=(left,ws)) fun c hc=>hwC c (ac5 (i:=k) hc);have htk:=fm true n.l k;have hcm:=aap hc;have htk1:=fm true n.l (k+1);have hsu:=kj (b:=true) hc;have hcn:=hn.2 c hcm;have hrc:j9 true c=if c.an=[]then need (c.data.size:Int)else 0:=rfl
    rw[j8 hc,cB];generalize ao true (n.l.take k) (left,ws)=Pk at*;obtain⟨Lk,lf,wk⟩:=Pk;simp only at hdk hwk hT;have hlfl:lf.length=left.length-gH true (n.l.take k):=by rw[hdk,acv]
    exact Uj w0 hgl bs lw c.data c.an (lf,wk) _ hT hcn.1.2.1 (by have:=hcn.1.2.2;omega) (by show lf.length≤_;omega) (by show wk.length≤_;omega) (by
     by_cases e:c.an=[]
     ·rw[if_pos e]at hrc;exact .inl (by show _≤lf.length;omega)
     ·exact .inr e) (fun x hx=>hr x (by rw[hdk]at hx;exact adk hx)) (by show lf.Nodup;rw[hdk];exact hu.sublist (ae6 _ _))
   refine⟨lK (by exact @aa _ aF),lK (by exact @aa _ aF),bC (U7 w0 bs lw left ws _ ⟨by exact @aa _ (jd @hb),ha⟩) ?_⟩;rintro _ _ ⟨rfl,rfl⟩;refine @aa _ (af ?_);have heach:=fun S h=>Xb w0 hgl bs lw n.l (left,ws) S h (by omega) hone;have hlk:(ao true n.l (left,ws)).1.length=n.l.length:=bX _ _ _;have hdk:=eB (q:=(left,ws)) hlC;have hwk:=ja (q:=(left,ws)) hwC;have hkeys:(n.l.map fun c=>dS c.key)=(ao true n.l (left,ws)).1.map fun c=>dS c.key:=(so true n.l (left,ws)).symm;generalize ao true n.l (left,ws)=Pk at*;obtain⟨Lk,lf,wk⟩:=Pk;simp only at hlk hdk hwk hq1 hq2 heach hkeys;have hlfl:lf.length=left.length-gH true n.l:=by rw[hdk,acv]
   refine⟨lK (by exact @aa _ aF),bC (heach _ ⟨by exact @aa _ (jd @hb),ha⟩) ?_⟩;rintro _ _ ⟨rfl,rfl⟩
   cases lf with
   |nil=>simp only[acL]at hlfl;omega
   |cons p lr=>
    simp only[List.headD_cons,List.tail_cons]at hq2;subst hq2;have e1:lk (up S.box bs [.acc lw wk.length,.sl 1 false ((p::lr).map dI)]) bs=some [.acc lw wk.length,.sl 1 false ((p::lr).map dI)]:=by rw[av,hb];rfl
    have e2:lk (up S.acc lw (.arr 2 (wk.map oY))) lw=some (.arr 2 (wk.map oY)):=by rw[av,ha];rfl
    have e3:lk (up S.box bs [.acc lw wk.length,.sl 1 false (lr.map dI)]) bs=some [.acc lw wk.length,.sl 1 false (lr.map dI)]:=by rw[av,hb];rfl
    simp(maxDischargeDepth:=12) (maxSteps:=1000000) -implicitDefEqProofs only[go_sem,Nat.reduceAdd,Nat.reduceSub,Nat.reduceMul,Nat.reduceLeDiff,Nat.reduceEqDiff,Nat.reduceGT,Nat.reduceBEq,reduceCtorEq,↓reduceIte,Int.reduceToNat,Int.reduceLE,Int.reduceLT,Int.reduceNe,Int.reduceEq,gS,hb,ha];refine⟨lK (by exact @aa _ aF),bC (KA w0 bs lw (p::lr) wk 1 _ ⟨by exact @aa _ (iX @hb @e1),by exact @aa _ (iX @ha @e2)⟩ (by simp) (by omega)) ?_⟩;rintro _ _ ⟨rfl,rfl⟩;simp(maxDischargeDepth:=12) (maxSteps:=1000000) -implicitDefEqProofs only[go_sem,Nat.reduceAdd,Nat.reduceSub,Nat.reduceMul,Nat.reduceLeDiff,Nat.reduceEqDiff,Nat.reduceGT,Nat.reduceBEq,reduceCtorEq,↓reduceIte,Int.reduceToNat,Int.reduceLE,Int.reduceLT,Int.reduceNe,Int.reduceEq,gS,hb,ha,hlk,aeW,afX,afM,aeM,abx,acL,aeX]
    have hent:∀S,ab Tryz.prog w0 253 [.agg [dI p,dB true,.sl 1 false (n.l.map fun c=>dS c.key),.sl 2 false (Lk.map gx),.sl 5 false []]] S (fun d S'=>d= .sl 5 false ((Lk.map (cM true)).map mV)∧S'=S):=fun S=>by
     rw[hkeys];have:=Bp w0 (.mk p true Lk) S (fun e=>by cases e) (by show Lk.length≤_;omega);rw[cm rfl]at this;exact this
    have hput:=fun S=>SZ w0 hgl true (Lk.map (cM true)) S (by rw[abv];omega) hq1.ok hq1.bN hq1.first hq1.fits hq1.many;refine aK (hent _) ?_;refine @aa _ (af ?_);refine aK (hput _) ?_;refine @aa _ (af ?_);refine Y.j4 [] [10,13] [0,1,2,3,5,7,4,6,8,9,10,11,12,13] mx (by kernel_rfl) ?_;refine @aa _ (eE @e3 @hb @ha ?_);have hm8:maxLen=9223372036854775807:=rfl;refine⟨by omega,by omega,_,_,.refl _,?_,?_,rfl⟩
    ·have e5:(wk++[(p,xS true Lk)]).length=wk.length+1:=c9;unfold gS;rw[e5,aa1];exact⟨(acy _ _).trans (acy _ _),ad5 _⟩
    ·show DV.agg [dI p,dB true,.sl 1 false (n.l.map fun c=>dS c.key),.sl 2 false (Lk.map gx),.sl 5 false []]=_;rw[hkeys];exact(cm (n:= .mk p true Lk) rfl).symm
 |succ d ih=>
  intro n q S hg hla hI ht hs h2 hf hq hu hr hp hw;have hn:=ax hg;have hlf:=hg.1;have hlen:=aT n;have hq1:=nL (q:=q) hg hla hs h2 hf hr hp;have hq2:=dD n q;have hq3:=eP hn;have hlC:=lU hn;have hwC:=tW hn;obtain⟨left,ws⟩:=q;simp only at hI hf hu hr hw hq;have hb:=hI.box;have ha:=hI.acc;rw[hlf]at hq1 hq2 hq3 hlC hwC;generalize bx n (left,ws)=R at*;have hkid:=fun c hc=>(hn.2.2 c hc).2.imp fun k h=>h.1;rw[fc hlf hkid];unfold zP;refine rz [3,6] mx Tryz.func228 rfl rfl (by kernel_rfl) ?_;refine @aa _ (ai @Tryz.ntmps228 ?_);intro b b1;have fin1:n.aj≠0∨(false=true∧n.l=[])→R=(n,(left,ws)):=fun e=>by rw[hq2,if_pos e]
  refine⟨fun h0=>?_,fun h0=>?_⟩
  ·rw[fin1 (.inl h0)];refine⟨_,_,.refl _,?_,(fc hlf hkid).symm,rfl⟩;rw[qw hI];exact⟨(acy _ _).trans (acy _ _),ad5 _⟩
  ·have h0:n.aj=0:=afj.1 h0;have h00:¬(n.aj≠0∨false=true∧n.l=[]):=fun e=>e.elim (fun e=>e h0) fun e=>by cases e.1
   rw[if_neg h00]at hq2;rw[if_neg (fun e=>h00 (.inl e)),if_neg (fun e=>h00 (.inr e))]at hq3;replace hq1:=hq1 h00;refine JB ⟨[(b.n,[dI n.aj,dB false,.sl 1 false (n.l.map fun c=>dS c.key),.sl 2 false [],.sl 5 false (dK n.l)])],[]⟩ [4,9] [11,13] [0,2,3,5,7,8,1,6,4,10,9,11,12,13] mx (by kernel_rfl) ?_;refine @aa _ (af ?_)
   have hone:∀k c,n.l[k]? =some c→∀S,ni S bs lw (ao false (n.l.take k) (left,ws)).2.1 (ao false (n.l.take k) (left,ws)).2.2→ab Tryz.prog w0 228 [.v (.pointer (some ⟨bs,0,none⟩)),eT (aB c)] S (fun e S'=>e=eT (bx (aB c) (ao false (n.l.take k) (left,ws)).2).1∧S'=gS S bs lw (ao false (n.l.take (k+1)) (left,ws)).2.1 (ao false (n.l.take (k+1)) (left,ws)).2.2):=fun k c hc T hT=>by
    have hdk:=eB (q:=(left,ws)) fun c hc=>hlC c (ac5 (i:=k) hc);have hwk:=ja (q:=(left,ws)) fun c hc=>hwC c (ac5 (i:=k) hc);have htk:=fm false n.l k;have hcm:=aap hc;have htk1:=fm false n.l (k+1);have hsu:=kj (b:=false) hc;obtain⟨hsh,_,kid,hkid,hkg,hkf⟩:=hg.2.2.cell c hcm;have hnd:=ax hkg;have htk2:=cL hcm hkid;have hrc:j9 false c=di kid:=by rw[←aO hkid];rfl
    rw[j8 hc,dj hkid,aO hkid];generalize ao false (n.l.take k) (left,ws)=Pk at*;obtain⟨Lk,lf,wk⟩:=Pk;simp only at hdk hwk hT;have hlfl:lf.length=left.length-gH false (n.l.take k):=by rw[hdk,acv]
    have hal:∀p,p∈ca kid→p∈ca n:=fun p hp=>by
     rw[fw n,hlf];exact adL _ (ad7.2 ⟨c,hcm,by rw[fK hkid];exact adL _ hp⟩)
    have hkl2:kid.leaf=true∨2≤kid.l.length:=by
     cases d with
     |zero=>exact .inl hkg.1
     |succ d=>
      refine .inr ?_;have h30:=hkf.1;have hsz:=gE hkg;unfold ah at h30 hsz
      match hm:kid.l with
      |[]=>rw[hm]at h30;simp at h30
      |[x]=>
       rw[hm]at h30 hsz;have:=hsz _ (aew aaX);simp only[aa9,adT,adb,aeQ]at h30 this;rw[if_neg (by omega)]at this;omega
      |x::y::r=>simp
    exact ih kid (lf,wk) _ hkg (by
     cases hla with|mk _ _ _ h3=>exact h3 hlf c hcm kid hkid) hT (by omega) hkf.2 hkl2 (by show _≤lf.length;omega) (by show lf.length≤_;omega) (by show lf.Nodup;rw[hdk];exact hu.sublist (ae6 _ _)) (fun x hx=>hr x (by rw[hdk]at hx;exact adk hx)) (fun p hp'=>hp p (hal p hp')) (by show wk.length+_≤_;omega)
   have heach:=fun S h=>Xf w0 hgl bs lw n.l (left,ws) S h (by omega) hkid hone;have hlk:(ao false n.l (left,ws)).1.length=n.l.length:=bX _ _ _;have hdk:=eB (q:=(left,ws)) hlC;have hwk:=ja (q:=(left,ws)) hwC;have hkeys:(n.l.map fun c=>dS c.key)=(ao false n.l (left,ws)).1.map fun c=>dS c.key:=(so false n.l (left,ws)).symm
   have hkL:∀c,c∈(ao false n.l (left,ws)).1→∃k,c.kid=[k]:=fun x hx=>by
    obtain⟨c,q',hc,rfl⟩:=iH hx;obtain⟨k,hk⟩:=hkid c hc;rw[dj hk];exact⟨_,rfl⟩
   generalize ao false n.l (left,ws)=Pk at*;obtain⟨Lk,lf,wk⟩:=Pk;simp only at hlk hdk hwk hq1 hq2 heach hkeys hkL;have hlfl:lf.length=left.length-gH false n.l:=by rw[hdk,acv]
   refine⟨lK (by exact @aa _ aF),lK (by exact @aa _ aF),bC (heach _ ⟨by exact @aa _ (jd @hb),ha⟩) ?_⟩;rintro _ _ ⟨rfl,rfl⟩;simp(maxDischargeDepth:=12) (maxSteps:=1000000) -implicitDefEqProofs only[go_sem,Nat.reduceAdd,Nat.reduceSub,Nat.reduceMul,Nat.reduceLeDiff,Nat.reduceEqDiff,Nat.reduceGT,Nat.reduceBEq,reduceCtorEq,↓reduceIte,Int.reduceToNat,Int.reduceLE,Int.reduceLT,Int.reduceNe,Int.reduceEq,gS,hb,ha];have e0:lk (up S.box bs [.acc lw wk.length,.sl 1 false (lf.map dI)]) bs=some [.acc lw wk.length,.sl 1 false (lf.map dI)]:=by rw[av,hb];rfl
   have e00:lk (up S.acc lw (.arr 2 (wk.map oY))) lw=some (.arr 2 (wk.map oY)):=by rw[av,ha];rfl
   refine⟨lK (by exact @aa _ aF),bC (VT w0 bs lw lf wk _ ⟨by exact @aa _ (iX @hb @e0),by exact @aa _ (iX @ha @e00)⟩) ?_⟩;rintro _ _ ⟨rfl,rfl⟩
   cases lf with
   |nil=>simp only[acL]at hlfl;omega
   |cons p lr=>
    simp only[List.headD_cons,List.tail_cons]at hq2;subst hq2;have e1:lk (up S.box bs [.acc lw wk.length,.sl 1 false ((p::lr).map dI)]) bs=some [.acc lw wk.length,.sl 1 false ((p::lr).map dI)]:=by rw[av,hb];rfl
    have e2:lk (up S.acc lw (.arr 2 (wk.map oY))) lw=some (.arr 2 (wk.map oY)):=by rw[av,ha];rfl
    have e3:lk (up S.box bs [.acc lw wk.length,.sl 1 false (lr.map dI)]) bs=some [.acc lw wk.length,.sl 1 false (lr.map dI)]:=by rw[av,hb];rfl
    simp(maxDischargeDepth:=12) (maxSteps:=1000000) -implicitDefEqProofs only[go_sem,Nat.reduceAdd,Nat.reduceSub,Nat.reduceMul,Nat.reduceLeDiff,Nat.reduceEqDiff,Nat.reduceGT,Nat.reduceBEq,reduceCtorEq,↓reduceIte,Int.reduceToNat,Int.reduceLE,Int.reduceLT,Int.reduceNe,Int.reduceEq,gS,hb,ha];refine⟨lK (by exact @aa _ aF),bC (KA w0 bs lw (p::lr) wk 1 _ ⟨by exact @aa _ (iX @hb @e1),by exact @aa _ (iX @ha @e2)⟩ (by simp) (by omega)) ?_⟩;rintro _ _ ⟨rfl,rfl⟩;simp(maxDischargeDepth:=12) (maxSteps:=1000000) -implicitDefEqProofs only[go_sem,Nat.reduceAdd,Nat.reduceSub,Nat.reduceMul,Nat.reduceLeDiff,Nat.reduceEqDiff,Nat.reduceGT,Nat.reduceBEq,reduceCtorEq,↓reduceIte,Int.reduceToNat,Int.reduceLE,Int.reduceLT,Int.reduceNe,Int.reduceEq,gS,hb,ha,hlk,aeW,afX,afM,aeM,abx,acL,aeX]
    have hent:∀S,ab Tryz.prog w0 253 [.agg [dI p,dB false,.sl 1 false (n.l.map fun c=>dS c.key),.sl 2 false [],.sl 5 false (dK Lk)]] S (fun d S'=>d= .sl 5 false ((Lk.map (cM false)).map mV)∧S'=S):=fun S=>by
     rw[hkeys];have:=Bp w0 (.mk p false Lk) S (fun _=>hkL) (by show Lk.length≤_;omega);rw[fc (n:= .mk p false Lk) rfl hkL]at this;unfold zP at this;exact this
    have hput:=fun S=>SZ w0 hgl false (Lk.map (cM false)) S (by rw[abv];omega) hq1.ok hq1.bN hq1.first hq1.fits hq1.many;refine aK (hent _) ?_;refine @aa _ (af ?_);refine aK (hput _) ?_;refine @aa _ (af ?_);refine Y.j4 [] [10,13] [0,1,2,3,5,7,4,6,8,9,10,11,12,13] mx (by kernel_rfl) ?_;refine @aa _ (eE @e3 @hb @ha ?_);have hm8:maxLen=9223372036854775807:=rfl;refine⟨by omega,by omega,_,_,.refl _,?_,?_,rfl⟩
    ·have e5:(wk++[(p,xS false Lk)]).length=wk.length+1:=c9;unfold gS;rw[e5,aa1];exact⟨(acy _ _).trans (acy _ _),ad5 _⟩
    ·show DV.agg [dI p,dB false,.sl 1 false (n.l.map fun c=>dS c.key),.sl 2 false [],.sl 5 false (dK Lk)]=_;rw[hkeys];exact(fc (n:= .mk p false Lk) rfl hkL).symm
theorem XW(w0:W0):∀(d:Nat) (n:N) (lo hi:ByteArray) (r:Bool) (S:St),Good d n→bA n≤131072→d≤100000→(ah n).sum≤122→(r=true∨30≤(ah n).sum)→n.l≠[]→(n.leaf=true∨2≤n.l.length)→(∀x,x∈du n→kL lo x.key=true)→(hi≠aN→∀x,x∈du n→cC x.key hi=true)→
 ab Tryz.prog w0 232 [eN n,dS lo,dS hi,dB r] S (fun e S'=>e=dI d∧S'=S):=by
 intro d
 induction d with
 |zero=>
  intro n lo hi r S hg ht hd hsum hr hne h2 hlo hhi;have hn:=ax hg;have hlen:=aT n;have hlf:=hg.1;have hsm:=oq hn;have hk:=l8 hg hlo hhi;rw[hlf]at hk;have hv:=AD hg;have hsz:=fun S=>rN w0 n S hsm (by omega);have hbd:=fp n hsm (by omega);have hpos:=ad9.2 hne
  have hlow:r=false→wK (ah n)=false:=fun e=>decide_eq_false (by rcases hr with h|h;· rw[e]at h;cases h
                                                                ·omega)
  have hen:eN n= .agg [dI n.aj,dB true,.sl 4 false (n.l.map dC)]:=by unfold eN;rw[hlf]
  rw[hen]at hsz ⊢;refine aJ [2,9,10] mx Tryz.func232 rfl rfl (by kernel_rfl) ?_;refine @aa _ (ai @Tryz.ntmps232 ?_);intro b;refine ae (hsz _) ?_;refine @aa _ (af ?_);refine rB (σ:=Unit) [9,10] [1,2,3,4,9,46] (fun _=>[(46,dB false)]) (fun _=>⟨(b.n,[dI n.aj,dB true,.sl 4 false (n.l.map dC)])::S.box,S.acc⟩) (fun _=>True) mx (by kernel_rfl) ?_ ?_
  ·refine @aa _ (af ?_);refine⟨fun h=>absurd h (by omega),fun _=>ae (Hg w0 _ _ hbd) ?_⟩;refine @aa _ (af ?_);refine⟨fun h=>absurd h (by omega),fun _=>⟨fun hrf=>ae (Wo w0 _ _ hbd) ?_,fun hrt=>?_⟩⟩
   ·rw[hlow hrf];refine @aa _ (af ?_);exact⟨(),trivial⟩
   ·exact⟨(),trivial⟩
  ·intro _ _;refine @aa _ (af ?_);refine aw [9,10] n.l.length [1,2,4,10,11] (fun k=>[(10,dI 0),(11,dI k)]) (fun k=>⟨(b.n,[dI n.aj,dB true,.sl 4 false (n.l.map dC)])::S.box,S.acc⟩) (fun _=>True) mx (by kernel_rfl) ?_ ?_
   ·exact @aa _ aF
   ·intro k hk' _;refine @aa _ (af ?_);refine fun hlt=>⟨hlt,fun a ha b2=>?_⟩;have hm:=aap ha;have f1:eF a.key {data:= #[]}=false:=bF.2 fun e=>(by have:=((hk.first k a ha).1 e).2;cases this);have f2:((a.key.size:Int)>16)=False:=eq_false (by have:=hk.size a hm;omega);have f3:cC a.key lo=false:=fR.1 (hk.low k a ha fun e=>by cases e.2);have f4:eF hi {data:= #[]}=false→cC a.key hi=false→False:=fun e h=>by rw[hk.high (bF.1 e) a hm]at h;cases h
    have f5:=aZ k (by omega);have f6:((a.data.size:Int)>400)=False:=eq_false (by have h1:a.data.size≤400:=(hv a hm).1;omega);have f7:a.kid=[]:=(hn.2 a hm).2
    have f8:((a.an.length:Int)>0)→need (a.data.size:Int)≠0:=fun h=>by
     have h1:a.an≠[]:=fun e=>by rw[e]at h;simp at h
     have:=(hv a hm).2 h1;have h2:a.data.size≤400:=(hv a hm).1;unfold need;rw[if_pos (by omega)];omega
    refine rB (σ:=Unit) [10] [1,2,4,10,11,12,13] (fun _=>[(13,dB false)]) (fun _=>⟨(b2.n,[dS a.key,dS a.data,.sl 1 false (a.an.map dI),.sl 3 false []])::(b.n,[dI n.aj,dB true,.sl 4 false (n.l.map dC)])::S.box,S.acc⟩) (fun _=>True) mx (by kernel_rfl) ?_ ?_
    ·refine @aa _ (ai @f7 ?_);exact⟨fun _=>⟨(),trivial⟩,fun _=>⟨(),trivial⟩⟩
    ·intro _ _;refine @aa _ (af ?_);refine rB (σ:=Unit) [] [1,2,4,10,11,12,13,143] (fun _=>[(143,dB false)]) (fun _=>⟨(b2.n,[dS a.key,dS a.data,.sl 1 false (a.an.map dI),.sl 3 false []])::(b.n,[dI n.aj,dB true,.sl 4 false (n.l.map dC)])::S.box,S.acc⟩) (fun _=>True) mx (by kernel_rfl) ?_ ?_
     ·rcases aeG k with h0|h0 <;>cases he:eF hi {data:= #[]} <;>rcases aeG a.an.length with hp|hp
      ·have z2:((k:Int)>0)=False:=eq_false (by omega);have h9:cC a.key hi=true:=hk.high (bF.1 he) a hm;have p1:((a.an.length:Int)>0)=False:=eq_false (by omega);simp(maxDischargeDepth:=12) (maxSteps:=1000000) -implicitDefEqProofs only[go_sem,Nat.reduceAdd,Nat.reduceSub,Nat.reduceMul,Nat.reduceLeDiff,Nat.reduceEqDiff,Nat.reduceGT,Nat.reduceBEq,reduceCtorEq,↓reduceIte,Int.reduceToNat,Int.reduceLE,Int.reduceLT,Int.reduceNe,Int.reduceEq,f1,f2,f3,f5,f6,p1,he,hlt,z2,h9];exact⟨(),trivial⟩
      ·have z2:((k:Int)>0)=False:=eq_false (by omega);have h9:cC a.key hi=true:=hk.high (bF.1 he) a hm;have p1:((a.an.length:Int)>0)=True:=eq_true (by omega);simp(maxDischargeDepth:=12) (maxSteps:=1000000) -implicitDefEqProofs only[go_sem,Nat.reduceAdd,Nat.reduceSub,Nat.reduceMul,Nat.reduceLeDiff,Nat.reduceEqDiff,Nat.reduceGT,Nat.reduceBEq,reduceCtorEq,↓reduceIte,Int.reduceToNat,Int.reduceLE,Int.reduceLT,Int.reduceNe,Int.reduceEq,f1,f2,f3,f5,f6,p1,he,hlt,z2,h9];refine aK (sP w0 _ _) ?_;refine @aa _ (af ?_);exact⟨fun h=>absurd h (by have:=f8 (by omega);omega),fun _=>⟨(),trivial⟩⟩
      ·have z2:((k:Int)>0)=False:=eq_false (by omega);have p1:((a.an.length:Int)>0)=False:=eq_false (by omega);simp(maxDischargeDepth:=12) (maxSteps:=1000000) -implicitDefEqProofs only[go_sem,Nat.reduceAdd,Nat.reduceSub,Nat.reduceMul,Nat.reduceLeDiff,Nat.reduceEqDiff,Nat.reduceGT,Nat.reduceBEq,reduceCtorEq,↓reduceIte,Int.reduceToNat,Int.reduceLE,Int.reduceLT,Int.reduceNe,Int.reduceEq,f1,f2,f3,f5,f6,p1,he,hlt,z2];exact⟨(),trivial⟩
      ·have z2:((k:Int)>0)=False:=eq_false (by omega);have p1:((a.an.length:Int)>0)=True:=eq_true (by omega);simp(maxDischargeDepth:=12) (maxSteps:=1000000) -implicitDefEqProofs only[go_sem,Nat.reduceAdd,Nat.reduceSub,Nat.reduceMul,Nat.reduceLeDiff,Nat.reduceEqDiff,Nat.reduceGT,Nat.reduceBEq,reduceCtorEq,↓reduceIte,Int.reduceToNat,Int.reduceLE,Int.reduceLT,Int.reduceNe,Int.reduceEq,f1,f2,f3,f5,f6,p1,he,hlt,z2];refine aK (sP w0 _ _) ?_;refine @aa _ (af ?_);exact⟨fun h=>absurd h (by have:=f8 (by omega);omega),fun _=>⟨(),trivial⟩⟩
      ·have z2:((k:Int)>0)=True:=eq_true (by omega);have z3:IntKind.i64.wrap ((k:Int)-1)=((k-1:Nat):Int):=by rw[aG (by omega) (by omega)];omega
       obtain⟨c0,hc0⟩:∃c0,n.l[k-1]? =some c0:=⟨_,aay (by omega)⟩;have z4:kL a.key c0.key=false:=iy.2 (ln hk.bN (i:=k-1) (j:=k) (by omega) hc0 ha);have h9:cC a.key hi=true:=hk.high (bF.1 he) a hm;have p1:((a.an.length:Int)>0)=False:=eq_false (by omega);simp(maxDischargeDepth:=12) (maxSteps:=1000000) -implicitDefEqProofs only[go_sem,Nat.reduceAdd,Nat.reduceSub,Nat.reduceMul,Nat.reduceLeDiff,Nat.reduceEqDiff,Nat.reduceGT,Nat.reduceBEq,reduceCtorEq,↓reduceIte,Int.reduceToNat,Int.reduceLE,Int.reduceLT,Int.reduceNe,Int.reduceEq,f1,f2,f3,f5,f6,p1,he,hlt,z2,z3,h9];refine⟨by omega,fun c1 hc1=>?_⟩;cases aC hc0 hc1;exact⟨fun h=>(by rw[z4]at h;cases h),fun _=>⟨(),trivial⟩⟩
      ·have z2:((k:Int)>0)=True:=eq_true (by omega);have z3:IntKind.i64.wrap ((k:Int)-1)=((k-1:Nat):Int):=by rw[aG (by omega) (by omega)];omega
       obtain⟨c0,hc0⟩:∃c0,n.l[k-1]? =some c0:=⟨_,aay (by omega)⟩;have z4:kL a.key c0.key=false:=iy.2 (ln hk.bN (i:=k-1) (j:=k) (by omega) hc0 ha);have h9:cC a.key hi=true:=hk.high (bF.1 he) a hm;have p1:((a.an.length:Int)>0)=True:=eq_true (by omega);simp(maxDischargeDepth:=12) (maxSteps:=1000000) -implicitDefEqProofs only[go_sem,Nat.reduceAdd,Nat.reduceSub,Nat.reduceMul,Nat.reduceLeDiff,Nat.reduceEqDiff,Nat.reduceGT,Nat.reduceBEq,reduceCtorEq,↓reduceIte,Int.reduceToNat,Int.reduceLE,Int.reduceLT,Int.reduceNe,Int.reduceEq,f1,f2,f3,f5,f6,p1,he,hlt,z2,z3,h9];refine⟨by omega,fun c1 hc1=>?_⟩;cases aC hc0 hc1;refine⟨fun h=>(by rw[z4]at h;cases h),fun _=>aK (sP w0 _ _) ?_⟩;refine @aa _ (af ?_);exact⟨fun h=>absurd h (by have:=f8 (by omega);omega),fun _=>⟨(),trivial⟩⟩
      ·have z2:((k:Int)>0)=True:=eq_true (by omega);have z3:IntKind.i64.wrap ((k:Int)-1)=((k-1:Nat):Int):=by rw[aG (by omega) (by omega)];omega
       obtain⟨c0,hc0⟩:∃c0,n.l[k-1]? =some c0:=⟨_,aay (by omega)⟩;have z4:kL a.key c0.key=false:=iy.2 (ln hk.bN (i:=k-1) (j:=k) (by omega) hc0 ha);have p1:((a.an.length:Int)>0)=False:=eq_false (by omega);simp(maxDischargeDepth:=12) (maxSteps:=1000000) -implicitDefEqProofs only[go_sem,Nat.reduceAdd,Nat.reduceSub,Nat.reduceMul,Nat.reduceLeDiff,Nat.reduceEqDiff,Nat.reduceGT,Nat.reduceBEq,reduceCtorEq,↓reduceIte,Int.reduceToNat,Int.reduceLE,Int.reduceLT,Int.reduceNe,Int.reduceEq,f1,f2,f3,f5,f6,p1,he,hlt,z2,z3];refine⟨by omega,fun c1 hc1=>?_⟩;cases aC hc0 hc1;exact⟨fun h=>(by rw[z4]at h;cases h),fun _=>⟨(),trivial⟩⟩
      ·have z2:((k:Int)>0)=True:=eq_true (by omega);have z3:IntKind.i64.wrap ((k:Int)-1)=((k-1:Nat):Int):=by rw[aG (by omega) (by omega)];omega
       obtain⟨c0,hc0⟩:∃c0,n.l[k-1]? =some c0:=⟨_,aay (by omega)⟩;have z4:kL a.key c0.key=false:=iy.2 (ln hk.bN (i:=k-1) (j:=k) (by omega) hc0 ha);have p1:((a.an.length:Int)>0)=True:=eq_true (by omega);simp(maxDischargeDepth:=12) (maxSteps:=1000000) -implicitDefEqProofs only[go_sem,Nat.reduceAdd,Nat.reduceSub,Nat.reduceMul,Nat.reduceLeDiff,Nat.reduceEqDiff,Nat.reduceGT,Nat.reduceBEq,reduceCtorEq,↓reduceIte,Int.reduceToNat,Int.reduceLE,Int.reduceLT,Int.reduceNe,Int.reduceEq,f1,f2,f3,f5,f6,p1,he,hlt,z2,z3];refine⟨by omega,fun c1 hc1=>?_⟩;cases aC hc0 hc1;refine⟨fun h=>(by rw[z4]at h;cases h),fun _=>aK (sP w0 _ _) ?_⟩;refine @aa _ (af ?_);exact⟨fun h=>absurd h (by have:=f8 (by omega);omega),fun _=>⟨(),trivial⟩⟩
     ·intro _ _;refine @aa _ (af ?_);exact⟨hlt,f5⟩
 |succ d ih=>
  intro n lo hi r S hg ht hd hsum hr hne h2 hlo hhi;have hn:=ax hg;have hlen:=aT n;have hlf:=hg.1;have hsm:=oq hn;have hk:=l8 hg hlo hhi;rw[hlf]at hk;have hsz:=fun S=>rN w0 n S hsm (by omega);have hbd:=fp n hsm (by omega);have hpos:=h2.resolve_left (by rw[hlf];simp)
  have hlow:r=false→wK (ah n)=false:=fun e=>decide_eq_false (by rcases hr with h|h;· rw[e]at h;cases h
                                                                ·omega)
  have hen:eN n= .agg [dI n.aj,dB false,.sl 4 false (n.l.map dC)]:=by unfold eN;rw[hlf]
  rw[hen]at hsz ⊢;have hB:=hg.2.2
  have hkid:∀(k:Nat) c kd,n.l[k]? =some c→c.kid=[kd]→∀lo' hi',(if k=0 then lo'=lo else lo'=c.key)→(match n.l[k+1]? with
   |some c'=>hi'=c'.key
   |none=>hi'=hi)→∀T,ab Tryz.prog w0 232 [eN kd,dS lo',dS hi',dB false] T (fun e S'=>e=dI d∧S'=T):=by
   intro k c kd hc hkid lo' hi' hl' hh' T;have hcm:=aap hc;obtain⟨s1,s2,kd2,hkid2,hkg,hkf⟩:=hB.cell c hcm;rw[hkid]at hkid2;cases hkid2;have htk:=cL hcm hkid;have hin:∀x,x∈du kd→x∈du n:=fun x hx=>by rw[cQ,hlf];exact ad7.2 ⟨c,hcm,by rw[bB hkid];exact hx⟩
   refine ih kd lo' hi' false T hkg (by omega) (by omega) hkf.2 (.inr hkf.1) (oM hkf) (qn hkg hkf) (fun x hx=>?_) fun hne' x hx=>?_
   ·split at hl'
    ·rw[hl'];exact hlo x (hin x hx)
    ·rw[hl'];exact s2 x (by rw[bB hkid];exact hx)
   ·split at hh'
    ·rename_i c' hc';obtain⟨q1,rfl⟩:=aaq.1 hc;obtain⟨q2,rfl⟩:=aaq.1 hc';rw[hh'];exact(adQ.1 hB.pw k (k+1) q1 q2 (by omega)).2 x (by rw[bB hkid];exact hx)
    ·rw[hh']at hne' ⊢;exact hhi hne' x (hin x hx)
  refine aJ [2,9,10] mx Tryz.func232 rfl rfl (by kernel_rfl) ?_;refine @aa _ (ai @Tryz.ntmps232 ?_);intro b;refine ae (hsz _) ?_;refine @aa _ (af ?_);refine rB (σ:=Unit) [9,10] [1,2,3,4,9,46] (fun _=>[(46,dB false)]) (fun _=>⟨(b.n,[dI n.aj,dB false,.sl 4 false (n.l.map dC)])::S.box,S.acc⟩) (fun _=>True) mx (by kernel_rfl) ?_ ?_
  ·refine @aa _ (af ?_);refine⟨fun h=>absurd h (by omega),fun _=>⟨fun h=>absurd h (by omega),fun _=>ae (Hg w0 _ _ hbd) ?_⟩⟩;refine @aa _ (af ?_);refine⟨fun h=>absurd h (by omega),fun _=>⟨fun hrf=>ae (Wo w0 _ _ hbd) ?_,fun hrt=>?_⟩⟩
   ·rw[hlow hrf];refine @aa _ (af ?_);exact⟨(),trivial⟩
   ·exact⟨(),trivial⟩
  ·intro _ _;refine @aa _ (af ?_);refine aw [9,10] n.l.length [1,2,4,10,11] (fun k=>[(10,dI (if k=0 then 0 else(d+1:Nat))),(11,dI k)]) (fun k=>⟨(b.n,[dI n.aj,dB false,.sl 4 false (n.l.map dC)])::S.box,S.acc⟩) (fun _=>True) mx (by kernel_rfl) ?_ ?_
   ·exact @aa _ aF
   ·intro k hk' _;refine @aa _ (af ?_);refine⟨fun hlt=>⟨hlt,fun a ha b2=>?_⟩,fun hge=>if_neg (by omega)⟩;have hm:=aap ha;obtain⟨⟨s1,s2,s3⟩, -,kd,hkd,hkg, -⟩:=hB.cell a hm;have hK:=hkid k a kd ha hkd;have f2:((a.key.size:Int)>16)=False:=eq_false (by have:=hk.size a hm;omega);have f5:=aZ k (by omega);have f6:(((aN.size:Nat):Int)>400)=False:=eq_false (by rw[bk];omega);rw[hkd,s2,s3];have p0:((0:Int)>0)=False:=eq_false (by omega);refine rB (σ:=Unit) [10] [1,2,4,10,11,12,13] (fun _=>[(13,dB (decide (k=0)))]) (fun _=>⟨(b2.n,[dS a.key,dS aN,.sl 1 false [],.sl 3 false [eN kd]])::(b.n,[dI n.aj,dB false,.sl 4 false (n.l.map dC)])::S.box,S.acc⟩) (fun _=>True) mx (by kernel_rfl) ?_ ?_
    ·refine @aa _ (af ?_);exact⟨fun h=>⟨(),by omega⟩,fun h=>⟨(),by omega⟩⟩
    ·intro _ _;refine @aa _ (af ?_);refine rB (σ:=Unit) [] [1,2,4,10,11,12,13,143] (fun _=>[(143,dB false)]) (fun _=>⟨(b2.n,[dS a.key,dS aN,.sl 1 false [],.sl 3 false [eN kd]])::(b.n,[dI n.aj,dB false,.sl 4 false (n.l.map dC)])::S.box,S.acc⟩) (fun _=>True) mx (by kernel_rfl) ?_ ?_
     ·rcases aeG k with h0|h0 <;>cases he:eF hi {data:= #[]}
      ·have z2:((k:Int)>0)=False:=eq_false (by omega);have z5:decide (k=0)=true:=decide_eq_true h0;have f1:eF a.key {data:= #[]}=true:=bZ.2 ((hk.first k a ha).2 ⟨h0,rfl⟩);have h9:cC a.key hi=true:=hk.high (bF.1 he) a hm;simp(maxDischargeDepth:=12) (maxSteps:=1000000) -implicitDefEqProofs only[go_sem,Nat.reduceAdd,Nat.reduceSub,Nat.reduceMul,Nat.reduceLeDiff,Nat.reduceEqDiff,Nat.reduceGT,Nat.reduceBEq,reduceCtorEq,↓reduceIte,Int.reduceToNat,Int.reduceLE,Int.reduceLT,Int.reduceNe,Int.reduceEq,f2,f5,f6,p0,he,hlt,z2,z5,f1,h9];exact⟨(),trivial⟩
      ·have z2:((k:Int)>0)=False:=eq_false (by omega);have z5:decide (k=0)=true:=decide_eq_true h0;have f1:eF a.key {data:= #[]}=true:=bZ.2 ((hk.first k a ha).2 ⟨h0,rfl⟩);simp(maxDischargeDepth:=12) (maxSteps:=1000000) -implicitDefEqProofs only[go_sem,Nat.reduceAdd,Nat.reduceSub,Nat.reduceMul,Nat.reduceLeDiff,Nat.reduceEqDiff,Nat.reduceGT,Nat.reduceBEq,reduceCtorEq,↓reduceIte,Int.reduceToNat,Int.reduceLE,Int.reduceLT,Int.reduceNe,Int.reduceEq,f2,f5,f6,p0,he,hlt,z2,z5,f1];exact⟨(),trivial⟩
      ·have z2:((k:Int)>0)=True:=eq_true (by omega);have z5:decide (k=0)=false:=decide_eq_false (by omega);have f1:eF a.key {data:= #[]}=false:=bF.2 fun e=>absurd ((hk.first k a ha).1 e).1 (by omega);have f3:cC a.key lo=false:=fR.1 (hk.low k a ha fun e=>absurd e.1 (by omega));have z3:IntKind.i64.wrap ((k:Int)-1)=((k-1:Nat):Int):=by rw[aG (by omega) (by omega)];omega
       obtain⟨c0,hc0⟩:∃c0,n.l[k-1]? =some c0:=⟨_,aay (by omega)⟩;have z4:kL a.key c0.key=false:=iy.2 (ln hk.bN (i:=k-1) (j:=k) (by omega) hc0 ha);have h9:cC a.key hi=true:=hk.high (bF.1 he) a hm;simp(maxDischargeDepth:=12) (maxSteps:=1000000) -implicitDefEqProofs only[go_sem,Nat.reduceAdd,Nat.reduceSub,Nat.reduceMul,Nat.reduceLeDiff,Nat.reduceEqDiff,Nat.reduceGT,Nat.reduceBEq,reduceCtorEq,↓reduceIte,Int.reduceToNat,Int.reduceLE,Int.reduceLT,Int.reduceNe,Int.reduceEq,f2,f5,f6,p0,he,hlt,z2,z3,z5,f1,f3,h9];refine⟨by omega,fun c1 hc1=>?_⟩;cases aC hc0 hc1;exact⟨fun h=>(by rw[z4]at h;cases h),fun _=>⟨(),trivial⟩⟩
      ·have z2:((k:Int)>0)=True:=eq_true (by omega);have z5:decide (k=0)=false:=decide_eq_false (by omega);have f1:eF a.key {data:= #[]}=false:=bF.2 fun e=>absurd ((hk.first k a ha).1 e).1 (by omega);have f3:cC a.key lo=false:=fR.1 (hk.low k a ha fun e=>absurd e.1 (by omega));have z3:IntKind.i64.wrap ((k:Int)-1)=((k-1:Nat):Int):=by rw[aG (by omega) (by omega)];omega
       obtain⟨c0,hc0⟩:∃c0,n.l[k-1]? =some c0:=⟨_,aay (by omega)⟩;have z4:kL a.key c0.key=false:=iy.2 (ln hk.bN (i:=k-1) (j:=k) (by omega) hc0 ha);simp(maxDischargeDepth:=12) (maxSteps:=1000000) -implicitDefEqProofs only[go_sem,Nat.reduceAdd,Nat.reduceSub,Nat.reduceMul,Nat.reduceLeDiff,Nat.reduceEqDiff,Nat.reduceGT,Nat.reduceBEq,reduceCtorEq,↓reduceIte,Int.reduceToNat,Int.reduceLE,Int.reduceLT,Int.reduceNe,Int.reduceEq,f2,f5,f6,p0,he,hlt,z2,z3,z5,f1,f3];refine⟨by omega,fun c1 hc1=>?_⟩;cases aC hc0 hc1;exact⟨fun h=>(by rw[z4]at h;cases h),fun _=>⟨(),trivial⟩⟩
     ·intro _ _;have e1:IntKind.i64.wrap ((d:Int)+1)=((d+1:Nat):Int):=by rw[aG (by omega) (by omega)];omega
      have hf2:(if k+1=0 then(0:Int)else((d+1:Nat):Int))=((d+1:Nat):Int):=if_neg (by omega);have hk2:∀lo',(if k=0 then lo'=lo else lo'=a.key)→¬k+1<n.l.length→∀T,ab Tryz.prog w0 232 [eN kd,dS lo',dS hi,dB false] T (fun e S'=>e=dI d∧S'=T):=fun lo' h1 h2 T=>hK lo' hi h1 (by rw[ad6 (by omega)]) T;have hk1:∀lo' c,(if k=0 then lo'=lo else lo'=a.key)→n.l[k+1]? =some c→∀T,ab Tryz.prog w0 232 [eN kd,dS lo',dS c.key,dB false] T (fun e S'=>e=dI d∧S'=T):=fun lo' c h1 h2 T=>hK lo' c.key h1 (by rw[h2]) T;clear hkid hK ih;refine @aa _ (ai @f5 ?_);refine⟨fun hz=>?_,fun hp=>?_⟩
      ·have hl0:(if k=0 then lo=lo else lo=a.key):=by rw[if_pos hz]
       have z2:((k:Int)>0)=False:=eq_false (by omega);refine⟨fun h1=>⟨h1,fun c hc=>ae (hk1 lo c hl0 hc _) ?_⟩,fun h1=>ae (hk2 lo hl0 h1 _) ?_⟩
       ·refine @aa _ (rn @e1 @f5 @z2 @hf2 @hlt ?_);exact fun h=>absurd h (by omega)
       ·refine @aa _ (rn @e1 @f5 @z2 @hf2 @hlt ?_);exact fun h=>absurd h (by omega)
      ·have hl0:(if k=0 then a.key=lo else a.key=a.key):=by rw[if_neg hp]
       have z2:((k:Int)>0)=True:=eq_true (by omega);have hf:(if k=0 then(0:Int)else((d+1:Nat):Int))=((d+1:Nat):Int):=if_neg hp;refine⟨fun h1=>⟨h1,fun c hc=>ae (hk1 a.key c hl0 hc _) ?_⟩,fun h1=>ae (hk2 a.key hl0 h1 _) ?_⟩
       ·refine @aa _ (ov @e1 @f5 @z2 @hf @hf2 @hlt ?_);exact fun h=>absurd h (by omega)
       ·refine @aa _ (ov @e1 @f5 @z2 @hf @hf2 @hlt ?_);exact fun h=>absurd h (by omega)
theorem UR(w0:W0)(n:N)(S:St)(h:iT n)(hz:PZ n)(ht:∀d,Nd d n→bA n≤131072∧d≤100000):ab Tryz.prog w0 197 [eN n] S (fun e S'=>e=dB true∧S'=S):=by
 obtain⟨d,hg,hsum,h2⟩:=h;have hn:=ax hg;obtain⟨ht1,ht2⟩:=ht d hn;have hdep:=fun(hne:n.l≠[]) S=>XW w0 d n aN aN true S hg ht1 ht2 hsum (.inl rfl) hne h2 (fun x _=>nR _) (fun e=>absurd rfl e)
 have hkl:n.leaf=false→n.l≠[]:=fun e he=>by
  have:=h2.resolve_left (by rw[e];simp);rw[he]at this;simp at this
 refine aJ [] mx Tryz.func197 rfl rfl (by kernel_rfl) ?_;refine @aa _ (ai @Tryz.ntmps197 ?_);intro b;refine⟨fun hl=>⟨fun h0 hp=>absurd (hz (aa4 (by omega))) hp,fun h0=>ae (hdep (fun e=>h0 (by rw[e];rfl)) _) ?_⟩,fun hl=>ae (hdep (hkl hl) _) ?_⟩
 ·exact @aa _ aF
 ·exact @aa _ aF
structure Qi(n:N)(at_:List Int):Prop where
 tl:TL n
 lE:bA n≤131072
 dep:∀d,Nd d n→d≤100000
 len:at_.length≤1024
 fr:di n≤at_.length
 nd:(at_++ca n).Nodup
 pG:∀p,p∈at_++ca n→2≤p∧p≤999
theorem UW(w0:W0):∀(d:Nat) (n:N) (lo hi:ByteArray) (r:Bool) (S:St),Good d n→bA n≤131072→d≤100000→(ah n).sum≤122→(r=true∨30≤(ah n).sum)→n.l≠[]→(n.leaf=true∨2≤n.l.length)→(∀x,x∈du n→kL lo x.key=true)→(hi≠aN→∀x,x∈du n→cC x.key hi=true)→
 ab Tryz.prog w0 258 [eT n,.agg [dS lo,dS hi],dB r] S (fun e S'=>e=dI d∧S'=S):=by
 intro d
 induction d with
 |zero=>
  intro n lo hi r S hg ht hd hsum hr hne h2 hlo hhi;have hn:=ax hg;have hlen:=aT n;have hlf:=hg.1;have hsm:=oq hn;have hfk:=l8 hg hlo hhi;rw[hlf]at hfk;have hfit:=fun S=>XA w0 n lo hi S hlf hfk (AD hg) (by omega);have hsz:=fun S=>rH w0 n S hsm (by omega);have hbd:=fp n hsm (by omega);have hpos:=ad9.2 hne;rw[cm hlf]at*;refine aJ [] mx Tryz.func258 rfl rfl (by kernel_rfl) ?_;refine @aa _ (ai @Tryz.ntmps258 ?_);intro b b1;refine ae (hfit _) ?_;refine @aa _ (af ?_);refine⟨fun h=>absurd h (by omega),fun _=>ae (hsz _) ?_⟩;refine @aa _ (af ?_);refine ae (Od w0 _ _ hbd) ?_;refine @aa _ (af ?_)
  have hlow:r=false→wK (ah n)=false:=fun e=>decide_eq_false (by rcases hr with h|h;· rw[e]at h;cases h
                                                                ·omega)
  refine⟨fun h=>absurd h (by omega),fun _=>⟨fun hrf=>ae (hsz _) ?_,fun hrt=>?_⟩⟩
  ·refine @aa _ (af ?_);refine ae (TI w0 _ _ hbd) ?_;rw[hlow hrf];refine @aa _ (af ?_);refine aw [] 0 [3,4,8,42,43,44] (fun k=>[(8,dI 0),(44,dI k)]) (fun k=>⟨(b1.n,[dS lo,dS hi])::(b.n,[dI n.aj,dB true,.sl 1 false (n.l.map fun c=>dS c.key),.sl 2 false (n.l.map gx),.sl 5 false []])::S.box,S.acc⟩) (fun _=>True) mx (by kernel_rfl) ?_ ?_
   ·exact @aa _ aF
   ·intro k hk' _;exact @aa _ aF
  ·refine aw [] 0 [3,4,8,42,43,44] (fun k=>[(8,dI 0),(44,dI k)]) (fun k=>⟨(b1.n,[dS lo,dS hi])::(b.n,[dI n.aj,dB true,.sl 1 false (n.l.map fun c=>dS c.key),.sl 2 false (n.l.map gx),.sl 5 false []])::S.box,S.acc⟩) (fun _=>True) mx (by kernel_rfl) ?_ ?_
   ·exact @aa _ aF
   ·intro k hk' _;exact @aa _ aF
 |succ d ih=>
  intro n lo hi r S hg ht hd hsum hr hne h2 hlo hhi;have hn:=ax hg;have hlen:=aT n;have hlf:=hg.1;have hsm:=oq hn;have hfk:=l8 hg hlo hhi;have hone:=jr hn hlf;rw[hlf]at hfk;have hfit:=fun S=>YM w0 n lo hi S hlf hfk hone (by omega);have hsz:=fun S=>rH w0 n S hsm (by omega);have hbd:=fp n hsm (by omega);have hpos:=h2.resolve_left (by rw[hlf];simp);have hkn:=oR hn
  have hres:eT n= .agg [dI n.aj,dB false,.sl 1 false (n.l.map fun c=>dS c.key),.sl 2 false [],.sl 5 false ((n.l.map aB).map dT)]:=by
   show DV.agg _=_;rw[hkn,hlf];rfl
  rw[hres]at hfit hsz ⊢;clear hres
  have hlow:r=false→wK (ah n)=false:=fun e=>decide_eq_false (by rcases hr with h|h;· rw[e]at h;cases h
                                                                ·omega)
  have hB:=hg.2.2
  have hkid:∀(k:Nat) c,n.l[k]? =some c→∀lo' hi',(if k=0 then lo'=lo else lo'=c.key)→(match n.l[k+1]? with
   |some c'=>hi'=c'.key
   |none=>hi'=hi)→∀T,ab Tryz.prog w0 258 [eT (aB c),.agg [dS lo',dS hi'],dB false] T (fun e S'=>e=dI d∧S'=T):=by
   intro k c hc lo' hi' hl' hh' T;have hcm:=aap hc;obtain⟨s1,s2,kd,hkid,hkg,hkf⟩:=hB.cell c hcm;rw[aO hkid];have htk:=cL hcm hkid;have hin:∀x,x∈du kd→x∈du n:=fun x hx=>by rw[cQ,hlf];exact ad7.2 ⟨c,hcm,by rw[bB hkid];exact hx⟩
   refine ih kd lo' hi' false T hkg (by omega) (by omega) hkf.2 (.inr hkf.1) (oM hkf) (qn hkg hkf) (fun x hx=>?_) fun hne' x hx=>?_
   ·split at hl'
    ·rw[hl'];exact hlo x (hin x hx)
    ·rw[hl'];exact s2 x (by rw[bB hkid];exact hx)
   ·split at hh'
    ·rename_i c' hc';obtain⟨q1,rfl⟩:=aaq.1 hc;obtain⟨q2,rfl⟩:=aaq.1 hc';rw[hh'];exact(adQ.1 hB.pw k (k+1) q1 q2 (by omega)).2 x (by rw[bB hkid];exact hx)
    ·rw[hh']at hne' ⊢;exact hhi hne' x (hin x hx)
  refine aJ [] mx Tryz.func258 rfl rfl (by kernel_rfl) ?_;refine @aa _ (ai @Tryz.ntmps258 ?_);intro b b1;refine ae (hfit _) ?_;refine @aa _ (af ?_);refine⟨fun h=>absurd h (by omega),fun _=>ae (hsz _) ?_⟩;refine @aa _ (af ?_);refine ae (Od w0 _ _ hbd) ?_;refine @aa _ (af ?_);refine⟨fun h=>absurd h (by omega),fun _=>⟨fun hrf=>ae (hsz _) ?_,fun hrt=>?_⟩⟩
  ·refine @aa _ (af ?_);refine ae (TI w0 _ _ hbd) ?_;rw[hlow hrf];refine @aa _ (af ?_);refine aw [] n.l.length [3,4,8,42,43,44] (fun k=>[(8,dI (if k=0 then 0 else(d+1:Nat))),(44,dI k)]) (fun k=>⟨(b1.n,[dS lo,dS hi])::(b.n,[dI n.aj,dB false,.sl 1 false (n.l.map fun c=>dS c.key),.sl 2 false [],.sl 5 false ((n.l.map aB).map dT)])::S.box,S.acc⟩) (fun _=>True) mx (by kernel_rfl) ?_ ?_
   ·exact @aa _ aF
   ·intro k hk' _;refine @aa _ (af ?_);refine⟨fun hlt=>⟨hlt,fun c hc b2 b3=>?_⟩,fun hge=>?_⟩
    ·have e1:IntKind.i64.wrap ((d:Int)+1)=((d+1:Nat):Int):=by rw[aG (by omega) (by omega)];omega
     have e2:IntKind.i64.wrap ((k:Int)+1)=((k+1:Nat):Int):=aZ k (by omega);have hk2:∀lo',(if k=0 then lo'=lo else lo'=c.key)→¬((k+1:Nat):Int)<n.l.length→∀T,ab Tryz.prog w0 258 [eT (aB c),.agg [dS lo',dS hi],dB false] T (fun e S'=>e=dI d∧S'=T):=fun lo' h1 h2 T=>hkid k c hc lo' hi h1 (by rw[ad6 (by omega)]) T;have hk1:∀lo' a,(if k=0 then lo'=lo else lo'=c.key)→n.l[k+1]? =some a→∀T,ab Tryz.prog w0 258 [eT (aB c),.agg [dS lo',dS a.key],dB false] T (fun e S'=>e=dI d∧S'=T):=fun lo' a h1 h2 T=>hkid k c hc lo' a.key h1 (by rw[h2]) T;rw[e2];refine⟨fun hp=>⟨hlt,fun a ha=>?_⟩,fun hz=>?_⟩
     ·cases aC hc ha;have hl0:(if k=0 then c.key=lo else c.key=c.key):=by rw[if_neg (by omega)]
      have hf:(if k=0 then(0:Int)else((d+1:Nat):Int))=((d+1:Nat):Int):=if_neg (by omega);have hf2:(if k+1=0 then(0:Int)else((d+1:Nat):Int))=((d+1:Nat):Int):=if_neg (by omega);have z2:((k:Int)>0)=True:=eq_true hp;refine⟨fun h1=>⟨by omega,h1,fun a ha=>ae (hk1 c.key a hl0 ha _) ?_⟩,fun h1=>ae (hk2 c.key hl0 h1 _) ?_⟩
      ·refine @aa _ (ov @e1 @e2 @z2 @hf @hf2 @hlt ?_);exact fun h=>absurd h (by omega)
      ·refine @aa _ (ov @e1 @e2 @z2 @hf @hf2 @hlt ?_);exact fun h=>absurd h (by omega)
     ·have hl0:(if k=0 then lo=lo else lo=c.key):=by rw[if_pos (by omega)]
      have z2:((k:Int)>0)=False:=eq_false hz;have hf2:(if k+1=0 then(0:Int)else((d+1:Nat):Int))=((d+1:Nat):Int):=if_neg (by omega);refine⟨fun h1=>⟨by omega,h1,fun a ha=>ae (hk1 lo a hl0 ha _) ?_⟩,fun h1=>ae (hk2 lo hl0 h1 _) ?_⟩
      ·refine @aa _ (rn @e1 @e2 @z2 @hf2 @hlt ?_);exact fun h=>absurd h (by omega)
      ·refine @aa _ (rn @e1 @e2 @z2 @hf2 @hlt ?_);exact fun h=>absurd h (by omega)
    ·exact if_neg (by omega)
  ·refine aw [] n.l.length [3,4,8,42,43,44] (fun k=>[(8,dI (if k=0 then 0 else(d+1:Nat))),(44,dI k)]) (fun k=>⟨(b1.n,[dS lo,dS hi])::(b.n,[dI n.aj,dB false,.sl 1 false (n.l.map fun c=>dS c.key),.sl 2 false [],.sl 5 false ((n.l.map aB).map dT)])::S.box,S.acc⟩) (fun _=>True) mx (by kernel_rfl) ?_ ?_
   ·exact @aa _ aF
   ·intro k hk' _;refine @aa _ (af ?_);refine⟨fun hlt=>⟨hlt,fun c hc b2 b3=>?_⟩,fun hge=>?_⟩
    ·have e1:IntKind.i64.wrap ((d:Int)+1)=((d+1:Nat):Int):=by rw[aG (by omega) (by omega)];omega
     have e2:IntKind.i64.wrap ((k:Int)+1)=((k+1:Nat):Int):=aZ k (by omega);have hk2:∀lo',(if k=0 then lo'=lo else lo'=c.key)→¬((k+1:Nat):Int)<n.l.length→∀T,ab Tryz.prog w0 258 [eT (aB c),.agg [dS lo',dS hi],dB false] T (fun e S'=>e=dI d∧S'=T):=fun lo' h1 h2 T=>hkid k c hc lo' hi h1 (by rw[ad6 (by omega)]) T;have hk1:∀lo' a,(if k=0 then lo'=lo else lo'=c.key)→n.l[k+1]? =some a→∀T,ab Tryz.prog w0 258 [eT (aB c),.agg [dS lo',dS a.key],dB false] T (fun e S'=>e=dI d∧S'=T):=fun lo' a h1 h2 T=>hkid k c hc lo' a.key h1 (by rw[h2]) T;rw[e2];refine⟨fun hp=>⟨hlt,fun a ha=>?_⟩,fun hz=>?_⟩
     ·cases aC hc ha;have hl0:(if k=0 then c.key=lo else c.key=c.key):=by rw[if_neg (by omega)]
      have hf:(if k=0 then(0:Int)else((d+1:Nat):Int))=((d+1:Nat):Int):=if_neg (by omega);have hf2:(if k+1=0 then(0:Int)else((d+1:Nat):Int))=((d+1:Nat):Int):=if_neg (by omega);have z2:((k:Int)>0)=True:=eq_true hp;refine⟨fun h1=>⟨by omega,h1,fun a ha=>ae (hk1 c.key a hl0 ha _) ?_⟩,fun h1=>ae (hk2 c.key hl0 h1 _) ?_⟩
      ·refine @aa _ (ov @e1 @e2 @z2 @hf @hf2 @hlt ?_);exact fun h=>absurd h (by omega)
      ·refine @aa _ (ov @e1 @e2 @z2 @hf @hf2 @hlt ?_);exact fun h=>absurd h (by omega)
     ·have hl0:(if k=0 then lo=lo else lo=c.key):=by rw[if_pos (by omega)]
      have z2:((k:Int)>0)=False:=eq_false hz;have hf2:(if k+1=0 then(0:Int)else((d+1:Nat):Int))=((d+1:Nat):Int):=if_neg (by omega);refine⟨fun h1=>⟨by omega,h1,fun a ha=>ae (hk1 lo a hl0 ha _) ?_⟩,fun h1=>ae (hk2 lo hl0 h1 _) ?_⟩
      ·refine @aa _ (rn @e1 @e2 @z2 @hf2 @hlt ?_);exact fun h=>absurd h (by omega)
      ·refine @aa _ (rn @e1 @e2 @z2 @hf2 @hlt ?_);exact fun h=>absurd h (by omega)
    ·exact if_neg (by omega)
theorem UY(w0:W0)(n:N)(S:St)(h:iT n)(hz:PZ n)(ht:∀d,Nd d n→bA n≤131072∧d≤100000):ab Tryz.prog w0 247 [eT n] S (fun e S'=>e=dB true∧S'=S):=by
 obtain⟨d,hg,hsum,h2⟩:=h;have hn:=ax hg;obtain⟨ht1,ht2⟩:=ht d hn;have hdep:=fun(hne:n.l≠[]) S=>UW w0 d n aN aN true S hg ht1 ht2 hsum (.inl rfl) hne h2 (fun x _=>nR _) (fun e=>absurd rfl e);have hlen:=aT n
 have hkl:n.leaf=false→n.l≠[]:=fun e he=>by
  have:=h2.resolve_left (by rw[e];simp);rw[he]at this;simp at this
 cases hlf:n.leaf with
 |true=>
  rw[cm hlf]at*;refine aJ [] mx Tryz.func247 rfl rfl (by kernel_rfl) ?_;refine @aa _ (ai @Tryz.ntmps247 ?_);intro b;have hfin:(n.aj=0→¬n.l=[])→n.l≠[]:=fun h e=>h (hz e) e;refine⟨fun hp hw=>?_,fun hp=>?_⟩
  ·have hne:n.l≠[]:=fun e=>hw (by rw[e];rfl);refine ae (hdep hne _) ?_;exact @aa _ aF
  ·refine ae (hdep (fun e=>hp (hz e)) _) ?_;exact @aa _ aF
 |false=>
  refine aJ [] mx Tryz.func247 rfl rfl (by kernel_rfl) ?_;refine @aa _ (aM @Tryz.ntmps247 @hlf ?_);intro b;refine ae (hdep (hkl hlf) _) ?_ ⟨?_,.refl _,.refl _,trivial⟩
  ·exact @aa _ aF
  ·exact @aa _ (jd @hlf)
structure xf(n:N):Prop where
 tl:TL n
 lE:bA n≤131072
 dep:∀d,Nd d n→d≤100000
def ng(n:N)(at_:List Int):Prop:=(at_++ca n).Nodup∧(∀p,p∈at_++ca n→2≤p∧p≤999)∧di n≤at_.length
noncomputable def o6(n:N)(at_:List Int):Bool:=@decide (ng n at_) (Classical.propDecidable _)
theorem nB{n:N}{at_:List Int}(h:ng n at_):o6 n at_=true:=@decide_eq_true _ (Classical.propDecidable _) h
theorem lN{n:N}{at_:List Int}(h:¬ng n at_):o6 n at_=false:=@decide_eq_false _ (Classical.propDecidable _) h
theorem Qi.of{n:N}{at_:List Int}(h:xf n)(hl:at_.length≤1024)(hm:ng n at_):Qi n at_:=⟨h.tl,h.lE,h.dep,hl,hm.2.2,hm.1,hm.2.1⟩
theorem Md{L:List Int}(hs:L.Pairwise (·≤·))(h:∀(j:Nat) x,L[j]? =some x→(2≤x∧x≤999)∧∀y,0<j→L[j-1]? =some y→x≠y):L.Nodup∧∀p,p∈L→2≤p∧p≤999:=by
 refine⟨?_,fun p hp=>?_⟩
 ·have:L.Pairwise (·<·):=by
   rw[adQ];intro i j hi hj hij;have h1:=(h j _ (aay hj)).2 L[j-1] (by omega) (aay (by omega));have h2:L[j-1]≤L[j]:=adQ.1 hs _ _ (by omega) hj (by omega)
   have h3:L[i]≤L[j-1]:=by
    by_cases e:i=j-1
    ·subst e;exact afE _
    ·exact adQ.1 hs _ _ hi (by omega) (by omega)
   omega
  exact this.imp fun{a b} h=>by omega
 ·obtain⟨j,hj⟩:=adX.1 hp;exact(h j p hj).1
theorem Ql{l:List Int}(h:l.Nodup)(hr:∀p,p∈l→2≤p∧p≤999):l.length≤998:=by
 have hp:=bO l;have hs:(bE l).Pairwise (·<·):=List.Pairwise.imp (R:=fun x y=>x≤y∧x≠y) (fun h=>by omega) ((n9 l).and (hp.nodup_iff.2 h));have hr2:∀p,p∈bE l→2≤p∧p≤999:=fun p hp'=>hr p (hp.mem_iff.1 hp');rw[←hp.length_eq];generalize bE l=L at*
 have:∀i (hi:i<L.length),(2+i:Int)≤L[i]:=fun i=>by
  induction i with
  |zero=>intro hi;have:=(hr2 L[0] (List.getElem_mem _)).1;omega
  |succ i ih=>
   intro hi;have h1:=ih (by omega);have h2:=adQ.1 hs i (i+1) (by omega) hi (by omega);omega
 rcases aeG L.length with q|q
 ·omega
 ·have h1:=this (L.length-1) (by omega);have h2:=(hr2 L[L.length-1] (List.getElem_mem _)).2;omega
theorem ng.len{n:N}{at_:List Int}(h:ng n at_):at_.length≤998:=Ql (ad2.1 h.1).1 fun p hp=>h.2.1 p (adH _ hp)
theorem Yu(w0:W0)(n:N)(at_:List Int)(S:St)(h:xf n)(hln:at_.length≤1100):ab Tryz.prog w0 226 [eT n,dL at_] S (fun d S'=>d=dB (o6 n at_)∧S'=S):=by
 obtain⟨d,hn⟩:=sT h.tl;have hfine:Sf n:=⟨d,hn,h.lE⟩;have hpg:=fun S=>M9 w0 n S hfine;rw[Ea hn]at hpg;have hck:=fun S=>UY w0 n S h.tl.root h.tl.pz fun d hd=>⟨h.lE,h.dep d hd⟩;have hfs:=fun S=>MT w0 n S hfine;have hal:=rR hn;have ht:=h.lE;have hp:(at_++bE (ca n)).Perm (at_++ca n):=afx _ (bO _);have hfl:flat [at_,bE (ca n)]=at_++bE (ca n):=by simp[flat]
 have hlen:(at_++bE (ca n)).length=at_.length+(ca n).length:=by rw[hp.length_eq,c9]
 have hcc:=fun S=>concat w0 [at_,bE (ca n)] S (by simp) (by rw[hfl,hlen];omega);rw[hfl]at hcc;have hsp:(bE (at_++bE (ca n))).Perm (at_++ca n):=(bO _).trans hp;have hup:=n9 (at_++bE (ca n));have hll:(bE (at_++bE (ca n))).length=at_.length+(ca n).length:=by rw[hsp.length_eq,c9]
 have hso:∀(l:Nat) (S:St),lk S.acc l=some (.arr 1 ((at_++bE (ca n)).map dI))→ab Tryz.prog w0 51 [.acc l (at_.length+(ca n).length)] S (fun d S'=>d= .bM []∧S'=⟨S.box,up S.acc l (.arr 1 ((bE (at_++bE (ca n))).map dI))⟩):=fun l S hl=>by
  have:=nw w0 hl (by rw[hlen];omega);rw[hlen]at this;exact this
 rw[hlen]at hcc;generalize bE (at_++bE (ca n))=L at*;generalize at_++bE (ca n)=M at*;generalize hA:bE (ca n)=A at*
 have hb1:(∀(j:Nat) x,L[j]? =some x→(2≤x∧x≤999)∧∀y,0<j→L[j-1]? =some y→x≠y)→di n≤at_.length→o6 n at_=true:=fun q1 q2=>nB (by
  obtain⟨z1,z2⟩:=Md hup q1;exact⟨hsp.nodup_iff.1 z1,fun p hp=>z2 p (hsp.mem_iff.2 hp),q2⟩)
 have hb2:∀x,x∈L→¬(2≤x∧x≤999)→o6 n at_=false:=fun x hx q=>lN fun c=>q (c.2.1 x (hsp.mem_iff.1 hx))
 have hb3:∀(j:Nat) x,0<j→L[j]? =some x→L[j-1]? =some x→o6 n at_=false:=fun j x h0 h1 h2=>lN fun c=>by
  have:=hsp.nodup_iff.2 c.1;obtain⟨u1,e1⟩:=aaq.1 h1;obtain⟨u2,e2⟩:=aaq.1 h2;exact(adQ.1 this) (j-1) j u2 u1 (by omega) (e2.trans e1.symm)
 have hb4:¬di n≤at_.length→o6 n at_=false:=fun q=>lN fun c=>q c.2.2;generalize o6 n at_=R at*;refine aJ [] mx Tryz.func226 rfl rfl (by kernel_rfl) ?_;refine @aa _ (ai @Tryz.ntmps226 ?_);intro b;refine ae (hpg _) ?_;refine @aa _ (af ?_);refine bC (hcc _) ?_ (.cons (Wk.full _ _ _) .nil);rintro _ _ ⟨la,rfl,rfl⟩;refine @aa _ (af ?_);refine .inl (bC (hso la.n ⟨_,(la.n,.arr 1 (M.map dI))::S.acc⟩ (by simp[lk])) ?_);rintro _ _ ⟨rfl,rfl⟩;refine @aa _ (af ?_);refine aw [] L.length [1,2,5,15,16,17] (fun k=>[(17,dI k)]) (fun _=>⟨(b.n,[dI n.aj,dB n.leaf,.sl 1 false (n.l.map fun c=>dS c.key),.sl 2 false ((if n.leaf then n.l else []).map gx),.sl 5 false ((aV n).map dT)])::S.box,(la.n,.arr 1 (L.map dI))::S.acc⟩) (fun k=>∀(j:Nat) x,j<k→L[j]? =some x→(2≤x∧x≤999)∧∀y,0<j→L[j-1]? =some y→x≠y) mx (by kernel_rfl) ?_ ?_
 ·refine @aa _ (ai @hll ?_);exact fun j x hj=>absurd hj (by omega)
 ·intro k hk hinv
  have hstep:∀a,L[k]? =some a→¬a<2→¬a>999→(∀y,0<k→L[k-1]? =some y→a≠y)→∀(j:Nat) x,j<k+1→L[j]? =some x→(2≤x∧x≤999)∧∀y,0<j→L[j-1]? =some y→x≠y:=fun a ha q1 q2 q3 j x hj hx=>by
   rcases Nat.lt_succ_iff_lt_or_eq.1 hj with q|q
   ·exact hinv j x q hx
   ·subst q;cases aC ha hx;exact⟨by omega,q3⟩
  refine @aa _ (ai @hll ?_);refine⟨fun hlt=>⟨hlt,hlt,fun a ha=>⟨fun q=>?_,fun q1=>⟨fun q=>?_,fun q2=>⟨fun hk0=>?_,fun hk0=>?_⟩⟩⟩⟩,fun hge=>?_⟩
  ·rw[hb2 a (aap ha) (by omega)]
  ·rw[hb2 a (aap ha) (by omega)]
  ·have ew:IntKind.i64.wrap ((k:Int)-1)=((k-1:Nat):Int):=by rw[aG (by omega) (by omega)];omega
   rw[ew,adV];refine⟨by omega,by omega,by omega,fun a2 ha2=>⟨fun he=>?_,fun he=>⟨hlt,?_,aZ k (by omega)⟩⟩⟩
   ·subst he;rw[hb3 k a (by omega) ha ha2]
   ·exact hstep a ha q1 q2 fun y _ hy=>by cases aC ha2 hy;exact he
  ·exact⟨hlt,hstep a ha q1 q2 (fun y h0=>absurd h0 (by omega)),aZ k (by omega)⟩
  ·have hall:=fun(j:Nat) x (hx:L[j]? =some x)=>hinv j x (by have:=(aaq.1 hx).1;omega) hx;refine ae (hck _) ?_;refine @aa _ (af ?_);refine ae (hfs _) ?_;refine @aa _ (af ?_);by_cases q:di n≤at_.length
   ·rw[hb1 hall q,decide_eq_true q]
   ·rw[hb4 q,decide_eq_false q]
theorem Sl(w0:W0)(l:List Int)(S:St)(h:l.length≤1048576):ab Tryz.prog w0 227 [dL l] S (fun d S'=>d=dL l∧S'=S):=by
 refine fF (ab.mono (Gz w0 l S h) ?_);rintro d S' ⟨b,rfl,rfl⟩;exact @aa _ aF
noncomputable def DD(n:N)(at_:List Int):DV:=if o6 n at_ then .bM [eT (bx n (at_,[])).1,.sl 2 false ((bx n (at_,[])).2.2.map oY),dL (bx n (at_,[])).2.1,dB true]else .bM [eT n,.sl 0 true [],.sl 0 true [],dB false]
theorem Y5(w0:W0)(hgl:gn w0)(n:N)(at_:List Int)(S:St)(h:xf n)(hln:at_.length≤1100):ab Tryz.prog w0 181 [eT n,dL at_] S (fun d S'=>d=DD n at_∧S'=S):=by
 have hmay:=fun S=>Yu w0 n at_ S h hln;have hcl:=fun S=>Sl w0 at_ S (by omega);by_cases hm:ng n at_
 ·have hL:=Qi.of h (by have:=hm.len;omega) hm;obtain⟨d,hg,hs,h2⟩:=h.tl.root;have hfr:=hL.fr;have hln:=hL.len;have hnd:=ad2.1 hL.nd;have hlay:=fun bs lw S (hI:ni S bs lw at_ [])=>aaN w0 hgl bs lw d n (at_,[]) S hg h.tl.laid hI h.lE hs h2 hfr hln hnd.1 (fun x hx=>hL.pG x (adH _ hx)) (fun x hx=>hL.pG x (adL _ hx)) (by show 0+_≤_;omega);have e:DD n at_= .bM [eT (bx n (at_,[])).1,.sl 2 false ((bx n (at_,[])).2.2.map oY),dL (bx n (at_,[])).2.1,dB true]:=by unfold DD;rw[nB hm];rfl
  rw[e];rw[nB hm]at hmay;generalize bx n (at_,[])=R at*;refine aJ [4,5] mx Tryz.func181 rfl rfl (by kernel_rfl) ?_;refine @aa _ (ai @Tryz.ntmps181 ?_);intro b b1;refine ae (hmay _) ?_;refine @aa _ (af ?_);refine ae (hcl _) ?_;refine @aa _ (af ?_);intro b2;refine bW b2.n 0 2 (by omega) (ds:=[.sl 0 true [],.sl 1 false (at_.map dI)]) (by exact @aa _ aF) rfl fun lw=>?_;refine @aa _ (af ?_);refine eI [5] [] mx (by kernel_rfl) ?_;refine @aa _ (af ?_);refine bC (hlay b2.n lw.n _ ⟨by exact @aa _ aF,by exact @aa _ aF⟩) ?_;rintro e S' ⟨rfl,rfl⟩;simp(maxDischargeDepth:=12) (maxSteps:=1000000) -implicitDefEqProofs only[go_sem,Nat.reduceAdd,Nat.reduceSub,Nat.reduceMul,Nat.reduceLeDiff,Nat.reduceEqDiff,Nat.reduceGT,Nat.reduceBEq,reduceCtorEq,↓reduceIte,Int.reduceToNat,Int.reduceLE,Int.reduceLT,Int.reduceNe,Int.reduceEq,gS];intro b9;refine pU b2.n 0 (l:=lw.n) (s:=2) (xs:=R.2.2.map oY) (ds:=[.acc lw.n R.2.2.length,.sl 1 false (R.2.1.map dI)]) (by exact @aa _ aF) (by simp) (by exact @aa _ aF) ?_;refine @aa _ (af ?_);refine Y.R0 [b1.n] [9] [] [1,2,3,5,6,7,0,4,8,9,10,11,12] mx (by kernel_rfl) ?_;exact @aa _ aF
 ·have e:DD n at_= .bM [eT n,.sl 0 true [],.sl 0 true [],dB false]:=by unfold DD;rw[lN hm];rfl
  rw[e];rw[lN hm]at hmay;refine aJ [5] mx Tryz.func181 rfl rfl (by kernel_rfl) ?_;refine @aa _ (ai @Tryz.ntmps181 ?_);intro b b1;refine ae (hmay _) ?_;refine @aa _ (af ?_);trivial
theorem Y7(w0:W0)(n:N)(at_:List Int)(S:St)(h:xf n)(hln:at_.length≤1100):ab Tryz.prog w0 142 [eN n,dL at_] S (fun d S'=>d=dB (o6 n at_)∧S'=S):=by
 obtain⟨d,hn⟩:=sT h.tl;have hpg:=fun S=>xA w0 d n S hn h.lE;rw[Ea hn]at hpg;have hck:=fun S=>UR w0 n S h.tl.root h.tl.pz fun d hd=>⟨h.lE,h.dep d hd⟩;have hfs:=fun S=>OA w0 d n S hn h.lE;have hal:=rR hn;have ht:=h.lE;have hp:(at_++bE (ca n)).Perm (at_++ca n):=afx _ (bO _);have hso:=fun S=>k7 w0 (at_++bE (ca n)) S (by rw[hp.length_eq,c9];omega);have hsp:(bE (at_++bE (ca n))).Perm (at_++ca n):=(bO _).trans hp;have hup:=n9 (at_++bE (ca n));have hll:(bE (at_++bE (ca n))).length≤1048576:=by rw[hsp.length_eq,c9];omega
 generalize bE (at_++bE (ca n))=L at*;generalize hA:bE (ca n)=A at*;have hAl:A.length=(ca n).length:=by rw[←hA];exact aE _
 have hb1:(∀(j:Nat) x,L[j]? =some x→(2≤x∧x≤999)∧∀y,0<j→L[j-1]? =some y→x≠y)→di n≤at_.length→o6 n at_=true:=fun q1 q2=>nB (by
  obtain⟨z1,z2⟩:=Md hup q1;exact⟨hsp.nodup_iff.1 z1,fun p hp=>z2 p (hsp.mem_iff.2 hp),q2⟩)
 have hb2:∀x,x∈L→¬(2≤x∧x≤999)→o6 n at_=false:=fun x hx q=>lN fun c=>q (c.2.1 x (hsp.mem_iff.1 hx))
 have hb3:∀(j:Nat) x,0<j→L[j]? =some x→L[j-1]? =some x→o6 n at_=false:=fun j x h0 h1 h2=>lN fun c=>by
  have:=hsp.nodup_iff.2 c.1;obtain⟨u1,e1⟩:=aaq.1 h1;obtain⟨u2,e2⟩:=aaq.1 h2;exact(adQ.1 this) (j-1) j u2 u1 (by omega) (e2.trans e1.symm)
 have hb4:¬di n≤at_.length→o6 n at_=false:=fun q=>lN fun c=>q c.2.2;generalize o6 n at_=R at*;refine aJ [] mx Tryz.func142 rfl rfl (by kernel_rfl) ?_;refine @aa _ (ai @Tryz.ntmps142 ?_);intro b;have hm8:maxLen=9223372036854775807:=rfl;refine⟨by omega,by omega,fun la=>ae (hpg _) ?_⟩;refine @aa _ (af ?_);refine⟨by omega,by omega,?_⟩;refine .inr (ae (hso _) ?_);refine @aa _ (af ?_);refine aw [] L.length [1,2,6,7] (fun k=>[(7,dI k)]) (fun _=>⟨(b.n,[dI n.aj,dB n.leaf,.sl 4 false (n.l.map dC)])::S.box,(la.n,.tl 1 ((at_++A).map dI))::S.acc⟩) (fun k=>∀(j:Nat) x,j<k→L[j]? =some x→(2≤x∧x≤999)∧∀y,0<j→L[j-1]? =some y→x≠y) mx (by kernel_rfl) ?_ ?_
 ·refine @aa _ (af ?_);exact fun j x hj=>absurd hj (by omega)
 ·intro k hk hinv
  have hstep:∀a,L[k]? =some a→¬a<2→¬a>999→(∀y,0<k→L[k-1]? =some y→a≠y)→∀(j:Nat) x,j<k+1→L[j]? =some x→(2≤x∧x≤999)∧∀y,0<j→L[j-1]? =some y→x≠y:=fun a ha q1 q2 q3 j x hj hx=>by
   rcases Nat.lt_succ_iff_lt_or_eq.1 hj with q|q
   ·exact hinv j x q hx
   ·subst q;cases aC ha hx;exact⟨by omega,q3⟩
  refine @aa _ (af ?_);refine⟨fun hlt=>⟨hlt,fun a ha=>?_⟩,fun hge=>?_⟩
  ·have hm:=aap ha;refine⟨fun q=>by rw[hb2 a hm (by omega)],fun q1=>⟨hlt,fun a2 ha2=>?_⟩⟩;cases aC ha ha2;refine⟨fun q=>by rw[hb2 a hm (by omega)],fun q2=>⟨fun hk0=>⟨hlt,fun a3 ha3=>?_⟩,fun hk0=>⟨hlt,hstep a ha q1 q2 (fun y h0=>absurd h0 (by omega)),aZ k (by omega)⟩⟩⟩;cases aC ha ha3;have ew:IntKind.i64.wrap ((k:Int)-1)=((k-1:Nat):Int):=by rw[aG (by omega) (by omega)];omega
   rw[ew,adV];refine⟨by omega,by omega,fun a4 ha4=>⟨fun he=>?_,fun he=>⟨hlt,hstep a ha q1 q2 (fun y _ hy=>by cases aC ha4 hy;exact he),aZ k (by omega)⟩⟩⟩;subst he;rw[hb3 k a (by omega) ha ha4]
  ·have hall:=fun(j:Nat) x (hx:L[j]? =some x)=>hinv j x (by have:=(aaq.1 hx).1;omega) hx;refine ae (hck _) ?_;refine @aa _ (af ?_);refine ae (hfs _) ?_;refine @aa _ (af ?_);by_cases q:di n≤at_.length
   ·rw[hb1 hall q,decide_eq_true q]
   ·rw[hb4 q,decide_eq_false q]
noncomputable def vp(n:N)(at_:List Int):DV:=if o6 n at_ then .bM [eN (bx n (at_,[])).1,.sl 2 false ((bx n (at_,[])).2.2.map su),dL (bx n (at_,[])).2.1,dB true]else .bM [eN n,.sl 0 true [],.sl 0 true [],dB false]
theorem SW(w0:W0)(n:N)(at_:List Int)(S:St)(h:xf n)(hln:at_.length≤1100):ab Tryz.prog w0 85 [eN n,dL at_] S (fun d S'=>d=vp n at_∧S'=S):=by
 have hmay:=fun S=>Y7 w0 n at_ S h hln;by_cases hm:ng n at_
 ·have hL:=Qi.of h (by have:=hm.len;omega) hm;obtain⟨d,hg,hs,h2⟩:=h.tl.root;have hfr:=hL.fr;have hln:=hL.len;have hnd:=ad2.1 hL.nd;have hlay:=fun bs lw S (hI:wq S bs lw at_ [])=>Z8 w0 bs lw d n (at_,[]) S hg h.tl.laid hI h.lE hs h2 hfr hln hnd.1 (fun x hx=>hL.pG x (adH _ hx)) (fun x hx=>hL.pG x (adL _ hx)) (by show 0+_≤_;omega);have e:vp n at_= .bM [eN (bx n (at_,[])).1,.sl 2 false ((bx n (at_,[])).2.2.map su),dL (bx n (at_,[])).2.1,dB true]:=by unfold vp;rw[nB hm];rfl
  rw[e];rw[nB hm]at hmay;generalize bx n (at_,[])=R at*;refine aJ [5,6] mx Tryz.func85 rfl rfl (by kernel_rfl) ?_;refine @aa _ (ai @Tryz.ntmps85 ?_);intro b b1;refine ae (hmay _) ?_;refine @aa _ (af ?_);intro b2;refine bW b2.n 0 2 (by omega) (ds:=[.sl 0 true [],.sl 1 false (at_.map dI)]) (by exact @aa _ aF) rfl fun lw=>?_;refine @aa _ (af ?_);refine eI [6] [] mx (by kernel_rfl) ?_;refine @aa _ (af ?_);refine bC (hlay b2.n lw.n _ ⟨by exact @aa _ aF,by exact @aa _ aF⟩) ?_;rintro e S' ⟨rfl,rfl⟩;simp(maxDischargeDepth:=12) (maxSteps:=1000000) -implicitDefEqProofs only[go_sem,Nat.reduceAdd,Nat.reduceSub,Nat.reduceMul,Nat.reduceLeDiff,Nat.reduceEqDiff,Nat.reduceGT,Nat.reduceBEq,reduceCtorEq,↓reduceIte,Int.reduceToNat,Int.reduceLE,Int.reduceLT,Int.reduceNe,Int.reduceEq,jE];intro b3;refine pU b2.n 0 (l:=lw.n) (s:=2) (xs:=R.2.2.map su) (ds:=[.acc lw.n R.2.2.length,.sl 1 false (R.2.1.map dI)]) (by exact @aa _ aF) (by simp) (by exact @aa _ aF) ?_;refine @aa _ (af ?_);refine Y.R0 [b1.n] [9] [] [1,2,3,5,6,7,0,4,8,9,10,11,12] mx (by kernel_rfl) ?_;exact @aa _ aF
 ·have e:vp n at_= .bM [eN n,.sl 0 true [],.sl 0 true [],dB false]:=by unfold vp;rw[lN hm];rfl
  rw[e];rw[lN hm]at hmay;refine aJ [6] mx Tryz.func85 rfl rfl (by kernel_rfl) ?_;refine @aa _ (ai @Tryz.ntmps85 ?_);intro b b1;refine ae (hmay _) ?_;refine @aa _ (af ?_);trivial
end Go.Proofs.YtpjenciplibdnaaGreatDoor
namespace Go.Proofs.YtpjenciplibdnaaGreatDoor
open Aml Go
open Aml Go
end Go.Proofs.YtpjenciplibdnaaGreatDoor
namespace Go.Proofs.YtpjenciplibdnaaGreatDoor
open Aml Go
theorem BN(w0:W0)(n:N)(S:St)(ht:n.l.length≤1048576)(hp:∀c,c∈n.l→c.an.length≤1048576)(hk:∀c,c∈n.l→c.kid=[]∨∃k,c.kid=[k]∧∀S,ab Tryz.prog w0 57 [eN k,eN k] S (fun e S'=>e=dB true∧S'=S)):
 ab Tryz.prog w0 57 [eN n,eN n] S (fun e S'=>e=dB true∧S'=S):=by
 refine aJ [] mx Tryz.func57 rfl rfl (by kernel_rfl) ?_;refine @aa _ (ai @Tryz.ntmps57 ?_);intro b b2;refine aw [] n.l.length [2,3,5] (fun k=>[(5,dI k)]) (fun k=>⟨(b2.n,[dI n.aj,dB n.leaf,.sl 4 false (n.l.map dC)])::(b.n,[dI n.aj,dB n.leaf,.sl 4 false (n.l.map dC)])::S.box,S.acc⟩) (fun _=>True) mx (by kernel_rfl) ?_ ?_
 ·exact @aa _ aF
 ·intro k hk' _;refine @aa _ (af ?_);refine fun hlt=>⟨hlt,fun c hc b3=>⟨hlt,fun c2 hc2 b4=>?_⟩⟩;cases aC hc hc2;have hpc:=hp c (aap hc);refine⟨fun h=>(by rw[gk]at h;cases h),fun _=>⟨fun h=>(by rw[gk]at h;cases h),fun _=>⟨fun h=>h rfl,fun _=>⟨fun h=>h rfl,fun _=>?_⟩⟩⟩⟩;refine aw [] c.an.length [2,3,5,6,7,8] (fun j=>[(8,dI j)]) (fun _=>⟨(b4.n,[dS c.key,dS c.data,.sl 1 false (c.an.map dI),.sl 3 false (c.kid.map dN)])::(b3.n,[dS c.key,dS c.data,.sl 1 false (c.an.map dI),.sl 3 false (c.kid.map dN)])::(b2.n,[dI n.aj,dB n.leaf,.sl 4 false (n.l.map dC)])::(b.n,[dI n.aj,dB n.leaf,.sl 4 false (n.l.map dC)])::S.box,S.acc⟩) (fun _=>True) mx (by kernel_rfl) ?_ ?_
  ·exact @aa _ aF
  ·intro j hj _;rcases hk c (aap hc)with hkid|⟨kd,hkid,hsk⟩
   ·refine @aa _ (ai @hkid ?_);exact⟨fun h=>⟨h,fun x hx=>⟨h,fun y hy=>(by cases aC hx hy;exact⟨fun e=>e rfl,fun _=>⟨h,aZ j (by omega)⟩⟩)⟩⟩,fun _=>⟨fun h=>absurd h (by omega),fun _=>⟨hlt,aZ k (by omega)⟩⟩⟩
   ·refine @aa _ (ai @hkid ?_);refine⟨fun h=>⟨h,fun x hx=>⟨h,fun y hy=>(by cases aC hx hy;exact⟨fun e=>e rfl,fun _=>⟨h,aZ j (by omega)⟩⟩)⟩⟩,fun _=>⟨fun _=>aK (hsk _) ?_,fun h=>absurd (by omega) h⟩⟩;refine @aa _ (af ?_);exact⟨hlt,aZ k (by omega)⟩
theorem XE(w0:W0):∀(d:Nat) (n:N) (S:St),Nd d n→bA n≤131072→ab Tryz.prog w0 57 [eN n,eN n] S (fun e S'=>e=dB true∧S'=S):=by
 intro d
 induction d with
 |zero=>
  intro n S hn ht;have hlen:=aT n;exact BN w0 n S (by omega) (fun c hc=>by have h1:c.an.length≤4:=(hn.2 c hc).1.2.2;omega) fun c hc=> .inl (hn.2 c hc).2
 |succ d ih=>
  intro n S hn ht;have hlen:=aT n;refine BN w0 n S (by omega) (fun c hc=>by have h1:c.an.length≤0:=(hn.2.2 c hc).1.2.2;omega) fun c hc=> .inr ?_;obtain⟨_,k,hk,hkn⟩:=hn.2.2 c hc;have hkt:=cL hc hk;exact⟨k,hk,fun S=>ih k S hkn (by omega)⟩
theorem Lw(w0:W0){k:Nat}{n:N}(h:TB k n)(hk:k≤116)(S:St):ab Tryz.prog w0 57 [eN n,eN n] S (fun e S'=>e=dB true∧S'=S):=by
 obtain⟨hr,d,hg,hd,ht⟩:=h;exact XE w0 d n S (ax hg) (by omega)
theorem Xd(w0:W0)(k:Nat)(n:N)(l:List C)(S:St)(h:VI k n l)(hk:k≤116):ab Tryz.prog w0 24 [eL n l,eL n l] S (fun d S'=>d=dB true∧S'=S):=by
 have hln:=h.len;have hdn:=fun S=>Lw w0 h.dir hk S;have hcn:=fun c (hc:c∈l) S=>Lw w0 (h.cell c hc).2.1 hk S;refine aJ [] mx Tryz.func24 rfl rfl (by kernel_rfl) ?_;refine @aa _ (ai @Tryz.ntmps24 ?_);intro b b2;refine ae (hdn _) ?_;refine @aa _ (af ?_);refine aw [] l.length [2,3,5] (fun k=>[(5,dI k)]) (fun k=>⟨(b2.n,[dI n.aj,dB n.leaf,.sl 4 false (n.l.map dC),.sl 4 false (l.map yO)])::(b.n,[dI n.aj,dB n.leaf,.sl 4 false (n.l.map dC),.sl 4 false (l.map yO)])::S.box,S.acc⟩) (fun _=>True) mx (by kernel_rfl) ?_ ?_
 ·exact @aa _ aF
 ·intro j hj _;refine @aa _ (af ?_);refine fun hlt=>⟨hlt,fun c hc=>⟨hlt,fun c2 hc2=>?_⟩⟩;cases aC hc hc2;refine⟨fun e=>(by rw[gk]at e;cases e),fun _=>⟨hlt,fun c3 hc3=>⟨hlt,fun c4 hc4=>?_⟩⟩⟩;cases aC hc hc3;cases aC hc hc4;refine aK (hcn c (aap hc) _) ?_;refine @aa _ (af ?_);exact⟨hlt,aZ j (by omega)⟩
theorem T0(w0:W0){k:Nat}{n:N}{key val:ByteArray}(h:TB k n)(hk:k≤200)(h1:key.size≤16)(h2:val.size≤400)(S:St):ab Tryz.prog w0 88 [eN n,dS key,dS val] S (fun e S'=>e=eN (kN key val n)∧S'=S):=by
 obtain⟨hr,d,hg,hd,ht⟩:=h;exact aa6 w0 key val h1 h2 d n S (ax hg) (by omega)
theorem QU(w0:W0){k:Nat}{n:N}{key:ByteArray}(h:TB k n)(hk:k≤200)(S:St):ab Tryz.prog w0 87 [eN n,dS key] S (fun e S'=>e= .bM [dS ((cD key n).getD aN),dB (cD key n).isSome]∧S'=S):=by
 obtain⟨hr,d,hg,hd,ht⟩:=h;exact Xp w0 key d n S (ax hg) (by omega)
theorem rEm(w0:W0)(S:St):ab Tryz.prog w0 69 [] S (fun e S'=>e=eN mz∧S'=S):=by
 refine aJ [] mx Tryz.func69 rfl rfl (by kernel_rfl) ?_;refine @aa _ (ai @Tryz.ntmps69 ?_);intro b;exact .agg (.cons (.refl _) (.cons (.refl _) (.cons (.nil _ _ _) .nil)))
theorem aau(w0:W0)(S:St):ab Tryz.prog w0 29 [] S (fun e S'=>e=eL mz []∧S'=S):=by
 refine aJ [] mx Tryz.func29 rfl rfl (by kernel_rfl) ?_;refine @aa _ (ai @Tryz.ntmps29 ?_);intro b;refine ae (rEm w0 _) ?_;exact @aa _ aF
structure BT(k:Nat)(n:N):Prop where
 tb:TB k n
 tl:TL n
 nd:(ca n).Nodup
 pG:∀p,p∈ca n→2≤p∧p≤999
theorem qT{k:Nat}{n:N}(h:BT k n)(hk:k≤116):xf n:=by
 obtain⟨hr,d,hg,hd,ht⟩:=h.tb;exact⟨h.tl,by omega,fun e he=>by have:=pO he (ax hg);omega⟩
theorem Wb{k:Nat}{n:N}{at_:List Int}(h:BT k n)(hm:ng n at_):BT k (bx n (at_,[])).1:=by
 obtain⟨hr,d,hg,hd,ht⟩:=h.tb;have hn:=ax hg;have hz:∀p,p∈at_→p≠0:=fun p hp=>by have:=hm.2.1 p (adH _ hp);omega
 have hfull:=v7 (q:=(at_,[])) hn h.tl.laid hm.2.2 hz;have hal:=C2 (q:=(at_,[])) hn hm.2.2 hz;have hsub:(at_.take (di n)++ca n).Sublist (at_++ca n):=(List.take_sublist _ _).append (ad5 _);refine⟨⟨BO _ hr,d,rf _ hg,hd,by rw[Pv _ hn];exact ht⟩,⟨BO _ hr,xN (yG _ hn) hfull,fun e=>afj.1 fun z=>(wZ (yG _ hn) hfull).1 z e⟩,?_,fun p hp=>?_⟩
 ·exact(hal.trans aeI).nodup_iff.2 (hm.1.sublist hsub)
 ·exact hm.2.1 p (hsub.subset ((hal.trans aeI).mem_iff.1 hp))
end Go.Proofs.YtpjenciplibdnaaGreatDoor
namespace Go.Proofs.YtpjenciplibdnaaGreatDoor
open Aml Go
open Aml Go
end Go.Proofs.YtpjenciplibdnaaGreatDoor
namespace Go.Proofs.YtpjenciplibdnaaGreatDoor
open Aml Go
def zX(k:Nat)(q q':LS):Prop:=q'.1=q.1.drop k∧∃w:List (Int×ByteArray),q'.2=q.2++w∧w.map (·.1)=q.1.take k∧∀x,x∈w→x.2.size=128
theorem zX.none(q:LS):zX 0 q q:=⟨by simp,[],by simp,by simp,fun x hx=>by cases hx⟩
theorem zX.trans{k m:Nat}{q q1 q2:LS}(h:zX k q q1)(h':zX m q1 q2):zX (k+m) q q2:=by
 obtain⟨a1,w,a2,a3,a4⟩:=h;obtain⟨b1,v,b2,b3,b4⟩:=h';exact⟨by rw[b1,a1,ae1],w++v,by rw[b2,a2,abA],by rw[aa1,a3,b3,a1,afP],fun x hx=>(abD.1 hx).elim (a4 x) (b4 x)⟩
theorem zX.aj{q:LS}{b:ByteArray}(hq:1≤q.1.length)(hb:b.size=128):zX 1 q (q.1.tail,q.2++[(q.1.headD 0,b)]):=by
 obtain⟨l,w⟩:=q
 cases l with
 |nil=>simp at hq
 |cons a l=>exact⟨rfl,[(a,b)],rfl,rfl,fun x hx=>by rw[acz.1 hx];exact hb⟩
theorem RP{z i:Nat}(h:i<need (z:Int)):119*i<z:=by
 unfold need at h;split at h <;>omega
theorem zX.value(d:ByteArray)(ps:List Int)(q:LS)(hq:(if ps=[]then need (d.size:Int)else 0)≤q.1.length):zX (if ps=[]then need (d.size:Int)else 0) q (dE d ps q).2:=by
 unfold dE;by_cases h:need (d.size:Int)=0∨ps≠[]
 ·rw[if_pos h]
  have:(if ps=[]then need (d.size:Int)else 0)=0:=by
   by_cases e:ps=[]
   ·rw[if_pos e];exact h.resolve_right fun f=>f e
   ·rw[if_neg e]
  rw[this];exact .none q
 ·rw[if_neg h];have hp:ps=[]:=afj.1 fun e=>h (.inr e);rw[if_pos hp]at hq ⊢;have hl:(q.1.take (need (d.size:Int))).length=need (d.size:Int):=by rw[aaE];omega
  refine⟨rfl,_,rfl,?_,fun x hx=>?_⟩
  ·refine List.map_fst_zip ?_;unfold aQ;rw[abv,ae5];exact abI _
  ·have hx2:=(List.of_mem_zip (a:=x.1) (b:=x.2) hx).2;unfold aQ at hx2;rw[hl]at hx2;obtain⟨i,hi,e⟩:=adS.1 hx2;rw[←e];refine l5 3 ?_;have h1:=nA (v:=d) (at_:=q.1.take (need (d.size:Int))) (RP (aeF.1 hi));unfold ct;rw[aa9,adT,adb,aeQ,h1];unfold eO;omega
theorem xJ{b:Bool}:∀{l:List C} {q:LS},(∀c,c∈l→∀q':LS,j9 b c≤q'.1.length→(∀x,x∈q'.1→x∈q.1)→zX (j9 b c) q' (fE b c q').2)→gH b l≤q.1.length→zX (gH b l) q (ao b l q).2
 |[],q,_,_=>by simp only[ao,gH,adT,aeQ];exact .none q
 |c::l,q,h,hq=>by
  have e:gH b (c::l)=j9 b c+gH b l:=by unfold gH;rw[aa9,adb]
  rw[e]at hq ⊢;have h1:=h c aaX q (by omega) fun x hx=>hx;have hd:=h1.1;simp only[ao];refine h1.trans (xJ (fun c hc q' h2 h3=>h c (abn _ hc) q' h2 fun x hx=>?_) (by rw[hd,acv];omega));have:=h3 x hx;rw[hd]at this;exact adk this
theorem Pc:∀{d:Nat} {kid:N},Good d kid→Fits kid→kid.leaf=true∨2≤kid.l.length
 |0,kid,hkg,_=> .inl hkg.1
 |d+1,kid,hkg,hkf=>by
  refine .inr ?_;have h30:=hkf.1;have hsz:=gE hkg;unfold ah at h30 hsz
  match hm:kid.l with
  |[]=>rw[hm]at h30;simp at h30
  |[x]=>
   rw[hm]at h30 hsz;have:=hsz _ (aew aaX);simp only[aa9,adT,adb,aeQ]at h30 this;rw[if_neg (by omega)]at this;omega
  |x::y::r=>simp
theorem KB:∀(d:Nat) {n:N} {q:LS},Good d n→mf n→(ah n).sum≤122→(n.leaf=true∨2≤n.l.length)→di n≤q.1.length→(∀x,x∈q.1→2≤x∧x≤999)→(∀p,p∈ca n→2≤p∧p≤999)→zX (di n) q (bx n q).2:=by
 have fin:∀(d:Nat) {n:N} {q:LS},Good d n→mf n→(ah n).sum≤122→(n.leaf=true∨2≤n.l.length)→di n≤q.1.length→(∀x,x∈q.1→2≤x∧x≤999)→(∀p,p∈ca n→2≤p∧p≤999)→
  (∀c,c∈n.l→∀q':LS,j9 n.leaf c≤q'.1.length→(∀x,x∈q'.1→x∈q.1)→zX (j9 n.leaf c) q' (fE n.leaf c q').2)→zX (di n) q (bx n q).2:=by
  intro d n q hg hla hs h2 hf hr hp h;have hn:=ax hg;have h8:=nL (q:=q) hg hla hs h2 hf hr hp;rw[eP hn]at hf;rw[dD,eP hn];by_cases hz0:n.aj≠0
  ·rw[if_pos hz0,if_pos (show n.aj≠0∨(n.leaf=true∧n.l=[])from .inl hz0)];exact .none q
  ·rw[if_neg hz0]at hf;rw[if_neg hz0];by_cases hz:n.leaf=true∧n.l=[]
   ·rw[if_pos hz,if_pos (show n.aj≠0∨(n.leaf=true∧n.l=[])from .inr hz)];exact .none q
   ·rw[if_neg hz]at hf;rw[if_neg hz,if_neg (show¬(n.aj≠0∨(n.leaf=true∧n.l=[]))from fun e=>e.elim hz0 hz),aeO];have hw:=xJ (q:=q) h (by omega);refine hw.trans (zX.aj (by rw[hw.1,acv];omega) ?_);exact l5 _ (h8 fun e=>e.elim hz0 hz).fits
 intro d
 induction d with
 |zero=>
  intro n q hg hla hs h2 hf hr hp;refine fin 0 hg hla hs h2 hf hr hp fun c hc q' hq' _=>?_;rw[hg.1]at hq' ⊢;rw[cB];exact zX.value c.data c.an q' hq'
 |succ d ih=>
  intro n q hg hla hs h2 hf hr hp;refine fin (d+1) hg hla hs h2 hf hr hp fun c hc q' hq' hsub=>?_;obtain⟨hsh,_,kid,hkid,hkg,hkf⟩:=hg.2.2.cell c hc;have hrc:j9 false c=di kid:=by rw[←aO hkid];rfl
  have hal:∀p,p∈ca kid→p∈ca n:=fun p hp=>by
   rw[fw n,hg.1];exact adL _ (ad7.2 ⟨c,hc,by rw[fK hkid];exact adL _ hp⟩)
  rw[hg.1]at hq' ⊢;rw[hrc]at hq' ⊢;rw[dj hkid];refine ih hkg ?_ hkf.2 (Pc hkg hkf) hq' (fun x hx=>hr x (hsub x hx)) fun p h=>hp p (hal p h)
  cases hla with|mk _ _ _ h3=>exact h3 hg.1 c hc kid hkid
theorem YJ{k:Nat}{n:N}{at_:List Int}(h:BT k n)(hm:ng n at_):(bx n (at_,[])).2.1=at_.drop (di n)∧(bx n (at_,[])).2.2.map (·.1)=at_.take (di n)∧∀x,x∈(bx n (at_,[])).2.2→x.2.size=128:=by
 obtain⟨d,hg,hs,h2⟩:=h.tl.root;obtain⟨a1,w,a2,a3,a4⟩:=KB d (q:=(at_,[])) hg h.tl.laid hs h2 hm.2.2 (fun x hx=>hm.2.1 x (adH _ hx)) fun x hx=>hm.2.1 x (adL _ hx);rw[adZ]at a2;rw[a2];exact⟨a1,a3,a4⟩
structure Ld(k:Nat)(n:N)(at_:List Int)(M:N)(R:List Int)(W:List (Int×ByteArray)):Prop where
 eq:bx n (at_,[])=(M,(R,W))
 bt:BT k M
 fr:di M=0
 left:R=at_.drop (di n)
 pg:W.map (·.1)=at_.take (di n)
 sz:∀x,x∈W→x.2.size=128
 al:(ca M).Perm (ca n++at_.take (di n))
 en:vS M=vS n
theorem SK{k:Nat}{n:N}{at_:List Int}(h:BT k n)(hm:ng n at_):∃M R W,Ld k n at_ M R W:=by
 obtain⟨a1,a2,a3⟩:=YJ h hm;have hb:=Wb h hm;obtain⟨d,hg,hs,h2⟩:=h.tl.root;have hn:=ax hg;have hz:∀p,p∈at_→p≠0:=fun p hp=>by have:=hm.2.1 p (adH _ hp);omega
 refine⟨(bx n (at_,[])).1,(bx n (at_,[])).2.1,(bx n (at_,[])).2.2,rfl,hb,VN hn hm.2.2 hz,a1,a2,a3,C2 hn hm.2.2 hz,?_⟩;have he:=Fi (at_,[]) hn;unfold vS;have hm2:∀l:List C,l.map SD=(l.map fun c=>(c.key,c.data)).map fun x=>C.mk x.1 x.2 [] []:=fun l=>by rw[aeZ];rfl
 rw[hm2,hm2,he]
theorem IC{d:Nat}{n:N}(hn:Nd d n)(h:di n=0)(q:LS):bx n q=(n,q):=by
 rw[dD,if_pos];rw[eP hn]at h;by_cases h0:n.aj≠0
 ·exact .inl h0
 ·rw[if_neg h0]at h;by_cases h1:n.leaf=true∧n.l=[]
  ·exact .inr h1
  ·rw[if_neg h1]at h;omega
theorem MR{k:Nat}{n:N}{at_:List Int}{M:N}{R:List Int}{W:List (Int×ByteArray)}(hm:ng n at_)(h:Ld k n at_ M R W):DD n at_= .bM [eT M,.sl 2 false (W.map oY),dL R,dB true]:=by
 unfold DD;rw[nB hm,h.eq];rfl
theorem Gu{k:Nat}{n:N}{at_:List Int}{M:N}{R:List Int}{W:List (Int×ByteArray)}(hm:ng n at_)(h:Ld k n at_ M R W):vp n at_= .bM [eN M,.sl 2 false (W.map su),dL R,dB true]:=by
 unfold vp;rw[nB hm,h.eq];rfl
end Go.Proofs.YtpjenciplibdnaaGreatDoor
