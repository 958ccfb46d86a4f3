/-
  Part 11 of the proof that the last text ends: from 'What a line does, and where it is wrong: the program's (*parser).try' to 'ConfNames: the walk'. By an AI agent.
-/
import Derived.Test.YtiihljlagmmljaaGreatDoorMC9
import Derived.Test.YtiihljlagmmljaaGreatDoorMC10
import Derived.Test.YtiihljlagmmljaaGreatDoorMC7
import Derived.Test.YtiihljlagmmljaaGreatDoorMC8
set_option linter.unusedVariables false
set_option linter.unusedSimpArgs false
set_option maxRecDepth 100000
set_option maxHeartbeats 16000000
namespace Go.Proofs.YtiihljlagmmljaaGreatDoor
open Aml Go Lat Grs Rn
theorem uV{w:World}{b e:Nat}{us:Array Value}{f:Nat×Nat}(hh:w.heap[b]? =some (.cells us e f))(v:Value):w.setCell ⟨b,0,none⟩ v=w.setRow b (us.setIfInBounds 0 v):=by
 unfold World.setCell World.setRow;congr 1;refine Array.ext_getElem? fun i=>?_;rw[SD,SD];split
 ·rename_i e;subst e;rw[hh];rfl
 ·rfl
theorem Kg{w0:W0}{g:Gh}{X T:St}{w:World}(r:Rel w0 g T w)(h:Has X T)(nb:(X.box.map (·.1)).Nodup)(na:(X.acc.map (·.1)).Nodup):Rel w0 g X w:=
 ⟨r.below,r.aO,nb,na,r.df,r.fresh,fun l o ho=>r.top l o (bd (h.acc l o (dy na ho))),let⟨ow,h1,h2⟩:=r.own
  ⟨ow,fun b ds hb=>h1 b ds (bd (h.box b ds (dy nb hb))),fun l o hl=>h2 l o (bd (h.acc l o (dy na hl)))⟩⟩
theorem F7{P:Program}{w0:W0}{f:FuncId}{args:List DV}{S:St}{K:DV→St→Prop}(h:(S.box.map (·.1)).Nodup→(S.acc.map (·.1)).Nodup→ab P w0 f args S K):ab P w0 f args S K:=
 fun g vs w h1 h2=>h h1.nb h1.na g vs w h1 h2
theorem M5(w0:W0)(R:St)(bp b4 br ln lu lq lg:Nat)(hN:LW bp b4 br ln lu lq lg)(hR:lk R.box br=none)(c:Cf)(w:Wd)(t:List Wd)(e:Nat)(hw:jE w.1=false)
 (hq:Cd w0 ⟨(b4,[dI 0])::(pS R bp ln lu lq lg c).box,(pS R bp ln lu lq lg c).acc⟩ w.2) (K:DV→St→Prop):
 ab Tryz.prog w0 54 [.v (.pointer (some ⟨bp,0,none⟩)),.v (.pointer (some ⟨br,0,none⟩))] (lS R bp b4 br ln lu lq lg c (w::t) e) K:=by
 have hN':=hN;obtain⟨a1,a2,a3,cJ,cK,cA,l1,l2,l3,l4,l5,l6,cI,cO,cM,cP,cH,cN⟩:=hN';refine fe ?_;refine yy [7,9,11,13,15] mx Tryz.func54 rfl rfl (by kernel_rfl) ?_;simp(maxDischargeDepth:=12) (maxSteps:=1000000) -implicitDefEqProofs only[Tryz.ntmps54,go_sem,Nat.reduceAdd,Nat.reduceSub,Nat.reduceMul,Nat.reduceLeDiff,Nat.reduceEqDiff,Nat.reduceGT,Nat.reduceBEq,reduceCtorEq,↓reduceIte,Int.reduceToNat,Int.reduceLE,Int.reduceLT,Int.reduceNe,Int.reduceEq,a1,a2,a3,cJ,cK,cA,l1,l2,l3,l4,l5,l6,cI,cO,cM,cP,cH,cN];intro b2 b3;have hHas:=fun ws' Y2 Y3=>kM hN hR c e b2 b3 ws' Y2 Y3;have f1:=af b2 (br) (by simp(maxDischargeDepth:=12) (maxSteps:=1000000) -implicitDefEqProofs only[go_sem,Nat.reduceAdd,Nat.reduceSub,Nat.reduceMul,Nat.reduceLeDiff,Nat.reduceEqDiff,Nat.reduceGT,Nat.reduceBEq,reduceCtorEq,↓reduceIte,Int.reduceToNat,Int.reduceLE,Int.reduceLT,Int.reduceNe,Int.reduceEq]);have g0:=af b3 (b2.n) (by simp(maxDischargeDepth:=12) (maxSteps:=1000000) -implicitDefEqProofs only[go_sem,Nat.reduceAdd,Nat.reduceSub,Nat.reduceMul,Nat.reduceLeDiff,Nat.reduceEqDiff,Nat.reduceGT,Nat.reduceBEq,reduceCtorEq,↓reduceIte,Int.reduceToNat,Int.reduceLE,Int.reduceLT,Int.reduceNe,Int.reduceEq]);have g1:=af b3 (br) (by simp(maxDischargeDepth:=12) (maxSteps:=1000000) -implicitDefEqProofs only[go_sem,Nat.reduceAdd,Nat.reduceSub,Nat.reduceMul,Nat.reduceLeDiff,Nat.reduceEqDiff,Nat.reduceGT,Nat.reduceBEq,reduceCtorEq,↓reduceIte,Int.reduceToNat,Int.reduceLE,Int.reduceLT,Int.reduceNe,Int.reduceEq,f1]);refine bQ (yL _ _ br (w::t) e (by simp(maxDischargeDepth:=12) (maxSteps:=1000000) -implicitDefEqProofs only[go_sem,Nat.reduceAdd,Nat.reduceSub,Nat.reduceMul,Nat.reduceLeDiff,Nat.reduceEqDiff,Nat.reduceGT,Nat.reduceBEq,reduceCtorEq,↓reduceIte,Int.reduceToNat,Int.reduceLE,Int.reduceLT,Int.reduceNe,Int.reduceEq,f1,g1]) 85 (by kernel_rfl) #[] rfl jE (fun T w' hT hw'=>tc _ T w'.1) (fun h=>by cases h) (fun w' t' h hb=>by cases h;exact hq.mono (hHas (w::t) [.v (.pointer (some ⟨bp,0,none⟩))] [.v (.pointer (some ⟨br,0,none⟩))]))) ?_;rintro _ _ ⟨w',t',h,hw',rfl,rfl⟩;cases h;rw[hw]at hw';cases hw'
theorem MU(w0:W0)(hk:KU w0)(hke:KE w0)(R:St)(bp b4 br ln lu lq lg:Nat)(hN:LW bp b4 br ln lu lq lg)(hR:lk R.box br=none)(c:Cf)(hc:Cw c)(hg:c.gr.length≤1048576)(ws:List Wd)(hne:ws≠[])(hws:∀w,w∈ws→w.1.length≤1048576)(e:Nat)
 (hq:∀n,cX c ws e= .inl n→Cd w0 ⟨(b4,[dI 0])::(pS R bp ln lu lq lg c).box,(pS R bp ln lu lq lg c).acc⟩ n):
 ab Tryz.prog w0 54 [.v (.pointer (some ⟨bp,0,none⟩)),.v (.pointer (some ⟨br,0,none⟩))] (lS R bp b4 br ln lu lq lg c ws e) (fun d S'=>∃c',cX c ws e= .inr c'∧d= .bU []∧S'=lS R bp b4 br ln lu lq lg c' [] e):=by
 cases ws with
 |nil=>exact absurd rfl hne
 |cons w t=>
  obtain⟨s,a⟩:=w;by_cases h1:s=fO
  ·subst h1;have e1:cX c ((fO,a)::t) e=nS c t e:=by unfold cX;simp only[az,show jE fO=true by decide];rfl
   rw[e1]at hq ⊢;exact Ny w0 hk hke R bp b4 br ln lu lq lg hN hR c hc a t (fun w hw=>hws w (Rr _ hw)) e hq
  ·by_cases h2:s=jI
   ·subst h2;have e1:cX c ((jI,a)::t) e=oG c t e:=by unfold cX;simp only[az,show jE jI=true by decide];rfl
    rw[e1]at hq ⊢;exact MW w0 R bp b4 br ln lu lq lg hN hR c hc a t e hq
   ·by_cases h3:s=mw
    ·subst h3;have e1:cX c ((mw,a)::t) e=dq c t e:=by unfold cX;simp only[az,show jE mw=true by decide];rfl
     rw[e1]at hq ⊢;exact Nc w0 R bp b4 br ln lu lq lg hN hR c hc hg a t e hq
    ·have hk0:jE s=false:=decide_eq_false fun q=>q.elim h1 fun q=>q.elim h2 h3;exact M5 w0 R bp b4 br ln lu lq lg hN hR c (s,a) t e hk0 (hq a (by unfold cX;simp only[az,hk0];rfl)) _
theorem rZ(l:List UInt8):∀w,w∈(gP l).1→w.1.length≤l.length:=by
 have key:∀(R:List (Nat×List UInt8)) (n e:Nat) (c:Option Wd) (N:Nat),((c.map fun w=>w.1.length).getD 0)+(R.flatMap (·.2)).length≤N→∀w,w∈(cj n e c R).1→w.1.length≤N:=by
  intro R
  induction R with
  |nil=>
   intro n e c N h w hw;rw[cj]at hw
   cases c with
   |none=>simp at hw
   |some v=>simp at hw h;subst hw;omega
  |cons r R ih=>
   intro n e c N h w hw;rw[Sd,Rk]at h;rw[cj]at hw
   have h0:∀w,w∈c.toList→w.1.length≤N:=fun w hw=>by
    cases c with
    |none=>simp at hw
    |some v=>simp at hw h;subst hw;omega
   split at hw
   ·exact h0 w hw
   ·split at hw
    ·rcases RB.1 hw with hw|hw
     ·exact h0 w hw
     ·exact ih (n+1) e none N (by simp only[Option.map_none,Option.getD_none];omega) w hw
    ·refine ih _ _ _ N ?_ w hw
     cases c with
     |none=>simp only[jC,R6,To];simp only[Option.map_none,Option.getD_none]at h;omega
     |some v=>simp only[jC,R6,To,Rk];simp only[R6,To]at h;omega
 intro w hw;exact key (ak l) 0 1 none l.length (by rw[iL];simp) w hw
def Pf(fr:List DV)(S:St)[K:Cn (List DV→St→Prop)]:Prop:=K.k fr S
theorem J1{P:Program}{w0:W0}{c:Code}{fr:List DV}{S:St}{K:List DV→St→Prop}(h:vw P w0 [] c fr S fun e fr S1=>e= .normal∧@Pf fr S1 ⟨K⟩):vw P w0 [] c fr S fun e fr S1=>e= .normal∧K fr S1:=h
theorem Pm(w0:W0)(hk:KU w0)(hke:KE w0)(R:St)(bp ln lu lq lg:Nat)(l1:(lg=lq)=False)(l2:(lg=lu)=False)(l3:(lg=ln)=False)(l4:(lq=lu)=False)(l5:(lq=ln)=False)(l6:(lu=ln)=False)
 (c:Cf) (hc:Cw c) (hg:c.gr.length≤1048576) (s:ByteArray) (hs:s.size≤1048576):
 ab Tryz.prog w0 20 [.v (.pointer (some ⟨bp,0,none⟩)),dS s] (pS R bp ln lu lq lg c) (fun d S'=>(∃n,kv c s.data.toList= .inl n∧d=dI n∧S'=pS R bp ln lu lq lg c)∨∃c',kv c s.data.toList= .inr c'∧d=dI 0∧S'=pS R bp ln lu lq lg c'):=by
 refine F7 fun nb na=>?_;refine fe ?_;refine Cb (P:=Tryz.prog) (fn:=Tryz.f20) (cl:=52) (caps:=[4]) (t1:=7) Tryz.func20 rfl rfl ⟨rfl,rfl,rfl⟩ ⟨rfl,rfl,rfl⟩ (by kernel_rfl) (by kernel_rfl) (by kernel_rfl) ⟨rfl,by rw[Tryz.ntmps20];decide,by simp⟩ ?_;refine J1 ?_;simp(maxDischargeDepth:=12) (maxSteps:=1000000) -implicitDefEqProofs only[go_sem,Nat.reduceAdd,Nat.reduceSub,Nat.reduceMul,Nat.reduceLeDiff,Nat.reduceEqDiff,Nat.reduceGT,Nat.reduceBEq,reduceCtorEq,↓reduceIte,Int.reduceToNat,Int.reduceLE,Int.reduceLT,Int.reduceNe,Int.reduceEq,Tryz.ntmps20];intro b4;have a3:=af b4 bp (by simp(maxDischargeDepth:=12) (maxSteps:=1000000) -implicitDefEqProofs only[go_sem,Nat.reduceAdd,Nat.reduceSub,Nat.reduceMul,Nat.reduceLeDiff,Nat.reduceEqDiff,Nat.reduceGT,Nat.reduceBEq,reduceCtorEq,↓reduceIte,Int.reduceToNat,Int.reduceLE,Int.reduceLT,Int.reduceNe,Int.reduceEq]);have cA:(bp=b4.n)=False:=by rw[←a3];exact propext eq_comm
 obtain⟨X,hX⟩:∃X:St,X=⟨(b4.n,[dI 0])::(pS R bp ln lu lq lg c).box,(pS R bp ln lu lq lg c).acc⟩:=⟨_,rfl⟩;have hXb:lk X.box b4.n=some [dI 0]:=by rw[hX];simp[lk]
 have hXn:(X.box.map (·.1)).Nodup:=by
  rw[hX];refine R0.2 ⟨fun hm=>?_,nb⟩;obtain⟨p,hp,e⟩:=RI.1 hm;exact Y.kP b4.h p hp e
 have hXa:(X.acc.map (·.1)).Nodup:=by rw[hX];exact na
 refine⟨[.pointer (some ⟨b4.n,0,none⟩)],rfl,fun d T=>∃n:Nat,kv c s.data.toList= .inl n∧d= .fN 83 (dI n)∧Has X T,?_,?_,?_⟩
 ·simp(maxDischargeDepth:=12) (maxSteps:=1000000) -implicitDefEqProofs only[go_sem,Nat.reduceAdd,Nat.reduceSub,Nat.reduceMul,Nat.reduceLeDiff,Nat.reduceEqDiff,Nat.reduceGT,Nat.reduceBEq,reduceCtorEq,↓reduceIte,Int.reduceToNat,Int.reduceLE,Int.reduceLT,Int.reduceNe,Int.reduceEq];refine aq (Kx _ s hs _) ?_;have hwl:=fun w hw=>Se (rZ s.data.toList w hw) (by rw[aw];exact hs);generalize hws:gP s.data.toList=we at hwl;obtain⟨ws,e⟩:=we
  cases ws with
  |nil=>
   simp(maxDischargeDepth:=12) (maxSteps:=1000000) -implicitDefEqProofs only[go_sem,Nat.reduceAdd,Nat.reduceSub,Nat.reduceMul,Nat.reduceLeDiff,Nat.reduceEqDiff,Nat.reduceGT,Nat.reduceBEq,reduceCtorEq,↓reduceIte,Int.reduceToNat,Int.reduceLE,Int.reduceLT,Int.reduceNe,Int.reduceEq];refine⟨fun h=>by omega,fun _=>?_⟩;exact⟨pS R bp ln lu lq lg c,⟨.cons _ (.refl _),.refl _⟩,.inr ⟨c,by unfold kv;rw[hws];rfl,rfl,rfl⟩⟩
  |cons wd tl=>
   have hlf:kv c s.data.toList=cX c (wd::tl) e:=by unfold kv;rw[hws];rfl
   simp(maxDischargeDepth:=12) (maxSteps:=1000000) -implicitDefEqProofs only[go_sem,Nat.reduceAdd,Nat.reduceSub,Nat.reduceMul,Nat.reduceLeDiff,Nat.reduceEqDiff,Nat.reduceGT,Nat.reduceBEq,reduceCtorEq,↓reduceIte,Int.reduceToNat,Int.reduceLE,Int.reduceLT,Int.reduceNe,Int.reduceEq];refine⟨fun _=>?_,fun h=>by omega⟩;intro br;have f1:=af br (b4.n) (by simp(maxDischargeDepth:=12) (maxSteps:=1000000) -implicitDefEqProofs only[go_sem,Nat.reduceAdd,Nat.reduceSub,Nat.reduceMul,Nat.reduceLeDiff,Nat.reduceEqDiff,Nat.reduceGT,Nat.reduceBEq,reduceCtorEq,↓reduceIte,Int.reduceToNat,Int.reduceLE,Int.reduceLT,Int.reduceNe,Int.reduceEq]);have f2:=af br bp (by simp(maxDischargeDepth:=12) (maxSteps:=1000000) -implicitDefEqProofs only[go_sem,Nat.reduceAdd,Nat.reduceSub,Nat.reduceMul,Nat.reduceLeDiff,Nat.reduceEqDiff,Nat.reduceGT,Nat.reduceBEq,reduceCtorEq,↓reduceIte,Int.reduceToNat,Int.reduceLE,Int.reduceLT,Int.reduceNe,Int.reduceEq,a3]);have f1':(b4.n=br.n)=False:=by rw[←f1];exact propext eq_comm
   have f2':(bp=br.n)=False:=by rw[←f2];exact propext eq_comm
   have hbr:lk R.box br.n=none:=by simp(maxDischargeDepth:=12) (maxSteps:=1000000) -implicitDefEqProofs only[go_sem,Nat.reduceAdd,Nat.reduceSub,Nat.reduceMul,Nat.reduceLeDiff,Nat.reduceEqDiff,Nat.reduceGT,Nat.reduceBEq,reduceCtorEq,↓reduceIte,Int.reduceToNat,Int.reduceLE,Int.reduceLT,Int.reduceNe,Int.reduceEq]
   have hN:LW bp b4.n br.n ln lu lq lg:=⟨f1,f2,a3,f1',f2',cA,l1,l2,l3,l4,l5,l6,by rw[←l1];exact propext eq_comm,by rw[←l2];exact propext eq_comm,by rw[←l3];exact propext eq_comm,by rw[←l4];exact propext eq_comm,by rw[←l5];exact propext eq_comm,by rw[←l6];exact propext eq_comm⟩;refine bQ (MU ⟨w0.w,w0.gh,fun d T=>∃n:Nat,kv c s.data.toList= .inl n∧d= .fN 83 (dI n)∧Has X T⟩ hk hke R bp b4.n br.n ln lu lq lg hN hbr c hc hg (wd::tl) (by simp) hwl e (fun n hn T hT=>⟨n,by rw[hlf];exact hn,rfl,by rw[hX];exact hT⟩)) ?_;rintro _ _ ⟨c',hc',rfl,rfl⟩;simp(maxDischargeDepth:=12) (maxSteps:=1000000) -implicitDefEqProofs only[go_sem,Nat.reduceAdd,Nat.reduceSub,Nat.reduceMul,Nat.reduceLeDiff,Nat.reduceEqDiff,Nat.reduceGT,Nat.reduceBEq,reduceCtorEq,↓reduceIte,Int.reduceToNat,Int.reduceLE,Int.reduceLT,Int.reduceNe,Int.reduceEq,f1,f2,f1',f2',a3,cA];exact⟨pS R bp ln lu lq lg c',⟨.cons _ (.cons _ (.refl _)),.refl _⟩,.inr ⟨c',by rw[hlf];exact hc',rfl,rfl⟩⟩
 ·intro w;exact gj (BH (fz none) (fun _=>trivial) rfl ⟨b4.n,0,none⟩ w) fun e u w' h=>⟨⟨_,h.1⟩,h.2.1,h.2.2⟩
 ·rintro g T w v d r hv ⟨n,hn,rfl,hT⟩;obtain⟨u,rfl,hu⟩:=jA hv;have hu:=an hu;subst hu;have rX:=Kg r hT hXn hXa;obtain⟨us,e,hh,hru,hone,hset⟩:=rX.xw (ds':=[dI n]) hXb;obtain⟨u0,us0,e0,r0,r1⟩:=hru.ba;have hu0:=an r0;subst hu0;have hus0:us0=[]:=Rs (by have:=r1.len;simpa using this.symm);subst hus0;have hus:us= #[.int .i64 0]:=by rw[←Array.toArray_toList (xs:=us),e0]
  subst hus;refine gj (Fk (fz none) (fun _=>trivial) rfl ⟨b4.n,0,none⟩ 0 n [] w (by rw[bq hh];rfl) (by unfold World.frozen?;rw[hh];rfl)) ?_;rintro e' u' w' ⟨h1,h2,h3⟩;refine⟨⟨_,h1⟩,h2,g,⟨up X.box b4.n [dI n],X.acc⟩,.refl g,?_,?_⟩
  ·rw[h3,uV hh];exact hset #[.int .i64 n] (aa.cons (.v _ rfl) (aa.nil _)) (fun u hu=>by simp at hu;rw[hu];rfl)
  ·simp(maxDischargeDepth:=12) (maxSteps:=1000000) -implicitDefEqProofs only[go_sem,Nat.reduceAdd,Nat.reduceSub,Nat.reduceMul,Nat.reduceLeDiff,Nat.reduceEqDiff,Nat.reduceGT,Nat.reduceBEq,reduceCtorEq,↓reduceIte,Int.reduceToNat,Int.reduceLE,Int.reduceLT,Int.reduceNe,Int.reduceEq,hX];exact⟨pS R bp ln lu lq lg c,⟨.cons _ (.refl _),.refl _⟩,.inl ⟨n,hn,rfl,rfl⟩⟩
theorem um(l:List G):au (kK l)=fM l:=by
 refine DA (fun x=>(List.mergeSort_perm l _).mem_iff) ?_
 have h1:(kK l).Pairwise fun x y=>(!(ltOf iH) y x)=true:=by
  refine List.pairwise_mergeSort (le:=fun x y:G=>!(ltOf iH) y x) (fun a b c h k=>?_) (fun a b=>?_) l
  ·rw[Sc]at*;exact My.ntrans _ _ _ k h
  ·rw[SF,Sc,Sc,pr,pr]
   cases hh:eN b a with
   |false=>exact .inl rfl
   |true=>exact .inr (jt hh)
 exact h1.imp fun{x y} h=>by rw[Sc,pr]at h;exact h
@[go_sem] def rD (r:Option Cf×Nat×Nat):DV:= .bU [AJ (r.1.getD fZ),dI (if r.1.isSome then 0 else 13),dI r.2.1,dI r.2.2]
theorem Cw.fin{c:Cf}(h:Cw c)(hg:c.gr.length≤1048576):kj (gQ c) where
 L7:=by have:=h.le;show c.nm.length≤_;omega
 Od:=fun s hs=>by have:=(h.name s hs).short;omega
 Nv:=by show(aV c.up).length≤_;rw[jq];have:=h.le;have:=h.cu;omega
 vE:=fun x hx=>by
  obtain⟨i,hi⟩:=Su.1 hx;have:=yp x hi;exact nY (by have:=h.le;have:=h.cu;omega) this
 Nz:=by show c.qu.length≤_;have:=h.le;have:=h.eJ;omega
 Nl:=by
  show(fM c.gr).length≤_;rw[←um];have:=l7 (kK c.gr);rw[gl]at this;omega
theorem uQ(e k n:Int):Wk (.bU [.agg [.sl 0 true [],.sl 0 true [],.sl 0 true [],.sl 0 true []],dI e,dI k,dI n]) (.bU [AJ fZ,dI e,dI k,dI n]):=
 .bU (.cons (.agg (.cons (.nil _ _ _) (.cons (.nil _ _ _) (.cons (.nil _ _ _) (.cons (.nil _ _ _) trivial))))) (.cons (.refl _) (.cons (.refl _) (.cons (.refl _) trivial))))
theorem ie(w0:W0)(hk:KU w0)(hke:KE w0)(hm:KM w0)(hg:cV w0)(s:ByteArray)(hs:s.size≤1000000)(S:St):
 ab Tryz.prog w0 10 [dS s] S (fun d S'=>d=rD (cQ s.data.toList)∧S'=S):=by
 refine cR [] mx Tryz.func10 rfl rfl (by kernel_rfl) ?_;simp(maxDischargeDepth:=12) (maxSteps:=1000000) -implicitDefEqProofs only[Tryz.ntmps10,go_sem,Nat.reduceAdd,Nat.reduceSub,Nat.reduceMul,Nat.reduceLeDiff,Nat.reduceEqDiff,Nat.reduceGT,Nat.reduceBEq,reduceCtorEq,↓reduceIte,Int.reduceToNat,Int.reduceLE,Int.reduceLT,Int.reduceNe,Int.reduceEq];intro bt bp;refine aq (Li _ hm s (by omega) _) ?_;simp(maxDischargeDepth:=12) (maxSteps:=1000000) -implicitDefEqProofs only[go_sem,Nat.reduceAdd,Nat.reduceSub,Nat.reduceMul,Nat.reduceLeDiff,Nat.reduceEqDiff,Nat.reduceGT,Nat.reduceBEq,reduceCtorEq,↓reduceIte,Int.reduceToNat,Int.reduceLE,Int.reduceLT,Int.reduceNe,Int.reduceEq];generalize hls:im s.data.toList=ls;have hll:ls.length≤1000001:=by rw[←hls];have:=jk [] s.data.toList;unfold im;rw[aw]at this;omega
 have hlz:∀l,l∈ls→l.length≤1000000:=fun l hl=>by rw[←hls]at hl;have:=wj [] s.data.toList l hl;rw[aw]at this;simp at this;omega
 refine rk bp.n 0 1 (by omega) (ds:=[.sl 0 true [],.sl 0 true [],.sl 0 true [],.sl 0 true []]) (by simp(maxDischargeDepth:=12) (maxSteps:=1000000) -implicitDefEqProofs only[go_sem,Nat.reduceAdd,Nat.reduceSub,Nat.reduceMul,Nat.reduceLeDiff,Nat.reduceEqDiff,Nat.reduceGT,Nat.reduceBEq,reduceCtorEq,↓reduceIte,Int.reduceToNat,Int.reduceLE,Int.reduceLT,Int.reduceNe,Int.reduceEq]) rfl fun ln=>?_;refine dT bp.n 1 1 (by omega) (ds:=[.acc ln.n 0,.sl 0 true [],.sl 0 true [],.sl 0 true []]) (by simp(maxDischargeDepth:=12) (maxSteps:=1000000) -implicitDefEqProofs only[go_sem,Nat.reduceAdd,Nat.reduceSub,Nat.reduceMul,Nat.reduceLeDiff,Nat.reduceEqDiff,Nat.reduceGT,Nat.reduceBEq,reduceCtorEq,↓reduceIte,Int.reduceToNat,Int.reduceLE,Int.reduceLT,Int.reduceNe,Int.reduceEq]) rfl fun lu=>?_;refine dT bp.n 2 1 (by omega) (ds:=[.acc ln.n 0,.acc lu.n 0,.sl 0 true [],.sl 0 true []]) (by simp(maxDischargeDepth:=12) (maxSteps:=1000000) -implicitDefEqProofs only[go_sem,Nat.reduceAdd,Nat.reduceSub,Nat.reduceMul,Nat.reduceLeDiff,Nat.reduceEqDiff,Nat.reduceGT,Nat.reduceBEq,reduceCtorEq,↓reduceIte,Int.reduceToNat,Int.reduceLE,Int.reduceLT,Int.reduceNe,Int.reduceEq]) rfl fun lq=>?_;refine dT bp.n 3 3 (by omega) (ds:=[.acc ln.n 0,.acc lu.n 0,.acc lq.n 0,.sl 0 true []]) (by simp(maxDischargeDepth:=12) (maxSteps:=1000000) -implicitDefEqProofs only[go_sem,Nat.reduceAdd,Nat.reduceSub,Nat.reduceMul,Nat.reduceLeDiff,Nat.reduceEqDiff,Nat.reduceGT,Nat.reduceBEq,reduceCtorEq,↓reduceIte,Int.reduceToNat,Int.reduceLE,Int.reduceLT,Int.reduceNe,Int.reduceEq]) rfl fun lg=>?_;have hm8:maxLen=9223372036854775807:=rfl;have n6:=af lu ln.n (by simp(maxDischargeDepth:=12) (maxSteps:=1000000) -implicitDefEqProofs only[go_sem,Nat.reduceAdd,Nat.reduceSub,Nat.reduceMul,Nat.reduceLeDiff,Nat.reduceEqDiff,Nat.reduceGT,Nat.reduceBEq,reduceCtorEq,↓reduceIte,Int.reduceToNat,Int.reduceLE,Int.reduceLT,Int.reduceNe,Int.reduceEq]);have n5:=af lq ln.n (by simp(maxDischargeDepth:=12) (maxSteps:=1000000) -implicitDefEqProofs only[go_sem,Nat.reduceAdd,Nat.reduceSub,Nat.reduceMul,Nat.reduceLeDiff,Nat.reduceEqDiff,Nat.reduceGT,Nat.reduceBEq,reduceCtorEq,↓reduceIte,Int.reduceToNat,Int.reduceLE,Int.reduceLT,Int.reduceNe,Int.reduceEq,n6]);have n4:=af lq lu.n (by simp(maxDischargeDepth:=12) (maxSteps:=1000000) -implicitDefEqProofs only[go_sem,Nat.reduceAdd,Nat.reduceSub,Nat.reduceMul,Nat.reduceLeDiff,Nat.reduceEqDiff,Nat.reduceGT,Nat.reduceBEq,reduceCtorEq,↓reduceIte,Int.reduceToNat,Int.reduceLE,Int.reduceLT,Int.reduceNe,Int.reduceEq]);have n3:=af lg ln.n (by simp(maxDischargeDepth:=12) (maxSteps:=1000000) -implicitDefEqProofs only[go_sem,Nat.reduceAdd,Nat.reduceSub,Nat.reduceMul,Nat.reduceLeDiff,Nat.reduceEqDiff,Nat.reduceGT,Nat.reduceBEq,reduceCtorEq,↓reduceIte,Int.reduceToNat,Int.reduceLE,Int.reduceLT,Int.reduceNe,Int.reduceEq,n5,n6]);have n2:=af lg lu.n (by simp(maxDischargeDepth:=12) (maxSteps:=1000000) -implicitDefEqProofs only[go_sem,Nat.reduceAdd,Nat.reduceSub,Nat.reduceMul,Nat.reduceLeDiff,Nat.reduceEqDiff,Nat.reduceGT,Nat.reduceBEq,reduceCtorEq,↓reduceIte,Int.reduceToNat,Int.reduceLE,Int.reduceLT,Int.reduceNe,Int.reduceEq,n4]);have n1:=af lg lq.n (by simp(maxDischargeDepth:=12) (maxSteps:=1000000) -implicitDefEqProofs only[go_sem,Nat.reduceAdd,Nat.reduceSub,Nat.reduceMul,Nat.reduceLeDiff,Nat.reduceEqDiff,Nat.reduceGT,Nat.reduceBEq,reduceCtorEq,↓reduceIte,Int.reduceToNat,Int.reduceLE,Int.reduceLT,Int.reduceNe,Int.reduceEq]);have m1:(lq.n=lg.n)=False:=by rw[←n1];exact propext eq_comm
 have m2:(lu.n=lg.n)=False:=by rw[←n2];exact propext eq_comm
 have m3:(ln.n=lg.n)=False:=by rw[←n3];exact propext eq_comm
 have m4:(lu.n=lq.n)=False:=by rw[←n4];exact propext eq_comm
 have m5:(ln.n=lq.n)=False:=by rw[←n5];exact propext eq_comm
 have m6:(ln.n=lu.n)=False:=by rw[←n6];exact propext eq_comm
 have b1:=af bp bt.n (by simp(maxDischargeDepth:=12) (maxSteps:=1000000) -implicitDefEqProofs only[go_sem,Nat.reduceAdd,Nat.reduceSub,Nat.reduceMul,Nat.reduceLeDiff,Nat.reduceEqDiff,Nat.reduceGT,Nat.reduceBEq,reduceCtorEq,↓reduceIte,Int.reduceToNat,Int.reduceLE,Int.reduceLT,Int.reduceNe,Int.reduceEq]);have b2:(bt.n=bp.n)=False:=by rw[←b1];exact propext eq_comm
 refine bS [] [2,6,13,14,15] (σ:=Nat×Cf) (fun p=>[(2,.v (.pointer (some ⟨bt.n,0,none⟩))),(6,.v (.pointer (some ⟨bp.n,0,none⟩))),(13,.sl 1 true (aU ls)),(14,dI ls.length),(15,dI p.1)]) (fun p=>pS ⟨(bt.n,[.sl 0 true [],.sl 0 true [],.sl 0 true [],.sl 0 true []])::S.box,S.acc⟩ bp.n ln.n lu.n lq.n lg.n p.2) (fun p=>p.1≤ls.length∧Cw p.2∧p.2.gr.length≤p.1∧pL fZ 1 ls=pL p.2 (p.1+1) (ls.drop p.1)) (fun p=>ls.length-p.1) (0,fZ) mx (by kernel_rfl) ⟨⟨RL _,L6,Ro _,rfl⟩,?_⟩ fun p hp=>?_
 ·simp(maxDischargeDepth:=12) (maxSteps:=1000000) -implicitDefEqProofs only[go_sem,Nat.reduceAdd,Nat.reduceSub,Nat.reduceMul,Nat.reduceLeDiff,Nat.reduceEqDiff,Nat.reduceGT,Nat.reduceBEq,reduceCtorEq,↓reduceIte,Int.reduceToNat,Int.reduceLE,Int.reduceLT,Int.reduceNe,Int.reduceEq];exact .refl _
 ·obtain⟨k,c⟩:=p;obtain⟨k1,k2,k3,k4⟩:=hp;simp only at k1 k2 k3 k4;by_cases hkl:k<ls.length
  ·have hx:ls[k]? =some ls[k]:=so hkl;have hdr:ls.drop k=ls[k]::ls.drop (k+1):=(Tq hkl).symm;rw[hdr,pL]at k4;generalize ls[k]=x at hx hdr k4;have hr0:∀n,kv c x= .inl n→1≤n:=fun n h=>(td h).1;have e1:IntKind.i64.wrap ((k:Int)+1)=((k+1:Nat):Int):=ax (by omega);simp(maxDischargeDepth:=12) (maxSteps:=1000000) -implicitDefEqProofs only[go_sem,Nat.reduceAdd,Nat.reduceSub,Nat.reduceMul,Nat.reduceLeDiff,Nat.reduceEqDiff,Nat.reduceGT,Nat.reduceBEq,reduceCtorEq,↓reduceIte,Int.reduceToNat,Int.reduceLE,Int.reduceLT,Int.reduceNe,Int.reduceEq,hx];refine⟨fun _=>⟨hkl,?_⟩,fun h=>absurd hkl h⟩;have ht:=Pm w0 hk hke ⟨(bt.n,[.sl 0 true [],.sl 0 true [],.sl 0 true [],.sl 0 true []])::S.box,S.acc⟩ bp.n ln.n lu.n lq.n lg.n n1 n2 n3 n4 n5 n6 c k2 (by omega) (tx x) (by rw[aP];have:=hlz x (Rj hx);omega);rw[aK]at ht;refine bQ ht ?_;rintro _ _ (⟨n,hn,rfl,rfl⟩|⟨c',hc',rfl,rfl⟩)
   ·rw[hn]at k4;have hn1:=hr0 n hn;have hpf:cQ s.data.toList=(none,k+1,n):=by unfold cQ;rw[hls,k4]
    rw[hpf];simp(maxDischargeDepth:=12) (maxSteps:=1000000) -implicitDefEqProofs only[go_sem,Nat.reduceAdd,Nat.reduceSub,Nat.reduceMul,Nat.reduceLeDiff,Nat.reduceEqDiff,Nat.reduceGT,Nat.reduceBEq,reduceCtorEq,↓reduceIte,Int.reduceToNat,Int.reduceLE,Int.reduceLT,Int.reduceNe,Int.reduceEq,n1,n2,n3,n4,n5,n6,m1,m2,m3,m4,m5,m6,b1,b2,e1];refine⟨fun _=>uQ _ _ _,fun h=>by omega⟩
   ·rw[hc']at k4;have hc1:=Fs k2 hc';simp(maxDischargeDepth:=12) (maxSteps:=1000000) -implicitDefEqProofs only[go_sem,Nat.reduceAdd,Nat.reduceSub,Nat.reduceMul,Nat.reduceLeDiff,Nat.reduceEqDiff,Nat.reduceGT,Nat.reduceBEq,reduceCtorEq,↓reduceIte,Int.reduceToNat,Int.reduceLE,Int.reduceLT,Int.reduceNe,Int.reduceEq,n1,n2,n3,n4,n5,n6,m1,m2,m3,m4,m5,m6,b1,b2,e1];refine⟨fun h=>by omega,fun _=>⟨(k+1,c'),⟨by show k+1≤_;omega,hc1.1,by show c'.gr.length≤k+1;have:=hc1.2;omega,k4⟩,by show ls.length-(k+1)<_;omega,rfl,.refl _⟩⟩
  ·have hdr:ls.drop k=[]:=Tp (by omega);rw[hdr,pL]at k4;simp(maxDischargeDepth:=12) (maxSteps:=1000000) -implicitDefEqProofs only[go_sem,Nat.reduceAdd,Nat.reduceSub,Nat.reduceMul,Nat.reduceLeDiff,Nat.reduceEqDiff,Nat.reduceGT,Nat.reduceBEq,reduceCtorEq,↓reduceIte,Int.reduceToNat,Int.reduceLE,Int.reduceLT,Int.reduceNe,Int.reduceEq];refine⟨fun h=>absurd h hkl,fun _=>?_⟩;have hu:dD c.up:=fun x hx=>nY k2.le (k2.bit x hx);refine .inr (aq (Fv _ c.up hu (by rw[k2.cu];exact k2.le) _) ?_);simp(maxDischargeDepth:=12) (maxSteps:=1000000) -implicitDefEqProofs only[go_sem,Nat.reduceAdd,Nat.reduceSub,Nat.reduceMul,Nat.reduceLeDiff,Nat.reduceEqDiff,Nat.reduceGT,Nat.reduceBEq,reduceCtorEq,↓reduceIte,Int.reduceToNat,Int.reduceLE,Int.reduceLT,Int.reduceNe,Int.reduceEq,n1,n2,n3,n4,n5,n6,m1,m2,m3,m4,m5,m6,b1,b2];refine .inl (bQ (vR _ (l:=lg.n) (zs:=c.gr) (by simp(maxDischargeDepth:=12) (maxSteps:=1000000) -implicitDefEqProofs only[go_sem,Nat.reduceAdd,Nat.reduceSub,Nat.reduceMul,Nat.reduceLeDiff,Nat.reduceEqDiff,Nat.reduceGT,Nat.reduceBEq,reduceCtorEq,↓reduceIte,Int.reduceToNat,Int.reduceLE,Int.reduceLT,Int.reduceNe,Int.reduceEq,n1,n2,n3,n4,n5,n6,m1,m2,m3,m4,m5,m6,b1,b2]) (by omega)) ?_);rintro _ _ ⟨rfl,rfl⟩;simp(maxDischargeDepth:=12) (maxSteps:=1000000) -implicitDefEqProofs only[go_sem,Nat.reduceAdd,Nat.reduceSub,Nat.reduceMul,Nat.reduceLeDiff,Nat.reduceEqDiff,Nat.reduceGT,Nat.reduceBEq,reduceCtorEq,↓reduceIte,Int.reduceToNat,Int.reduceLE,Int.reduceLT,Int.reduceNe,Int.reduceEq,n1,n2,n3,n4,n5,n6,m1,m2,m3,m4,m5,m6,b1,b2];have hsl:=gl c.gr;refine .inl (bQ (DX _ _ lg.n (kK c.gr) (by simp(maxDischargeDepth:=12) (maxSteps:=1000000) -implicitDefEqProofs only[go_sem,Nat.reduceAdd,Nat.reduceSub,Nat.reduceMul,Nat.reduceLeDiff,Nat.reduceEqDiff,Nat.reduceGT,Nat.reduceBEq,reduceCtorEq,↓reduceIte,Int.reduceToNat,Int.reduceLE,Int.reduceLT,Int.reduceNe,Int.reduceEq,n1,n2,n3,n4,n5,n6,m1,m2,m3,m4,m5,m6,b1,b2]) (by omega)) ?_ (by rw[hsl];exact eR.refl _));rintro _ _ ⟨m,rfl,hm',rfl⟩;have q1:=hm' lq.n (.arr 1 (c.qu.map dI)) (by simp(maxDischargeDepth:=12) (maxSteps:=1000000) -implicitDefEqProofs only[go_sem,Nat.reduceAdd,Nat.reduceSub,Nat.reduceMul,Nat.reduceLeDiff,Nat.reduceEqDiff,Nat.reduceGT,Nat.reduceBEq,reduceCtorEq,↓reduceIte,Int.reduceToNat,Int.reduceLE,Int.reduceLT,Int.reduceNe,Int.reduceEq,n1,n2,n3,n4,n5,n6,m1,m2,m3,m4,m5,m6,b1,b2]) (by rw[m1];exact id);have q2:=hm' lu.n (.tl 1 (c.up.map fun x:Nat=>dU (x:Int))) (by simp(maxDischargeDepth:=12) (maxSteps:=1000000) -implicitDefEqProofs only[go_sem,Nat.reduceAdd,Nat.reduceSub,Nat.reduceMul,Nat.reduceLeDiff,Nat.reduceEqDiff,Nat.reduceGT,Nat.reduceBEq,reduceCtorEq,↓reduceIte,Int.reduceToNat,Int.reduceLE,Int.reduceLT,Int.reduceNe,Int.reduceEq,n1,n2,n3,n4,n5,n6,m1,m2,m3,m4,m5,m6,b1,b2]) (by rw[m2];exact id);have q3:=hm' ln.n (.tl 1 (aU c.nm)) (by simp(maxDischargeDepth:=12) (maxSteps:=1000000) -implicitDefEqProofs only[go_sem,Nat.reduceAdd,Nat.reduceSub,Nat.reduceMul,Nat.reduceLeDiff,Nat.reduceEqDiff,Nat.reduceGT,Nat.reduceBEq,reduceCtorEq,↓reduceIte,Int.reduceToNat,Int.reduceLE,Int.reduceLT,Int.reduceNe,Int.reduceEq,n1,n2,n3,n4,n5,n6,m1,m2,m3,m4,m5,m6,b1,b2]) (by rw[m3];exact id);have q1r:(lq.n=m)=False:=by rw[←q1];exact propext eq_comm
   have q2r:(lu.n=m)=False:=by rw[←q2];exact propext eq_comm
   have q3r:(ln.n=m)=False:=by rw[←q3];exact propext eq_comm
   rw[um];simp(maxDischargeDepth:=12) (maxSteps:=1000000) -implicitDefEqProofs only[go_sem,Nat.reduceAdd,Nat.reduceSub,Nat.reduceMul,Nat.reduceLeDiff,Nat.reduceEqDiff,Nat.reduceGT,Nat.reduceBEq,reduceCtorEq,↓reduceIte,Int.reduceToNat,Int.reduceLE,Int.reduceLT,Int.reduceNe,Int.reduceEq,n1,n2,n3,n4,n5,n6,m1,m2,m3,m4,m5,m6,b1,b2,q1,q2,q3,q1r,q2r,q3r];refine aq (me _ hg hk (gQ c) (k2.fin (by omega)) _) ?_;have hpf:cQ s.data.toList=if pB (gv (gQ c))then(some (gQ c),0,0)else(none,0,0):=by unfold cQ;rw[hls,k4]
   rw[hpf];by_cases hc:gv (gQ c)
   ·rw[aI hc];simp(maxDischargeDepth:=12) (maxSteps:=1000000) -implicitDefEqProofs only[go_sem,Nat.reduceAdd,Nat.reduceSub,Nat.reduceMul,Nat.reduceLeDiff,Nat.reduceEqDiff,Nat.reduceGT,Nat.reduceBEq,reduceCtorEq,↓reduceIte,Int.reduceToNat,Int.reduceLE,Int.reduceLT,Int.reduceNe,Int.reduceEq,n1,n2,n3,n4,n5,n6,m1,m2,m3,m4,m5,m6,b1,b2,q1,q2,q3,q1r,q2r,q3r];exact .refl _
   ·rw[aS hc];simp(maxDischargeDepth:=12) (maxSteps:=1000000) -implicitDefEqProofs only[go_sem,Nat.reduceAdd,Nat.reduceSub,Nat.reduceMul,Nat.reduceLeDiff,Nat.reduceEqDiff,Nat.reduceGT,Nat.reduceBEq,reduceCtorEq,↓reduceIte,Int.reduceToNat,Int.reduceLE,Int.reduceLT,Int.reduceNe,Int.reduceEq,n1,n2,n3,n4,n5,n6,m1,m2,m3,m4,m5,m6,b1,b2,q1,q2,q3,q1r,q2r,q3r];exact uQ _ _ _
theorem rY{c:Cf}(hc:gv c):∀ws,ws∈vV c→ws≠[]∧∀w,w∈ws→Tok w:=fun ws h=>by
 have hnm:∀i,i<c.nm.length→Tok (c.nm.getD i []):=fun i hi=>by
  have hx:c.nm[i]? =some c.nm[i]:=so hi;rw[Rl,hx];exact(hc.name _ (TE hi)).tok
 have hl1:=hc.cu;have hl2:=hc.eJ;unfold vV at h;rcases RB.1 h with h|h
 ·rcases RB.1 h with h|h
  ·obtain⟨i,hi,rfl⟩:=RI.1 h;rw[Si]at hi;refine⟨by simp[o8],fun w hw=>?_⟩;have hq:c.qu[i]? =some (c.qu[i]'(by omega)):=so _;have e2:c.qu.getD i 0=c.qu[i]'(by omega):=by rw[Rl,hq];rfl
   simp only[o8,Rv,SL,or_false]at hw;rcases hw with rfl|rfl|rfl
   ·exact ID
   ·exact hnm i hi
   ·rw[e2];exact Dc (hc.quo _ (Rj hq))
  ·rw[vc]at h;obtain⟨p,hp,rfl⟩:=RI.1 h;obtain⟨q1,q2,q3⟩:=(nA hc).1 hp;have:=hc.tK.cl.lt _ _ q2;refine⟨by simp[kO],fun w hw=>?_⟩;simp only[kO,Rv,SL,or_false]at hw;rcases hw with rfl|rfl|rfl
   ·exact HA
   ·exact hnm _ (by omega)
   ·exact hnm _ (by omega)
 ·obtain⟨g,hg,rfl⟩:=RI.1 h;obtain⟨a,f,t,rfl,h1,h2,h3⟩:=FG hc hg;refine⟨by simp[qw],fun w hw=>?_⟩;simp only[qw,Rv,SL,or_false]at hw;rcases hw with rfl|rfl|rfl|rfl
  ·exact G7
  ·exact hnm _ (by simp;omega)
  ·exact hnm _ (by simp;omega)
  ·exact hnm _ (by simp;omega)
theorem kA{sep:List UInt8}(hs:∀x,x∈sep→x≠10):∀ws:List (List UInt8),(∀w,w∈ws→Tok w)→∀x,x∈uS sep ws→x≠10
 |[],h,x,hx=>by simp[uS]at hx
 |[w],h,x,hx=>by rw[uS]at hx;exact((h w (by simp)).KZ x hx).1
 |w::w2::r,h,x,hx=>by
  rw[uS]at hx
  ·rcases RB.1 hx with hx|hx
   ·exact((h w (by simp)).KZ x hx).1
   ·rcases RB.1 hx with hx|hx
    ·exact hs x hx
    ·exact kA hs (w2::r) (fun y hy=>h y (Rr _ hy)) x hx
  ·simp
theorem LJ:Sp [32]:=⟨by decide,by decide⟩
theorem E0:Sp [9,32,32]:=⟨by decide,by decide⟩
theorem zY:∀L:List (List (List UInt8)),(∀ws,ws∈L→ws≠[]∧∀w,w∈ws→Tok w)→im (L.flatMap ai)=L.map jn++[[]]∧LO L (L.map jn++[[]])
 |[],h=>⟨rfl,.blank [] rfl .nil⟩
 |ws::L,h=>by
  obtain⟨h1,h2⟩:=h ws (by simp);obtain⟨i1,i2⟩:=zY L fun x hx=>h x (Rr _ hx);have hno:=kA (sep:=[32]) (by decide) ws h2;have hts:=s7 LJ (tail:=[]) (fun w=>rfl) ws h1 h2;rw[yF]at hno hts;rw[RU]at hts;refine⟨?_,.line _ hts i2⟩;rw[Sd];unfold ai;rw[RJ];show im (jn ws++10::L.flatMap ai)=_;rw[gT hno,i1];rfl
theorem vq{c:Cf}(hc:gv c):cQ (ll c)=(some c,0,0):=by
 obtain⟨r,h1,h2⟩:=EB hc;obtain⟨i1,i2⟩:=zY (vV c) (rY hc);unfold cQ ll;rw[aI hc,if_pos rfl,i1,Ei i2 1 h1];simp only[h2];rw[aI hc,if_pos rfl]
theorem K0{c:Cf}(hc:gv c):ll c≠[]:=by
 unfold ll;rw[aI hc,if_pos rfl];have hl:0<c.nm.length:=by have:=hc.cu;have:=hc.tK.pos;omega
 unfold vV bz;obtain⟨m,hm⟩:∃m,c.nm.length=m+1:=⟨c.nm.length-1,by omega⟩;rw[hm,List.range_succ_eq_map];simp[ai]
def iC(note:List UInt8)(x:UInt8):List UInt8:=if x=10 then [32,9,35]++note++[10,32,10]else if x=32 then [9,32,32]else [x]
theorem wq(note:List UInt8):∀w:List UInt8,(∀x,x∈w→x≠10∧x≠32∧x≠9∧x≠35)→w.flatMap (iC note)=w
 |[],h=>rfl
 |x::w,h=>by
  obtain⟨h1,h2,_⟩:=h x (by simp);rw[Sd,wq note w fun y hy=>h y (Rr _ hy)];unfold iC;rw[if_neg h1,if_neg h2];rfl
theorem JB(note:List UInt8):∀ws:List (List UInt8),(∀w,w∈ws→Tok w)→(jn ws).flatMap (iC note)=uS [9,32,32] ws
 |[],h=>rfl
 |[w],h=>by rw[jn,uS];exact wq note w (h w (by simp)).KZ
 |w::w2::r,h=>by
  rw[jn,uS,RR,Sd,wq note w (h w (by simp)).KZ,JB note (w2::r) fun y hy=>h y (Rr _ hy)]
  ·rfl
  ·simp
  ·simp
theorem DN(note:List UInt8)(hn:∀x,x∈note→x≠10):∀L:List (List (List UInt8)),(∀ws,ws∈L→ws≠[]∧∀w,w∈ws→Tok w)→∃ls,im ((L.flatMap ai).flatMap (iC note))=ls∧LO L ls
 |[],h=>⟨[[]],rfl,.blank [] rfl .nil⟩
 |ws::L,h=>by
  obtain⟨h1,h2⟩:=h ws (by simp);obtain⟨ls,i1,i2⟩:=DN note hn L fun x hx=>h x (Rr _ hx);have hno:=kA (sep:=[9,32,32]) (by decide) ws h2
  have htl:∀w,rA (some w) (ak ([32,9,35]++note))=[w]:=fun w=>by
   rw[show [32,9,35]++note=(32:UInt8)::9::35::note from rfl,aM (by decide),aM (by decide),aM (by decide)];rfl
  have hts:=s7 E0 htl ws h1 h2;refine⟨(uS [9,32,32] ws++([32,9,35]++note))::[32]::ls,?_,.line _ hts (.blank [32] ?_ i2)⟩
  ·rw[Sd,RR];unfold ai;rw[RR,JB note ws h2];have e:(([10]:List UInt8).flatMap (iC note))=[32,9,35]++note++[10,32,10]:=by simp[iC]
   rw[e];have e2:uS [9,32,32] ws++([32,9,35]++note++[10,32,10])++(L.flatMap ai).flatMap (iC note)=(uS [9,32,32] ws++([32,9,35]++note))++10::([32]++10::(L.flatMap ai).flatMap (iC note)):=by simp
   have i1':im ((L.flatMap fun ws=>jn ws++[10]).flatMap (iC note))=ls:=i1;show im (uS [9,32,32] ws++([32,9,35]++note++[10,32,10])++(L.flatMap ai).flatMap (iC note))=_;rw[e2,gT,gT,i1]
   ·intro x hx;simp at hx;rw[hx];decide
   ·intro x hx;rcases RB.1 hx with hx|hx
    ·exact hno x hx
    ·rcases RB.1 hx with hx|hx
     ·simp at hx;rcases hx with rfl|rfl|rfl <;>decide
     ·exact hn x hx
  ·unfold Gw;rw[show([32]:List UInt8)=[32]++[]from rfl,xt [32] [] (by decide)];rfl
theorem HK{c:Cf}(hc:gv c)(note:List UInt8)(hn:∀x,x∈note→x≠10):cQ (35::note++[10]++(ll c).flatMap (iC note))=(some c,0,0):=by
 obtain⟨r,h1,h2⟩:=EB hc;obtain⟨ls,i1,i2⟩:=DN note hn (vV c) (rY hc);have e:ll c=(vV c).flatMap ai:=by unfold ll;rw[aI hc,if_pos rfl]
 unfold cQ;rw[e,RJ]
 show(match pL fZ 1 (im ((35::note)++10::(((vV c).flatMap ai).flatMap (iC note))))with
  | .inl x=>(none,x.1,x.2)
  | .inr c=>if pB (gv (gQ c))then(some (gQ c),0,0)else(none,0,0))=_
 rw[gT (fun x hx=>?_),i1,Ei (.blank (35::note) ?_ i2) 1 h1]
 ·simp only[h2];rw[aI hc,if_pos rfl]
 ·unfold Gw;rw[aM (by decide)];rfl
 ·rcases Rv.1 hx with rfl|hx
  ·decide
  ·exact hn x hx
theorem zb{s:List UInt8}{c:Cf}(h:(cQ s).1=some c):gv c∧cQ s=(some c,0,0):=by
 unfold cQ at h ⊢;split at h
 ·cases h
 ·rename_i c1 _;by_cases hc:gv (gQ c1)
  ·rw[aI hc,if_pos rfl]at h ⊢;cases h;exact⟨hc,rfl⟩
  ·rw[aS hc]at h;cases h
theorem IE{s:List UInt8}(h:(cQ s).1=none):cQ s=(none,0,0)∨∃x,pL fZ 1 (im s)= .inl x∧cQ s=(none,x.1,x.2):=by
 unfold cQ at h ⊢;split at h
 ·rename_i x hx;exact .inr ⟨x,hx,rfl⟩
 ·rename_i c1 _;by_cases hc:gv (gQ c1)
  ·rw[aI hc,if_pos rfl]at h;cases h
  ·rw[aS hc];exact .inl rfl
theorem AQ{s:List UInt8}{x:Nat×Nat}(h:pL fZ 1 (im s)= .inl x)(t:List UInt8):cQ (s++10::t)=(none,x.1,x.2):=by
 unfold cQ;rw[Hv,Eh,h]
theorem y8(s:List UInt8)(hs:s.length≤1000000):kj ((cQ s).1.getD fZ):=by
 unfold cQ;split
 ·exact L6.J2 (by decide)
 ·rename_i c1 hc1;obtain⟨h1,h2⟩:=Jw L6 hc1;have hll:(im s).length≤s.length+1:=jk [] s;split
  ·exact Cw.fin h1 (by simp[fZ]at h2;omega)
  ·exact L6.J2 (by decide)
theorem fh{α:Type}{l:List α}{i:Nat}{x:α}(h:l[i]? =some x):l.take (i+1)=l.take i++[x]:=by rw[Sm,h];rfl
theorem th{c:Cf}{i:Nat}(h:i<c.nm.length):(bz c)[i]? =some (o8 c i):=by
 unfold bz;rw[Rt,R9 h];rfl
def cS(c:Cf)(a:Nat):List (List (List UInt8)):=(List.range a).flatMap (mT c)
theorem kq(c:Cf)(a:Nat):cS c (a+1)=cS c a++mT c a:=by unfold cS;rw[Tv,RR,List.flatMap_singleton]
theorem jj(c:Cf):∀a,(cS c a).length≤64*a
 |0=>by simp[cS]
 |a+1=>by
  rw[kq,Rk];have:=jj c a;have:=Ez c a;omega
theorem gL(c:Cf):cS c c.up.length=mM c:=rfl
def jH(c:Cf)(a j:Nat):List (List (List UInt8)):=(((ay (c.up.getD a 0)).take j).filter fun b=>decide (a≠b)).map (kO c a)
theorem E5(c:Cf)(a:Nat):jH c a (ay (c.up.getD a 0)).length=mT c a:=by unfold jH mT;rw[List.take_length]
theorem BL{c:Cf}{a j b:Nat}(h:(ay (c.up.getD a 0))[j]? =some b):jH c a (j+1)=if a=b then jH c a j else jH c a j++[kO c a b]:=by
 unfold jH;rw[fh h,TL,R8];split
 ·rename_i e;rw[TJ (by simp[e])];simp
 ·rename_i e;rw[List.filter_cons_of_pos (by simp[e])];simp
theorem EK(c:Cf)(a j:Nat):(jH c a j).length≤64:=by
 unfold jH;rw[RM];refine Se (Tw _ _) (Se ?_ (lL (c.up.getD a 0)));rw[RA];omega
theorem mi{c:Cf}(hc:gv c):(∀w,w∈bz c→(ai w).length≤200)∧(∀a w,w∈mT c a→(ai w).length≤200)∧(∀w,w∈dv c→(ai w).length≤200):=by
 refine⟨fun w hw=>?_,fun a w hw=>?_,fun w hw=>?_⟩
 ·obtain⟨i,hi,rfl⟩:=RI.1 hw;exact GK hc (Si.1 hi)
 ·obtain⟨b,_,rfl⟩:=RI.1 hw;exact kZ hc a b
 ·obtain⟨g,_,rfl⟩:=RI.1 hw;exact sE hc g
theorem yM{c:Cf}(hc:gv c):ll c=(bz c++mM c++dv c).flatMap ai:=by unfold ll;rw[aI hc];rfl
theorem wI{c:Cf}(hc:¬gv c):ll c=[]:=by unfold ll;rw[aS hc];rfl
theorem Jt{c:Cf}(hc:gv c){g:G}(hg:g∈c.gr):∃a f t:Nat,g=⟨(a:Int),(f:Int),(t:Int)⟩∧a<c.up.length∧f<c.up.length∧t<c.up.length:=by
 have h:=hc.vu.2.1 g hg;unfold tG at h;simp only[Rm]at h;obtain⟨⟨h1,h2⟩,_⟩:=h;rw[lz]at h1 h2;obtain⟨x,y,z⟩:=g;simp only at h1 h2;refine⟨x.toNat,y.toNat,z.toNat,?_,by omega,by omega,by omega⟩;rw[S5 (by omega),S5 (by omega),S5 (by omega)]
theorem iw{c:Cf}(hc:gv c){a:Nat}(h:a<c.up.length):c.nm[a]? =some (c.nm.getD a []):=by
 have:a<c.nm.length:=by have:=hc.cu;omega
 rw[Rl,so this];rfl
theorem qH(w0:W0)(hg:cV w0)(hk:KU w0)(hp:KP w0)(c:Cf)(hc:kj c)(S:St):ab Tryz.prog w0 17 [AJ c] S (fun d S'=>d=dS (tx (ll c))∧S'=S):=by
 refine cR [3,17,23] mx Tryz.func17 rfl rfl (by kernel_rfl) ?_;simp(maxDischargeDepth:=12) (maxSteps:=1000000) -implicitDefEqProofs only[Tryz.ntmps17,go_sem,Nat.reduceAdd,Nat.reduceSub,Nat.reduceMul,Nat.reduceLeDiff,Nat.reduceEqDiff,Nat.reduceGT,Nat.reduceBEq,reduceCtorEq,↓reduceIte,Int.reduceToNat,Int.reduceLE,Int.reduceLT,Int.reduceNe,Int.reduceEq];intro bc;refine aq (me _ hg hk c hc _) ?_;by_cases hcp:gv c
 ·rw[aI hcp,yM hcp];simp(maxDischargeDepth:=12) (maxSteps:=1000000) -implicitDefEqProofs only[go_sem,Nat.reduceAdd,Nat.reduceSub,Nat.reduceMul,Nat.reduceLeDiff,Nat.reduceEqDiff,Nat.reduceGT,Nat.reduceBEq,reduceCtorEq,↓reduceIte,Int.reduceToNat,Int.reduceLE,Int.reduceLT,Int.reduceNe,Int.reduceEq];refine Py 5 rfl rfl (by kernel_rfl) rfl fun kb lb=>?_;simp(maxDischargeDepth:=12) (maxSteps:=1000000) -implicitDefEqProofs only[go_sem,Nat.reduceAdd,Nat.reduceSub,Nat.reduceMul,Nat.reduceLeDiff,Nat.reduceEqDiff,Nat.reduceGT,Nat.reduceBEq,reduceCtorEq,↓reduceIte,Int.reduceToNat,Int.reduceLE,Int.reduceLT,Int.reduceNe,Int.reduceEq];have h0:=hk.1;obtain⟨s1,s2,s3⟩:=mi hcp;have hnl:=hcp.cu;have hql:=hcp.eJ;have hle:=hcp.tK.le;have hgl:=hcp.vu.1;have hF:∀(bs:List UInt8) (T:St) (ws:List (List UInt8)),lk T.acc lb.n=some (Cz kb bs)→ws≠[]→ws.length≤4→bs.length≤10000000→(ai ws).length≤200→ab Tryz.prog w0 43 [.sl 1 false (aU ws),.v (.pointer (some ⟨kb,0,none⟩))] T (fun d S'=>d= .bU []∧S'=⟨T.box,up T.acc lb.n (Cz kb (bs++ai ws))⟩):=fun bs T ws q1 q2 q3 q4 q5=>Lw w0 h0 T lb.n kb bs q1 ws q2 (by omega) q4 (by omega);have f1:∀i,((bz c).take i).length≤64:=fun i=>by rw[RA];unfold bz;rw[RM,SJ];omega
  have z1:∀i,(((bz c).take i).flatMap ai).length≤20000:=fun i=>by
   have:=dP (L:=(bz c).take i) fun w hw=>s1 w (RY hw);have:=f1 i;omega
  refine bS [3,17,23] [1,3,4,17,18,19] (σ:=Nat) (fun i=>[(1,.v (.pointer (some ⟨bc.n,0,none⟩))),(3,.v (.pointer (some ⟨kb,0,none⟩))),(4,.v (.func (.func 43) #[] #[.pointer (some ⟨kb,0,none⟩)])),(17,.sl 1 false (aU c.nm)),(18,dI c.nm.length),(19,dI i)]) (fun i=>⟨(bc.n,[.sl 1 false (aU c.nm),eH c.up,nJ c.qu,lN c.gr])::S.box,(lb.n,Cz kb (((bz c).take i).flatMap ai))::S.acc⟩) (fun i=>i≤c.nm.length) (fun i=>c.nm.length-i) 0 mx (by kernel_rfl) ⟨RL _,?_⟩ fun i hi=>?_
  ·simp(maxDischargeDepth:=12) (maxSteps:=1000000) -implicitDefEqProofs only[go_sem,Nat.reduceAdd,Nat.reduceSub,Nat.reduceMul,Nat.reduceLeDiff,Nat.reduceEqDiff,Nat.reduceGT,Nat.reduceBEq,reduceCtorEq,↓reduceIte,Int.reduceToNat,Int.reduceLE,Int.reduceLT,Int.reduceNe,Int.reduceEq];exact .refl _
  by_cases hil:i<c.nm.length
  ·have e1:IntKind.i64.wrap ((i:Int)+1)=((i+1:Nat):Int):=ax (by omega);have hx:=iw hcp (a:=i) (by omega);have hq:c.qu[i]? =some (c.qu.getD i 0):=by rw[Rl,so (by omega)];rfl
   have hqr:=hcp.quo _ (Rj hq);have hlw:[fO,c.nm.getD i [],Lib.itoa (c.qu.getD i 0)]=o8 c i:=rfl;have hls:=s1 _ (Rj (th hil));have hts:=fh (th hil);have hz:=z1 i;generalize c.nm.getD i []=x at hx hlw;generalize c.qu.getD i 0=q at hq hqr hlw;simp(maxDischargeDepth:=12) (maxSteps:=1000000) -implicitDefEqProofs only[go_sem,Nat.reduceAdd,Nat.reduceSub,Nat.reduceMul,Nat.reduceLeDiff,Nat.reduceEqDiff,Nat.reduceGT,Nat.reduceBEq,reduceCtorEq,↓reduceIte,Int.reduceToNat,Int.reduceLE,Int.reduceLT,Int.reduceNe,Int.reduceEq,hx,hq,e1];refine⟨fun _=>⟨hil,by omega,aq (MB _ hp q (by omega) (by omega) _) ?_⟩,fun h=>absurd hil h⟩;simp(maxDischargeDepth:=12) (maxSteps:=1000000) -implicitDefEqProofs only[go_sem,Nat.reduceAdd,Nat.reduceSub,Nat.reduceMul,Nat.reduceLeDiff,Nat.reduceEqDiff,Nat.reduceGT,Nat.reduceBEq,reduceCtorEq,↓reduceIte,Int.reduceToNat,Int.reduceLE,Int.reduceLT,Int.reduceNe,Int.reduceEq,hx,hq,e1];refine bQ (hF (((bz c).take i).flatMap ai) _ [fO,x,Lib.itoa q] (by simp(maxDischargeDepth:=12) (maxSteps:=1000000) -implicitDefEqProofs only[go_sem,Nat.reduceAdd,Nat.reduceSub,Nat.reduceMul,Nat.reduceLeDiff,Nat.reduceEqDiff,Nat.reduceGT,Nat.reduceBEq,reduceCtorEq,↓reduceIte,Int.reduceToNat,Int.reduceLE,Int.reduceLT,Int.reduceNe,Int.reduceEq]) (by simp) (by simp) (by omega) (by rw[hlw];exact hls)) ?_ ⟨.full _ _ _,.refl _,trivial⟩;rintro _ _ ⟨rfl,rfl⟩;have hbe:((bz c).take i).flatMap ai++ai [fO,x,Lib.itoa q]=((bz c).take (i+1)).flatMap ai:=by rw[hts,RR,hlw];simp
   simp(maxDischargeDepth:=12) (maxSteps:=1000000) -implicitDefEqProofs only[go_sem,Nat.reduceAdd,Nat.reduceSub,Nat.reduceMul,Nat.reduceLeDiff,Nat.reduceEqDiff,Nat.reduceGT,Nat.reduceBEq,reduceCtorEq,↓reduceIte,Int.reduceToNat,Int.reduceLE,Int.reduceLT,Int.reduceNe,Int.reduceEq,hx,hq,e1,hbe];exact⟨i+1,by omega,by omega,rfl,.refl _⟩
  ·have hta:(bz c).take i=bz c:=RN (by unfold bz;rw[RM,SJ];omega);rw[hta];simp(maxDischargeDepth:=12) (maxSteps:=1000000) -implicitDefEqProofs only[go_sem,Nat.reduceAdd,Nat.reduceSub,Nat.reduceMul,Nat.reduceLeDiff,Nat.reduceEqDiff,Nat.reduceGT,Nat.reduceBEq,reduceCtorEq,↓reduceIte,Int.reduceToNat,Int.reduceLE,Int.reduceLT,Int.reduceNe,Int.reduceEq];refine⟨fun h=>absurd h hil,fun _=>?_⟩;have zl:((bz c).flatMap ai).length≤20000:=by have:=z1 i;rwa [hta]at this
   have z2:∀a,a≤64→((cS c a).flatMap ai).length≤900000:=fun a ha=>by
    have h1:=dP (L:=cS c a) fun w hw=>by
     obtain⟨b,_,hb⟩:=TB.1 hw;exact s2 b w hb
    have:=jj c a;omega
   refine bS [3,17,23] [1,3,4,37,38] (σ:=Nat) (fun a=>[(1,.v (.pointer (some ⟨bc.n,0,none⟩))),(3,.v (.pointer (some ⟨kb,0,none⟩))),(4,.v (.func (.func 43) #[] #[.pointer (some ⟨kb,0,none⟩)])),(37,dI c.up.length),(38,dI a)]) (fun a=>⟨(bc.n,[.sl 1 false (aU c.nm),eH c.up,nJ c.qu,lN c.gr])::S.box,(lb.n,Cz kb ((bz c).flatMap ai++(cS c a).flatMap ai))::S.acc⟩) (fun a=>a≤c.up.length) (fun a=>c.up.length-a) 0 mx (by kernel_rfl) ⟨RL _,?_⟩ fun a ha=>?_
   ·simp(maxDischargeDepth:=12) (maxSteps:=1000000) -implicitDefEqProofs only[go_sem,Nat.reduceAdd,Nat.reduceSub,Nat.reduceMul,Nat.reduceLeDiff,Nat.reduceEqDiff,Nat.reduceGT,Nat.reduceBEq,reduceCtorEq,↓reduceIte,Int.reduceToNat,Int.reduceLE,Int.reduceLT,Int.reduceNe,Int.reduceEq];rw[show cS c 0=[]from rfl,TF,RU];exact .refl _
   by_cases hal:a<c.up.length
   ·have e1:IntKind.i64.wrap ((a:Int)+1)=((a+1:Nat):Int):=ax (by omega);have hx:c.up[a]? =some (c.up.getD a 0):=by rw[Rl,so hal];rfl
    have hxu:=hc.vE _ (Rj hx);have hna:=iw hcp hal;have zu:=z2 a (by omega);have hbl:=lL (c.up.getD a 0);have hja:=E5 c a;simp(maxDischargeDepth:=12) (maxSteps:=1000000) -implicitDefEqProofs only[go_sem,Nat.reduceAdd,Nat.reduceSub,Nat.reduceMul,Nat.reduceLeDiff,Nat.reduceEqDiff,Nat.reduceGT,Nat.reduceBEq,reduceCtorEq,↓reduceIte,Int.reduceToNat,Int.reduceLE,Int.reduceLT,Int.reduceNe,Int.reduceEq,hx,e1];refine⟨fun _=>⟨hal,aq (MG _ hg (c.up.getD a 0) hxu _) ?_⟩,fun h=>absurd hal h⟩;simp(maxDischargeDepth:=12) (maxSteps:=1000000) -implicitDefEqProofs only[go_sem,Nat.reduceAdd,Nat.reduceSub,Nat.reduceMul,Nat.reduceLeDiff,Nat.reduceEqDiff,Nat.reduceGT,Nat.reduceBEq,reduceCtorEq,↓reduceIte,Int.reduceToNat,Int.reduceLE,Int.reduceLT,Int.reduceNe,Int.reduceEq,hx,e1];refine bS [3,17,23] [1,3,4,7,37,38,46,47,48] (σ:=Nat) (fun j=>[(1,.v (.pointer (some ⟨bc.n,0,none⟩))),(3,.v (.pointer (some ⟨kb,0,none⟩))),(4,.v (.func (.func 43) #[] #[.pointer (some ⟨kb,0,none⟩)])),(7,dI a),(37,dI c.up.length),(38,dI a),(46,.sl 1 false ((ay (c.up.getD a 0)).map fun k:Nat=>dI (k:Int))),(47,dI (ay (c.up.getD a 0)).length),(48,dI j)]) (fun j=>⟨(bc.n,[.sl 1 false (aU c.nm),eH c.up,nJ c.qu,lN c.gr])::S.box,(lb.n,Cz kb ((bz c).flatMap ai++(cS c a).flatMap ai++(jH c a j).flatMap ai))::S.acc⟩) (fun j=>j≤(ay (c.up.getD a 0)).length) (fun j=>(ay (c.up.getD a 0)).length-j) 0 mx (by kernel_rfl) ⟨RL _,?_⟩ fun j hj=>?_
    ·simp(maxDischargeDepth:=12) (maxSteps:=1000000) -implicitDefEqProofs only[go_sem,Nat.reduceAdd,Nat.reduceSub,Nat.reduceMul,Nat.reduceLeDiff,Nat.reduceEqDiff,Nat.reduceGT,Nat.reduceBEq,reduceCtorEq,↓reduceIte,Int.reduceToNat,Int.reduceLE,Int.reduceLT,Int.reduceNe,Int.reduceEq];rw[show jH c a 0=[]from rfl,TF,RU];exact .refl _
    have zj:((jH c a j).flatMap ai).length≤20000:=by
     have h1:=dP (L:=jH c a j) fun w hw=>by
      obtain⟨b,_,rfl⟩:=RI.1 hw;exact kZ hcp a b
     have:=EK c a j;omega
    by_cases hjl:j<(ay (c.up.getD a 0)).length
    ·have e2:IntKind.i64.wrap ((j:Int)+1)=((j+1:Nat):Int):=ax (by omega);have hb:(ay (c.up.getD a 0))[j]? =some ((ay (c.up.getD a 0))[j]):=so hjl;have hmb:=gE.1 (TE hjl);have hus:=BL hb;have hbt:bt c.up a ((ay (c.up.getD a 0))[j])=true:=hmb.2;have hbn:=hcp.tK.cl.lt _ _ hbt;generalize (ay (c.up.getD a 0))[j]=b at hb hmb hus hbt hbn;have hnb:=iw hcp hbn;have hwu:[jI,c.nm.getD a [],c.nm.getD b []]=kO c a b:=rfl;have hwl:=kZ hcp a b;by_cases hab:a=b
     ·rw[if_pos hab]at hus;have hab':((a:Int)=(b:Int))=True:=eq_true (by omega);simp(maxDischargeDepth:=12) (maxSteps:=1000000) -implicitDefEqProofs only[go_sem,Nat.reduceAdd,Nat.reduceSub,Nat.reduceMul,Nat.reduceLeDiff,Nat.reduceEqDiff,Nat.reduceGT,Nat.reduceBEq,reduceCtorEq,↓reduceIte,Int.reduceToNat,Int.reduceLE,Int.reduceLT,Int.reduceNe,Int.reduceEq,hb,e2,hab'];exact⟨fun _=>⟨hjl,fun h=>absurd hab h,fun _=>⟨j+1,by omega,by omega,rfl,by rw[hus];exact .refl _⟩⟩,fun h=>absurd hjl h⟩
     ·rw[if_neg hab]at hus;have hab':((a:Int)=(b:Int))=False:=eq_false (by omega);generalize c.nm.getD a []=na at hna hwu;generalize c.nm.getD b []=nb at hnb hwu;simp(maxDischargeDepth:=12) (maxSteps:=1000000) -implicitDefEqProofs only[go_sem,Nat.reduceAdd,Nat.reduceSub,Nat.reduceMul,Nat.reduceLeDiff,Nat.reduceEqDiff,Nat.reduceGT,Nat.reduceBEq,reduceCtorEq,↓reduceIte,Int.reduceToNat,Int.reduceLE,Int.reduceLT,Int.reduceNe,Int.reduceEq,hb,e2,hab'];refine⟨fun _=>⟨hjl,fun _=>?_,fun h=>absurd h (by simpa using hab)⟩,fun h=>absurd hjl h⟩;refine Y.Ib [] [12] [0,1,3,6,8,2,4,5,7,9,10,11,12] mx (by kernel_rfl) ?_;simp(maxDischargeDepth:=12) (maxSteps:=1000000) -implicitDefEqProofs only[go_sem,Nat.reduceAdd,Nat.reduceSub,Nat.reduceMul,Nat.reduceLeDiff,Nat.reduceEqDiff,Nat.reduceGT,Nat.reduceBEq,reduceCtorEq,↓reduceIte,Int.reduceToNat,Int.reduceLE,Int.reduceLT,Int.reduceNe,Int.reduceEq,hna,hnb,e2];refine⟨by omega,by omega,bQ (hF ((bz c).flatMap ai++(cS c a).flatMap ai++(jH c a j).flatMap ai) _ [jI,na,nb] (by simp(maxDischargeDepth:=12) (maxSteps:=1000000) -implicitDefEqProofs only[go_sem,Nat.reduceAdd,Nat.reduceSub,Nat.reduceMul,Nat.reduceLeDiff,Nat.reduceEqDiff,Nat.reduceGT,Nat.reduceBEq,reduceCtorEq,↓reduceIte,Int.reduceToNat,Int.reduceLE,Int.reduceLT,Int.reduceNe,Int.reduceEq]) (by simp) (by simp) (by rw[Rk,Rk];omega) (by rw[hwu];exact hwl)) ?_ ⟨.full _ _ _,.refl _,trivial⟩⟩;rintro _ _ ⟨rfl,rfl⟩;have hbe:(bz c).flatMap ai++(cS c a).flatMap ai++(jH c a j).flatMap ai++ai [jI,na,nb]=(bz c).flatMap ai++(cS c a).flatMap ai++(jH c a (j+1)).flatMap ai:=by rw[hus,RR,hwu];simp
      simp(maxDischargeDepth:=12) (maxSteps:=1000000) -implicitDefEqProofs only[go_sem,Nat.reduceAdd,Nat.reduceSub,Nat.reduceMul,Nat.reduceLeDiff,Nat.reduceEqDiff,Nat.reduceGT,Nat.reduceBEq,reduceCtorEq,↓reduceIte,Int.reduceToNat,Int.reduceLE,Int.reduceLT,Int.reduceNe,Int.reduceEq,e2,hbe];exact⟨j+1,by omega,by omega,rfl,.refl _⟩
    ·have hjj:j=(ay (c.up.getD a 0)).length:=by omega
     have e2:(bz c).flatMap ai++(cS c a).flatMap ai++(jH c a j).flatMap ai=(bz c).flatMap ai++(cS c (a+1)).flatMap ai:=by rw[hjj,hja,kq,RR,RJ]
     simp(maxDischargeDepth:=12) (maxSteps:=1000000) -implicitDefEqProofs only[go_sem,Nat.reduceAdd,Nat.reduceSub,Nat.reduceMul,Nat.reduceLeDiff,Nat.reduceEqDiff,Nat.reduceGT,Nat.reduceBEq,reduceCtorEq,↓reduceIte,Int.reduceToNat,Int.reduceLE,Int.reduceLT,Int.reduceNe,Int.reduceEq,e1,e2];exact⟨fun h=>absurd h hjl,fun _=>⟨a+1,by omega,by omega,rfl,.refl _⟩⟩
   ·have haa:a=c.up.length:=by omega
    subst haa;rw[gL];have zu:=z2 c.up.length hle;rw[gL]at zu;simp(maxDischargeDepth:=12) (maxSteps:=1000000) -implicitDefEqProofs only[go_sem,Nat.reduceAdd,Nat.reduceSub,Nat.reduceMul,Nat.reduceLeDiff,Nat.reduceEqDiff,Nat.reduceGT,Nat.reduceBEq,reduceCtorEq,↓reduceIte,Int.reduceToNat,Int.reduceLE,Int.reduceLT,Int.reduceNe,Int.reduceEq];refine⟨fun h=>absurd h hal,fun _=>?_⟩
    have z3:∀i,(((dv c).take i).flatMap ai).length≤20000:=fun i=>by
     have h1:=dP (L:=(dv c).take i) fun w hw=>s3 w (RY hw);have h2:((dv c).take i).length≤64:=by rw[RA];unfold dv;rw[RM];omega
     omega
    refine bS [3,17,23] [1,3,4,71,72,73] (σ:=Nat) (fun i=>[(1,.v (.pointer (some ⟨bc.n,0,none⟩))),(3,.v (.pointer (some ⟨kb,0,none⟩))),(4,.v (.func (.func 43) #[] #[.pointer (some ⟨kb,0,none⟩)])),(71,lN c.gr),(72,dI c.gr.length),(73,dI i)]) (fun i=>⟨(bc.n,[.sl 1 false (aU c.nm),eH c.up,nJ c.qu,lN c.gr])::S.box,(lb.n,Cz kb ((bz c).flatMap ai++(mM c).flatMap ai++((dv c).take i).flatMap ai))::S.acc⟩) (fun i=>i≤c.gr.length) (fun i=>c.gr.length-i) 0 mx (by kernel_rfl) ⟨RL _,?_⟩ fun i hi=>?_
    ·simp(maxDischargeDepth:=12) (maxSteps:=1000000) -implicitDefEqProofs only[go_sem,Nat.reduceAdd,Nat.reduceSub,Nat.reduceMul,Nat.reduceLeDiff,Nat.reduceEqDiff,Nat.reduceGT,Nat.reduceBEq,reduceCtorEq,↓reduceIte,Int.reduceToNat,Int.reduceLE,Int.reduceLT,Int.reduceNe,Int.reduceEq];rw[TF,RU];exact .refl _
    by_cases hil:i<c.gr.length
    ·have e2:IntKind.i64.wrap ((i:Int)+1)=((i+1:Nat):Int):=ax (by omega);have hgx:c.gr[i]? =some c.gr[i]:=so hil;have hgm:=Rj hgx;have hts:(dv c).take (i+1)=(dv c).take i++[qw c c.gr[i]]:=fh (by unfold dv;rw[Rt,hgx];rfl);generalize c.gr[i]=g at hgx hgm hts;have hwl:=sE hcp g;obtain⟨ga,gf,gt,rfl,q1,q2,q3⟩:=Jt hcp hgm;have y1:=iw hcp q1;have y2:=iw hcp q2;have y3:=iw hcp q3;have hz:=z3 i;have hwg:[mw,c.nm.getD ga [],c.nm.getD gf [],c.nm.getD gt []]=qw c ⟨(ga:Int),(gf:Int),(gt:Int)⟩:=rfl;generalize c.nm.getD ga []=na at y1 hwg;generalize c.nm.getD gf []=nf at y2 hwg;generalize c.nm.getD gt []=nt at y3 hwg;simp(maxDischargeDepth:=12) (maxSteps:=1000000) -implicitDefEqProofs only[go_sem,Nat.reduceAdd,Nat.reduceSub,Nat.reduceMul,Nat.reduceLeDiff,Nat.reduceEqDiff,Nat.reduceGT,Nat.reduceBEq,reduceCtorEq,↓reduceIte,Int.reduceToNat,Int.reduceLE,Int.reduceLT,Int.reduceNe,Int.reduceEq,hgx,e2];refine⟨fun _=>⟨hil,?_⟩,fun h=>absurd hil h⟩;intro b9;have eb:=af b9 bc.n (by simp(maxDischargeDepth:=12) (maxSteps:=1000000) -implicitDefEqProofs only[go_sem,Nat.reduceAdd,Nat.reduceSub,Nat.reduceMul,Nat.reduceLeDiff,Nat.reduceEqDiff,Nat.reduceGT,Nat.reduceBEq,reduceCtorEq,↓reduceIte,Int.reduceToNat,Int.reduceLE,Int.reduceLT,Int.reduceNe,Int.reduceEq]);refine Y.Ib [] [20] [0,1,3,7,9,13,15,2,4,5,6,8,10,11,12,14,16,17,18,19,20] mx (by kernel_rfl) ?_;simp(maxDischargeDepth:=12) (maxSteps:=1000000) -implicitDefEqProofs only[go_sem,Nat.reduceAdd,Nat.reduceSub,Nat.reduceMul,Nat.reduceLeDiff,Nat.reduceEqDiff,Nat.reduceGT,Nat.reduceBEq,reduceCtorEq,↓reduceIte,Int.reduceToNat,Int.reduceLE,Int.reduceLT,Int.reduceNe,Int.reduceEq,y1,y2,y3,e2,eb];refine⟨by omega,by omega,by omega,bQ (hF ((bz c).flatMap ai++(mM c).flatMap ai++((dv c).take i).flatMap ai) _ [mw,na,nf,nt] (by simp(maxDischargeDepth:=12) (maxSteps:=1000000) -implicitDefEqProofs only[go_sem,Nat.reduceAdd,Nat.reduceSub,Nat.reduceMul,Nat.reduceLeDiff,Nat.reduceEqDiff,Nat.reduceGT,Nat.reduceBEq,reduceCtorEq,↓reduceIte,Int.reduceToNat,Int.reduceLE,Int.reduceLT,Int.reduceNe,Int.reduceEq]) (by simp) (by simp) (by rw[Rk,Rk];omega) (by rw[hwg];exact hwl)) ?_ ⟨.full _ _ _,.refl _,trivial⟩⟩;rintro _ _ ⟨rfl,rfl⟩;have hbe:(bz c).flatMap ai++(mM c).flatMap ai++((dv c).take i).flatMap ai++ai [mw,na,nf,nt]=(bz c).flatMap ai++(mM c).flatMap ai++((dv c).take (i+1)).flatMap ai:=by rw[hts,RR,hwg];simp
     simp(maxDischargeDepth:=12) (maxSteps:=1000000) -implicitDefEqProofs only[go_sem,Nat.reduceAdd,Nat.reduceSub,Nat.reduceMul,Nat.reduceLeDiff,Nat.reduceEqDiff,Nat.reduceGT,Nat.reduceBEq,reduceCtorEq,↓reduceIte,Int.reduceToNat,Int.reduceLE,Int.reduceLT,Int.reduceNe,Int.reduceEq,e2,hbe,eb];exact⟨i+1,by omega,by omega,rfl,⟨.cons _ (.refl _),.refl _⟩⟩
    ·have htt:(dv c).take i=dv c:=RN (by unfold dv;rw[RM];omega);have hz:=z3 i;rw[htt]at hz ⊢;simp(maxDischargeDepth:=12) (maxSteps:=1000000) -implicitDefEqProofs only[go_sem,Nat.reduceAdd,Nat.reduceSub,Nat.reduceMul,Nat.reduceLeDiff,Nat.reduceEqDiff,Nat.reduceGT,Nat.reduceBEq,reduceCtorEq,↓reduceIte,Int.reduceToNat,Int.reduceLE,Int.reduceLT,Int.reduceNe,Int.reduceEq];refine⟨fun h=>absurd h hil,fun _=>bQ (Hl w0 h0 _ lb.n kb ((bz c).flatMap ai++(mM c).flatMap ai++(dv c).flatMap ai) (by simp(maxDischargeDepth:=12) (maxSteps:=1000000) -implicitDefEqProofs only[go_sem,Nat.reduceAdd,Nat.reduceSub,Nat.reduceMul,Nat.reduceLeDiff,Nat.reduceEqDiff,Nat.reduceGT,Nat.reduceBEq,reduceCtorEq,↓reduceIte,Int.reduceToNat,Int.reduceLE,Int.reduceLT,Int.reduceNe,Int.reduceEq])) ?_⟩;rintro _ _ ⟨rfl,rfl⟩;simp(maxDischargeDepth:=12) (maxSteps:=1000000) -implicitDefEqProofs only[go_sem,Nat.reduceAdd,Nat.reduceSub,Nat.reduceMul,Nat.reduceLeDiff,Nat.reduceEqDiff,Nat.reduceGT,Nat.reduceBEq,reduceCtorEq,↓reduceIte,Int.reduceToNat,Int.reduceLE,Int.reduceLT,Int.reduceNe,Int.reduceEq];rw[RR,RR];rfl
 ·rw[aS hcp,wI hcp];simp(maxDischargeDepth:=12) (maxSteps:=1000000) -implicitDefEqProofs only[go_sem,Nat.reduceAdd,Nat.reduceSub,Nat.reduceMul,Nat.reduceLeDiff,Nat.reduceEqDiff,Nat.reduceGT,Nat.reduceBEq,reduceCtorEq,↓reduceIte,Int.reduceToNat,Int.reduceLE,Int.reduceLT,Int.reduceNe,Int.reduceEq];rfl
def NJ(b j:Nat)(K:DV→St→Prop)(d:DV)(S':St):Prop:=∃ds l s xs,lk S'.box b=some ds∧ds[j]? =some (.acc l xs.length)∧lk S'.acc l=some (.arr s xs)∧∃T,Aml.Sub T ⟨up S'.box b (ds.set j (.sl s false xs)),up S'.acc l (.tl s xs)⟩∧K d T
theorem xj{P:Program}{w0:W0}(b j:Nat){f:FuncId}{args:List DV}{S:St}{K:DV→St→Prop}(h:ab P w0 f args S fun d S'=>NJ b j K d S'∨∃T,Aml.Sub T S'∧K d T):ab P w0 f args S K:=by
 intro g vs w h1 h2;refine(h g vs w h1 h2).mono ?_;rintro e w' (⟨r,g1,d,S',q1,q2,q3,q4,q⟩|q)
 ·rcases q with⟨ds,l,s,xs,hb,hj,hl,T,hT,hK⟩|⟨T,hT,hK⟩
  ·obtain⟨ow,o1,o2⟩:=q3.own;obtain⟨p1,p2,p3,us,e,p4,p5,p6⟩:=o1 _ _ (bd hb);have hlt:j<us.toList.length:=by rw[←p5.len];exact(Rp.1 hj).1
   have hr:=p5.at_ j _ _ hj (so hlt)
   obtain⟨o,c',hu⟩:∃o c',us.toList[j]= .slice o xs.length c'∧g1.acc l xs.length=some (.slice o xs.length c'):=by
    generalize us.toList[j]=u at hr
    cases hr with
    |acc _ _ o c h=>exact⟨o,c,rfl,h⟩
   obtain⟨g',hle,hR,hrep⟩:=q3.freeze hl hu.2;have hR':=hR.zw (ds':=ds.set j (.sl s false xs)) (b:=b) hb ?_
   ·exact .inl ⟨r,g',d,T,q1,q2.trans hle,hR'.forget hT.box hT.acc,q4.mono hle,hK⟩
   ·intro us' e' hh hr2;rw[hh]at p4;cases p4;exact fc hr2 (so hlt) (by rw[hu.1];exact hrep)
  ·exact .inl ⟨r,g1,d,T,q1,q2,q3.forget hT.box hT.acc,q4,hK⟩
 ·exact .inr q
theorem K1{G:List Grs.G}{g x:Grs.G}{k:Nat}(h:k≤cp g G)(hx:G[k]? =some x):(eN x g=true→k+1≤cp g G)∧(eN x g=false→k=cp g G):=by
 unfold cp at*
 induction G generalizing k with
 |nil=>cases hx
 |cons y t ih=>
  rw[Tn]at h ⊢;split at h
  ·rename_i hy;rw[if_pos hy]
   cases k with
   |zero=>
    simp at hx;subst hx;exact⟨fun _=>by simp,fun q=>by rw[hy]at q;cases q⟩
   |succ k=>
    simp at hx h;have:=ih h hx;simp only[Ru];exact⟨fun q=>by have:=this.1 q;omega,fun q=>by have:=this.2 q;omega⟩
  ·rename_i hy;rw[if_neg hy];simp at h;subst h;simp at hx;subst hx;exact⟨fun q=>absurd q hy,fun _=>rfl⟩
theorem Ki(g:Grs.G)(l:List Grs.G):cp g l≤l.length:=by
 unfold cp;exact(List.takeWhile_sublist _).length_le
theorem JX(w0:W0)(S:St)(bp:Nat)(x y z:DV)(L:List Grs.G)(g:Grs.G)(hb:lk S.box bp=some [x,y,z,.sl 3 false (L.map gD)])(hL:L.length≤1000000):
 ab Tryz.prog w0 63 [.v (.pointer (some ⟨bp,0,none⟩)),gD g] S (fun d S'=>d= .bU []∧S'=⟨up S.box bp [x,y,z,.sl 3 false ((iG L g).map gD)],S.acc⟩):=by
 refine xj bp 3 ?_;refine yy [] mx Tryz.func63 rfl rfl (by kernel_rfl) ?_;simp(maxDischargeDepth:=12) (maxSteps:=1000000) -implicitDefEqProofs only[Tryz.ntmps63,go_sem,Nat.reduceAdd,Nat.reduceSub,Nat.reduceMul,Nat.reduceLeDiff,Nat.reduceEqDiff,Nat.reduceGT,Nat.reduceBEq,reduceCtorEq,↓reduceIte,Int.reduceToNat,Int.reduceLE,Int.reduceLT,Int.reduceNe,Int.reduceEq,hb];intro b;have eb:=fm b hb;have eb':(bp=b.n)=False:=by rw[←eb];exact propext eq_comm
 have hm8:maxLen=9223372036854775807:=rfl;refine dL (O5 _ L g (by omega) _) ?_;by_cases hmem:g∈L
 ·rw[decide_eq_true hmem];have hi:iG L g=L:=by unfold iG;rw[if_pos hmem]
  rw[hi];simp(maxDischargeDepth:=12) (maxSteps:=1000000) -implicitDefEqProofs only[go_sem,Nat.reduceAdd,Nat.reduceSub,Nat.reduceMul,Nat.reduceLeDiff,Nat.reduceEqDiff,Nat.reduceGT,Nat.reduceBEq,reduceCtorEq,↓reduceIte,Int.reduceToNat,Int.reduceLE,Int.reduceLT,Int.reduceNe,Int.reduceEq,eb,eb',hb];exact .inr ⟨S,⟨.cons _ (.refl _),.refl _⟩,by rw[Aml.sY hb]⟩
 ·rw[decide_eq_false hmem];have hi:iG L g=L.take (cp g L)++g::L.drop (cp g L):=by unfold iG;rw[if_neg hmem]
  have hcl:=Ki g L;rw[hi];simp(maxDischargeDepth:=12) (maxSteps:=1000000) -implicitDefEqProofs only[go_sem,Nat.reduceAdd,Nat.reduceSub,Nat.reduceMul,Nat.reduceLeDiff,Nat.reduceEqDiff,Nat.reduceGT,Nat.reduceBEq,reduceCtorEq,↓reduceIte,Int.reduceToNat,Int.reduceLE,Int.reduceLT,Int.reduceNe,Int.reduceEq,eb,eb',hb];refine vU 4 3 (s0:=0) (by simp(maxDischargeDepth:=12) (maxSteps:=1000000) -implicitDefEqProofs only[go_sem,Nat.reduceAdd,Nat.reduceSub,Nat.reduceMul,Nat.reduceLeDiff,Nat.reduceEqDiff,Nat.reduceGT,Nat.reduceBEq,reduceCtorEq,↓reduceIte,Int.reduceToNat,Int.reduceLE,Int.reduceLT,Int.reduceNe,Int.reduceEq]) (by omega) fun l=>?_;refine bS [] [0,3,4,5] (σ:=Nat) (fun k=>[(0,.v (.pointer (some ⟨bp,0,none⟩))),(3,.v (.pointer (some ⟨b.n,0,none⟩))),(4,.acc l.n 0),(5,dI k)]) (fun _=>⟨(b.n,[dI g.a,dI g.f,dI g.t])::S.box,(l.n,.arr 3 [])::S.acc⟩) (fun k=>k≤cp g L) (fun k=>L.length-k) 0 mx (by kernel_rfl) ⟨RL _,?_⟩ fun k hk=>?_
  ·simp(maxDischargeDepth:=12) (maxSteps:=1000000) -implicitDefEqProofs only[go_sem,Nat.reduceAdd,Nat.reduceSub,Nat.reduceMul,Nat.reduceLeDiff,Nat.reduceEqDiff,Nat.reduceGT,Nat.reduceBEq,reduceCtorEq,↓reduceIte,Int.reduceToNat,Int.reduceLE,Int.reduceLT,Int.reduceNe,Int.reduceEq]
  ·have fin:∀k,k=cp g L→NJ bp 3 (fun d S'=>d= .bU []∧S'=⟨up S.box bp [x,y,z,.sl 3 false ((L.take (cp g L)++g::L.drop (cp g L)).map gD)],S.acc⟩) (.bU []) ⟨(b.n,[dI g.a,dI g.f,dI g.t])::up S.box bp [x,y,z,.acc l.n (min k L.length+1+(L.length-k))],(l.n,.arr 3 ((L.take k).map gD++[gD g]++(L.drop k).map gD))::S.acc⟩:=fun k hk=>by
    subst hk;have hlen:((L.take (cp g L)).map gD++[gD g]++(L.drop (cp g L)).map gD).length=min (cp g L) L.length+1+(L.length-cp g L):=by simp;omega
    refine⟨[x,y,z,.acc l.n (min (cp g L) L.length+1+(L.length-cp g L))],l.n,3,(L.take (cp g L)).map gD++[gD g]++(L.drop (cp g L)).map gD,by simp(maxDischargeDepth:=12) (maxSteps:=1000000) -implicitDefEqProofs only[go_sem,Nat.reduceAdd,Nat.reduceSub,Nat.reduceMul,Nat.reduceLeDiff,Nat.reduceEqDiff,Nat.reduceGT,Nat.reduceBEq,reduceCtorEq,↓reduceIte,Int.reduceToNat,Int.reduceLE,Int.reduceLT,Int.reduceNe,Int.reduceEq,eb,eb',hb],by rw[hlen];rfl,by simp(maxDischargeDepth:=12) (maxSteps:=1000000) -implicitDefEqProofs only[go_sem,Nat.reduceAdd,Nat.reduceSub,Nat.reduceMul,Nat.reduceLeDiff,Nat.reduceEqDiff,Nat.reduceGT,Nat.reduceBEq,reduceCtorEq,↓reduceIte,Int.reduceToNat,Int.reduceLE,Int.reduceLT,Int.reduceNe,Int.reduceEq],⟨up S.box bp [x,y,z,.sl 3 false ((L.take (cp g L)++g::L.drop (cp g L)).map gD)],S.acc⟩,?_,rfl,rfl⟩
    have e1:up ((b.n,[dI g.a,dI g.f,dI g.t])::up S.box bp [x,y,z,.acc l.n (min (cp g L) L.length+1+(L.length-cp g L))]) bp [x,y,z,.sl 3 false ((L.take (cp g L)).map gD++[gD g]++(L.drop (cp g L)).map gD)]=(b.n,[dI g.a,dI g.f,dI g.t])::up S.box bp [x,y,z,.sl 3 false ((L.take (cp g L)++g::L.drop (cp g L)).map gD)]:=by
     simp(maxDischargeDepth:=12) (maxSteps:=1000000) -implicitDefEqProofs only[go_sem,Nat.reduceAdd,Nat.reduceSub,Nat.reduceMul,Nat.reduceLeDiff,Nat.reduceEqDiff,Nat.reduceGT,Nat.reduceBEq,reduceCtorEq,↓reduceIte,Int.reduceToNat,Int.reduceLE,Int.reduceLT,Int.reduceNe,Int.reduceEq,eb,eb'];simp;rfl
    show Aml.Sub _ ⟨up ((b.n,[dI g.a,dI g.f,dI g.t])::up S.box bp _) bp [x,y,z,.sl 3 false ((L.take (cp g L)).map gD++[gD g]++(L.drop (cp g L)).map gD)],_⟩;rw[e1];exact⟨.cons _ (.refl _),by simp(maxDischargeDepth:=12) (maxSteps:=1000000) -implicitDefEqProofs only[go_sem,Nat.reduceAdd,Nat.reduceSub,Nat.reduceMul,Nat.reduceLeDiff,Nat.reduceEqDiff,Nat.reduceGT,Nat.reduceBEq,reduceCtorEq,↓reduceIte,Int.reduceToNat,Int.reduceLE,Int.reduceLT,Int.reduceNe,Int.reduceEq];exact .cons _ (.refl _)⟩
   by_cases hkl:k<L.length
   ·have hx:L[k]? =some L[k]:=so hkl;generalize L[k]=x' at hx;have hc:=K1 hk hx;have e1:IntKind.i64.wrap ((k:Int)+1)=((k+1:Nat):Int):=ax (by omega);simp(maxDischargeDepth:=12) (maxSteps:=1000000) -implicitDefEqProofs only[go_sem,Nat.reduceAdd,Nat.reduceSub,Nat.reduceMul,Nat.reduceLeDiff,Nat.reduceEqDiff,Nat.reduceGT,Nat.reduceBEq,reduceCtorEq,↓reduceIte,Int.reduceToNat,Int.reduceLE,Int.reduceLT,Int.reduceNe,Int.reduceEq,eb,eb',hb,hx];refine⟨fun _=>⟨hkl,dL (Jk _ x' g _) ?_⟩,fun h=>absurd hkl h⟩
    cases hlt:eN x' g with
    |true=>
     simp(maxDischargeDepth:=12) (maxSteps:=1000000) -implicitDefEqProofs only[go_sem,Nat.reduceAdd,Nat.reduceSub,Nat.reduceMul,Nat.reduceLeDiff,Nat.reduceEqDiff,Nat.reduceGT,Nat.reduceBEq,reduceCtorEq,↓reduceIte,Int.reduceToNat,Int.reduceLE,Int.reduceLT,Int.reduceNe,Int.reduceEq,eb,eb',hb,hlt,e1];exact⟨k+1,hc.1 hlt,by omega,rfl⟩
    |false=>
     simp(maxDischargeDepth:=12) (maxSteps:=1000000) -implicitDefEqProofs only[go_sem,Nat.reduceAdd,Nat.reduceSub,Nat.reduceMul,Nat.reduceLeDiff,Nat.reduceEqDiff,Nat.reduceGT,Nat.reduceBEq,reduceCtorEq,↓reduceIte,Int.reduceToNat,Int.reduceLE,Int.reduceLT,Int.reduceNe,Int.reduceEq,eb,eb',hb,hlt,e1];refine⟨by omega,by omega,by omega,by omega,by omega,by omega,by omega,by omega,.inl (fin k (hc.2 hlt))⟩
   ·simp(maxDischargeDepth:=12) (maxSteps:=1000000) -implicitDefEqProofs only[go_sem,Nat.reduceAdd,Nat.reduceSub,Nat.reduceMul,Nat.reduceLeDiff,Nat.reduceEqDiff,Nat.reduceGT,Nat.reduceBEq,reduceCtorEq,↓reduceIte,Int.reduceToNat,Int.reduceLE,Int.reduceLT,Int.reduceNe,Int.reduceEq,eb,eb',hb];refine⟨fun h=>absurd h hkl,fun _=>⟨by omega,by omega,by omega,by omega,by omega,by omega,by omega,by omega,.inl (fin k (by omega))⟩⟩
def nW(k:List UInt8):Nat:=if k=fO∨k=jI then 3 else if k=mw then 4 else 0
theorem NG(w0:W0)(s:List UInt8)(S:St):ab Tryz.prog w0 60 [dS (tx s)] S (fun d S'=>d=dI (nW s:Int)∧S'=S):=by
 refine cR [] mx Tryz.func60 rfl rfl (by kernel_rfl) ?_;simp(maxDischargeDepth:=12) (maxSteps:=1000000) -implicitDefEqProofs only[Tryz.ntmps60,go_sem,Nat.reduceAdd,Nat.reduceSub,Nat.reduceMul,Nat.reduceLeDiff,Nat.reduceEqDiff,Nat.reduceGT,Nat.reduceBEq,reduceCtorEq,↓reduceIte,Int.reduceToNat,Int.reduceLE,Int.reduceLT,Int.reduceNe,Int.reduceEq];unfold nW fO jI mw;by_cases h1:s=[108,97,98,101,108]
 ·simp[h1]
 ·by_cases h2:s=[117,110,100,101,114]
  ·simp[h2]
  ·by_cases h3:s=[103,114,97,110,116]
   ·simp[h3]
   ·simp[h1,h2,h3]
@[go_sem] def pR (R:St) (bp ln lu lq:Nat) (c:Cf):St:=⟨(bp,[.acc ln c.nm.length,.acc lu c.up.length,.acc lq c.qu.length,.sl 3 false (c.gr.map gD)])::R.box,(lq,.arr 1 (c.qu.map dI))::(lu,.arr 1 (c.up.map fun x:Nat=>dU (x:Int)))::(ln,.tl 1 (aU c.nm))::R.acc⟩
theorem Lz{c:Cf}{k:List UInt8}(hk:jE k=true):nW k=(bA c k).length+1:=by
 unfold bA nW;by_cases h1:k=fO
 ·simp[h1]
 ·by_cases h2:k=jI
  ·simp[h2,pa]
  ·have h3:k=mw:=by
    have:=of_decide_eq_true hk;rcases this with h|h|h
    ·exact absurd h h1
    ·exact absurd h h2
    ·exact h
   subst h3;simp[pJ,kG]
theorem NW{k:List UInt8}(hk:jE k=false):nW k=0:=by
 unfold nW;have h:=of_decide_eq_false hk;have h1:¬k=fO:=fun e=>h (.inl e);have h2:¬k=jI:=fun e=>h (.inr (.inl e));have h3:¬k=mw:=fun e=>h (.inr (.inr e));simp[h1,h2,h3]
theorem bZ(c:Cf):(qb c).nm=c.nm:=rfl
theorem bV(c:Cf):(qb c).up=bf c.up:=rfl
theorem bW(c:Cf):(qb c).qu=c.qu:=rfl
theorem ca(c:Cf):(qb c).gr=fM c.gr:=rfl
theorem ze{α:Type}{l:List α}(h:l.length=2):∃a b,l=[a,b]:=match l,h with
 |[a,b],_=>⟨a,b,rfl⟩
theorem Bv{α:Type}{l:List α}(h:l.length=3):∃a b c,l=[a,b,c]:=match l,h with
 |[a,b,c],_=>⟨a,b,c,rfl⟩
theorem Di(l:List Grs.G)(g:Grs.G):(iG l g).length≤l.length+1:=by
 unfold iG;split
 ·omega
 ·rw[Rk,Ru,RA,RP];omega
theorem FD(gs:List Grs.G):(fM gs).length≤gs.length:=by
 have key:∀(gs l:List Grs.G),(gs.foldl iG l).length≤l.length+gs.length:=by
  intro gs
  induction gs with
  |nil=>intro l;simp
  |cons g gs ih=>
   intro l;rw[SP,Ru];have:=ih (iG l g);have:=Di l g;omega
 have:=key gs [];unfold fM;simpa using this
theorem Lh{c:Cf}{k:List UInt8}(h:¬k=fO){j:Nat}{p:List UInt8→Bool}(hp:(bA c k)[j]? =some p):p=fun s=>decide (s∈c.nm):=by
 have hm:=Rj hp;unfold bA at hm;rw[if_neg h]at hm;split at hm
 ·simp at hm;exact hm
 ·simp at hm;exact hm
theorem Gd.snoc{ps:List (List UInt8→Bool)}{t:List Wd}{j:Nat}(h:Gd ps t j){x:Wd}{p:List UInt8→Bool}(hx:t[j]? =some x)(hp:ps[j]? =some p)(hpx:p x.1=true):Gd ps t (j+1):=fun i hi=>by
 by_cases e:i=j
 ·subst e;exact⟨x,p,hx,hp,hpx⟩
 ·exact h i (by omega)
theorem Gk{α β:Type}{f:α→β}{t:List α}{j:Nat}{x:α}(hx:t[j]? =some x):(t.take (j+1)).map f=(t.take j).map f++[f x]:=by
 rw[Sm,hx];simp
def Qg(R:St)(bp ln lu lq:Nat)(c:Cf)(r:Nat ⊕ Cf)(d:DV)(S':St):Prop:=(∃n,r= .inl n∧d=dI n∧S'=pR R bp ln lu lq (qb c))∨∃c',r= .inr c'∧d=dI 0∧S'=pR R bp ln lu lq (qb c')
theorem JA(w0:W0)(R:St)(bp ln lu lq:Nat)(n4:(lq=lu)=False)(n5:(lq=ln)=False)(n6:(lu=ln)=False)(c:Cf)(hc:Cw c)(hg:c.gr.length≤1000000)(ws:List Wd)(hne:ws≠[])(hwn:ws.length≤1000000)(hws:∀w,w∈ws→w.1.length≤1000000)(e:Nat):
 ab Tryz.prog w0 27 [.v (.pointer (some ⟨bp,0,none⟩)),.sl 2 false (ws.map dW),dI e] (pR R bp ln lu lq (qb c)) (Qg R bp ln lu lq c (cX c ws e)):=by
 cases ws with
 |nil=>exact absurd rfl hne
 |cons w t=>
 obtain⟨k,a⟩:=w;have m4:(lu=lq)=False:=by rw[←n4];exact propext eq_comm
 have m5:(ln=lq)=False:=by rw[←n5];exact propext eq_comm
 have m6:(ln=lu)=False:=by rw[←n6];exact propext eq_comm
 have hm8:maxLen=9223372036854775807:=rfl;refine fe ?_;refine yy [22,24,25,26] mx Tryz.func27 rfl rfl (by kernel_rfl) ?_;simp(maxDischargeDepth:=12) (maxSteps:=1000000) -implicitDefEqProofs only[Tryz.ntmps27,go_sem,Nat.reduceAdd,Nat.reduceSub,Nat.reduceMul,Nat.reduceLeDiff,Nat.reduceEqDiff,Nat.reduceGT,Nat.reduceBEq,reduceCtorEq,↓reduceIte,Int.reduceToNat,Int.reduceLE,Int.reduceLT,Int.reduceNe,Int.reduceEq,n4,n5,n6,m4,m5,m6,bZ,bV,bW,ca,ah];refine⟨by omega,aq (NG _ k _) ?_⟩
 have hpe:pR R bp ln lu lq (qb c)=⟨(bp,[.acc ln c.nm.length,.acc lu c.up.length,.acc lq c.qu.length,.sl 3 false ((fM c.gr).map gD)])::R.box,(lq,.arr 1 (c.qu.map dI))::(lu,.arr 1 ((bf c.up).map fun x:Nat=>dU (x:Int)))::(ln,.tl 1 (aU c.nm))::R.acc⟩:=by
  unfold pR;rw[bZ,bV,bW,ca,ah]
 by_cases hk:jE k=true
 ·rw[Lz (c:=c) hk,mm hk]
  have hpl:(bA c k).length=2∨(bA c k).length=3:=by
   unfold bA;split
   ·exact .inl rfl
   ·split
    ·exact .inl rfl
    ·exact .inr rfl
  have e0:(((bA c k).length+1:Nat):Int)=((bA c k).length:Int)+1:=by omega
  simp(maxDischargeDepth:=12) (maxSteps:=1000000) -implicitDefEqProofs only[go_sem,Nat.reduceAdd,Nat.reduceSub,Nat.reduceMul,Nat.reduceLeDiff,Nat.reduceEqDiff,Nat.reduceGT,Nat.reduceBEq,reduceCtorEq,↓reduceIte,Int.reduceToNat,Int.reduceLE,Int.reduceLT,Int.reduceNe,Int.reduceEq,n4,n5,n6,m4,m5,m6];refine⟨fun h=>by omega,fun _=>?_⟩;refine vU 8 1 (s0:=0) (by simp(maxDischargeDepth:=12) (maxSteps:=1000000) -implicitDefEqProofs only[go_sem,Nat.reduceAdd,Nat.reduceSub,Nat.reduceMul,Nat.reduceLeDiff,Nat.reduceEqDiff,Nat.reduceGT,Nat.reduceBEq,reduceCtorEq,↓reduceIte,Int.reduceToNat,Int.reduceLE,Int.reduceLT,Int.reduceNe,Int.reduceEq]) (by omega) fun l8=>?_;have o1:=af l8 lq (by simp(maxDischargeDepth:=12) (maxSteps:=1000000) -implicitDefEqProofs only[go_sem,Nat.reduceAdd,Nat.reduceSub,Nat.reduceMul,Nat.reduceLeDiff,Nat.reduceEqDiff,Nat.reduceGT,Nat.reduceBEq,reduceCtorEq,↓reduceIte,Int.reduceToNat,Int.reduceLE,Int.reduceLT,Int.reduceNe,Int.reduceEq]);have o2:=af l8 lu (by simp(maxDischargeDepth:=12) (maxSteps:=1000000) -implicitDefEqProofs only[go_sem,Nat.reduceAdd,Nat.reduceSub,Nat.reduceMul,Nat.reduceLeDiff,Nat.reduceEqDiff,Nat.reduceGT,Nat.reduceBEq,reduceCtorEq,↓reduceIte,Int.reduceToNat,Int.reduceLE,Int.reduceLT,Int.reduceNe,Int.reduceEq,n4]);have o3:=af l8 ln (by simp(maxDischargeDepth:=12) (maxSteps:=1000000) -implicitDefEqProofs only[go_sem,Nat.reduceAdd,Nat.reduceSub,Nat.reduceMul,Nat.reduceLeDiff,Nat.reduceEqDiff,Nat.reduceGT,Nat.reduceBEq,reduceCtorEq,↓reduceIte,Int.reduceToNat,Int.reduceLE,Int.reduceLT,Int.reduceNe,Int.reduceEq,n5,n6]);have o1':(lq=l8.n)=False:=by rw[←o1];exact propext eq_comm
  have o2':(lu=l8.n)=False:=by rw[←o2];exact propext eq_comm
  have o3':(ln=l8.n)=False:=by rw[←o3];exact propext eq_comm
  have hbadR:∀(r:Nat ⊕ Cf) (n:Nat) (A:Ob),r= .inl n→P2 (Qg R bp ln lu lq c r) (dI n) ⟨(bp,[.acc ln c.nm.length,.acc lu c.up.length,.acc lq c.qu.length,.sl 3 false ((fM c.gr).map gD)])::R.box,(l8.n,A)::(lq,.arr 1 (c.qu.map dI))::(lu,.arr 1 ((bf c.up).map fun x:Nat=>dU (x:Int)))::(ln,.tl 1 (aU c.nm))::R.acc⟩:=fun r n A hr=>⟨pR R bp ln lu lq (qb c),by rw[hpe];exact⟨.refl _,.cons _ (.refl _)⟩,.inl ⟨n,hr,rfl,rfl⟩⟩;refine bS [22,24,25,26] [0,1,2,7,8,9] (σ:=Nat) (fun j=>[(0,.v (.pointer (some ⟨bp,0,none⟩))),(1,.sl 2 false (dW (k,a)::t.map dW)),(2,dI e),(7,dI ((bA c k).length+1:Nat)),(8,.acc l8.n j),(9,dI (j+1:Nat))]) (fun j=>⟨(pR R bp ln lu lq (qb c)).box,(l8.n,.arr 1 ((t.take j).map fun w=>dI (bB c.nm w.1)))::(pR R bp ln lu lq (qb c)).acc⟩) (fun j=>j≤(bA c k).length∧j≤t.length∧Gd (bA c k) t j) (fun j=>(bA c k).length-j) 0 mx (by kernel_rfl) ⟨⟨RL _,RL _,fun j hj=>by omega⟩,?_⟩ fun j hj=>?_
  ·simp(maxDischargeDepth:=12) (maxSteps:=1000000) -implicitDefEqProofs only[go_sem,Nat.reduceAdd,Nat.reduceSub,Nat.reduceMul,Nat.reduceLeDiff,Nat.reduceEqDiff,Nat.reduceGT,Nat.reduceBEq,reduceCtorEq,↓reduceIte,Int.reduceToNat,Int.reduceLE,Int.reduceLT,Int.reduceNe,Int.reduceEq,n4,n5,n6,m4,m5,m6,o1,o2,o3,o1',o2',o3',bZ,bV,bW,ca,ah]
  ·obtain⟨j1,j2,j3⟩:=hj;have hnl:((t.take j).map fun w=>bB c.nm w.1).length=j:=by rw[RM,RA];omega
   have e1:IntKind.i64.wrap (((j+1:Nat):Int)+1)=((j+1+1:Nat):Int):=ax (by omega);by_cases hjl:j<(bA c k).length
   ·by_cases hjt:j<t.length
    ·have hx:t[j]? =some t[j]:=so hjt;have hp:(bA c k)[j]? =some (bA c k)[j]:=so hjl;generalize t[j]=x at hx;generalize (bA c k)[j]=pp at hp;simp(maxDischargeDepth:=12) (maxSteps:=1000000) -implicitDefEqProofs only[go_sem,Nat.reduceAdd,Nat.reduceSub,Nat.reduceMul,Nat.reduceLeDiff,Nat.reduceEqDiff,Nat.reduceGT,Nat.reduceBEq,reduceCtorEq,↓reduceIte,Int.reduceToNat,Int.reduceLE,Int.reduceLT,Int.reduceNe,Int.reduceEq,n4,n5,n6,m4,m5,m6,o1,o2,o3,o1',o2',o3',bZ,bV,bW,ca,ah,hx,e1];refine⟨fun _=>⟨fun h=>by omega,fun _=>⟨by omega,.inr (aq (Jm _ c.nm x.1 (by have:=hc.le;omega) _) ?_)⟩⟩,fun h=>by omega⟩;have hxl:=hws x (Rr _ (Rj hx));have hbad:=sL (bA c k) t e [] (pT c k) j x pp j3 hx hp;have hsn:=fun h=>j3.snoc hx hp h;have htm:=Gk (f:=fun w:Wd=>DV.v (.int .i64 (bB c.nm w.1))) hx;by_cases hkl:k=fO
     ·subst hkl;have k0:(fO=[108,97,98,101,108])=True:=eq_true rfl;have hps:bA c fO=[fun s=>pB (jY c.nm s),fun s=>decide (dM s)]:=by unfold bA;rw[if_pos rfl]
      have hj2:j<2:=by rw[hps]at hjl;exact hjl
      have hs64:=hc.le;simp(maxDischargeDepth:=12) (maxSteps:=1000000) -implicitDefEqProofs only[go_sem,Nat.reduceAdd,Nat.reduceSub,Nat.reduceMul,Nat.reduceLeDiff,Nat.reduceEqDiff,Nat.reduceGT,Nat.reduceBEq,reduceCtorEq,↓reduceIte,Int.reduceToNat,Int.reduceLE,Int.reduceLT,Int.reduceNe,Int.reduceEq,n4,n5,n6,m4,m5,m6,o1,o2,o3,o1',o2',o3',bZ,bV,bW,ca,ah,hx,e1,k0];refine⟨by omega,by omega,by omega,by omega,aq (Da _ (tx x.1) (by rw[aP];omega) _) ?_⟩;rw[aK];rcases(show j=0∨j=1 by omega)with rfl|rfl
      ·have hpp:pp=fun s=>pB (jY c.nm s):=by rw[hps]at hp;simpa using hp.symm
       subst hpp;have e5:IntKind.i64.wrap (((0+1:Nat):Int)+1)=((0+1+1:Nat):Int):=e1;simp(maxDischargeDepth:=12) (maxSteps:=1000000) -implicitDefEqProofs only[go_sem,Nat.reduceAdd,Nat.reduceSub,Nat.reduceMul,Nat.reduceLeDiff,Nat.reduceEqDiff,Nat.reduceGT,Nat.reduceBEq,reduceCtorEq,↓reduceIte,Int.reduceToNat,Int.reduceLE,Int.reduceLT,Int.reduceNe,Int.reduceEq,n4,n5,n6,m4,m5,m6,o1,o2,o3,o1',o2',o3',bZ,bV,bW,ca,ah,hx,e5];have hf:=gJ (l:=c.nm) (s:=x.1);refine⟨fun h=>⟨by omega,hbadR _ _ _ (hbad (aS fun q=>h q.1))⟩,fun h1=>⟨fun h=>⟨by omega,hbadR _ _ _ (hbad (aS fun q=>by have:=hf.2 q.2.1;omega))⟩,fun h2=>⟨fun h=>⟨by omega,hbadR _ _ _ (hbad (aS fun q=>by have:=q.2.2;omega))⟩,fun h3=>⟨1,⟨by omega,by omega,hsn (aI ⟨RH.1 h1,hf.1 (by omega),by omega⟩)⟩,by omega,⟨by rw[show min 0 t.length=0 by omega];exact .refl _,by rw[kx (by omega) (by omega)];rfl⟩,?_⟩⟩⟩⟩;have htm':(t.take 1).map (fun w:Wd=>DV.v (.int .i64 (bB c.nm w.1)))=[DV.v (.int .i64 (bB c.nm x.1))]:=by have:=htm;simpa using this
       rw[htm'];exact .refl _
      ·have hpp:pp=fun s=>decide (dM s):=by rw[hps]at hp;simpa using hp.symm
       subst hpp;have e5:IntKind.i64.wrap (((1+1:Nat):Int)+1)=((1+1+1:Nat):Int):=e1;simp(maxDischargeDepth:=12) (maxSteps:=1000000) -implicitDefEqProofs only[go_sem,Nat.reduceAdd,Nat.reduceSub,Nat.reduceMul,Nat.reduceLeDiff,Nat.reduceEqDiff,Nat.reduceGT,Nat.reduceBEq,reduceCtorEq,↓reduceIte,Int.reduceToNat,Int.reduceLE,Int.reduceLT,Int.reduceNe,Int.reduceEq,n4,n5,n6,m4,m5,m6,o1,o2,o3,o1',o2',o3',bZ,bV,bW,ca,ah,hx,e5];refine aq (zH _ x.1 (by omega) _) ?_;by_cases hnb:dM x.1
       ·rw[if_pos hnb];simp(maxDischargeDepth:=12) (maxSteps:=1000000) -implicitDefEqProofs only[go_sem,Nat.reduceAdd,Nat.reduceSub,Nat.reduceMul,Nat.reduceLeDiff,Nat.reduceEqDiff,Nat.reduceGT,Nat.reduceBEq,reduceCtorEq,↓reduceIte,Int.reduceToNat,Int.reduceLE,Int.reduceLT,Int.reduceNe,Int.reduceEq,n4,n5,n6,m4,m5,m6,o1,o2,o3,o1',o2',o3',bZ,bV,bW,ca,ah,hx,e5];refine⟨fun h=>by omega,fun _=>⟨2,⟨by rw[hps];exact Ro _,by omega,hsn (decide_eq_true hnb)⟩,by omega,⟨by rw[show min 1 t.length=1 by omega];exact .refl _,by rw[kx (by omega) (by omega)];rfl⟩,?_⟩⟩;rw[←htm];exact .refl _
       ·rw[if_neg hnb];simp(maxDischargeDepth:=12) (maxSteps:=1000000) -implicitDefEqProofs only[go_sem,Nat.reduceAdd,Nat.reduceSub,Nat.reduceMul,Nat.reduceLeDiff,Nat.reduceEqDiff,Nat.reduceGT,Nat.reduceBEq,reduceCtorEq,↓reduceIte,Int.reduceToNat,Int.reduceLE,Int.reduceLT,Int.reduceNe,Int.reduceEq,n4,n5,n6,m4,m5,m6,o1,o2,o3,o1',o2',o3',bZ,bV,bW,ca,ah,hx,e5];exact⟨by omega,hbadR _ _ _ (hbad (decide_eq_false hnb))⟩
     ·have k0:(k=[108,97,98,101,108])=False:=eq_false hkl;have hpm:=Lh hkl hp;subst hpm;by_cases hm:x.1∈c.nm
      ·have hi:=aT hm;simp(maxDischargeDepth:=12) (maxSteps:=1000000) -implicitDefEqProofs only[go_sem,Nat.reduceAdd,Nat.reduceSub,Nat.reduceMul,Nat.reduceLeDiff,Nat.reduceEqDiff,Nat.reduceGT,Nat.reduceBEq,reduceCtorEq,↓reduceIte,Int.reduceToNat,Int.reduceLE,Int.reduceLT,Int.reduceNe,Int.reduceEq,n4,n5,n6,m4,m5,m6,o1,o2,o3,o1',o2',o3',bZ,bV,bW,ca,ah,hx,e1,k0,hi];refine⟨by omega,by omega,by omega,by omega,fun h=>by omega,fun _=>⟨j+1,⟨by omega,by omega,hsn (decide_eq_true hm)⟩,by omega,⟨by rw[show min j t.length=j by omega];exact .refl _,rfl⟩,?_⟩⟩;have htm':(t.take (j+1)).map (fun w:Wd=>DV.v (.int .i64 (bB c.nm w.1)))=(t.take j).map (fun w:Wd=>DV.v (.int .i64 (bB c.nm w.1)))++[DV.v (.int .i64 (ix c x.1:Int))]:=by have:=htm;rw[hi]at this;exact this
       rw[←htm'];exact .refl _
      ·have hi:=o6 hm;simp(maxDischargeDepth:=12) (maxSteps:=1000000) -implicitDefEqProofs only[go_sem,Nat.reduceAdd,Nat.reduceSub,Nat.reduceMul,Nat.reduceLeDiff,Nat.reduceEqDiff,Nat.reduceGT,Nat.reduceBEq,reduceCtorEq,↓reduceIte,Int.reduceToNat,Int.reduceLE,Int.reduceLT,Int.reduceNe,Int.reduceEq,n4,n5,n6,m4,m5,m6,o1,o2,o3,o1',o2',o3',bZ,bV,bW,ca,ah,hx,e1,k0,hi];exact⟨by omega,by omega,by omega,by omega,by omega,hbadR _ _ _ (hbad (decide_eq_false hm))⟩
    ·have hend:=zX (bA c k) t e [] (pT c k) j j3 (by omega) hjl;simp(maxDischargeDepth:=12) (maxSteps:=1000000) -implicitDefEqProofs only[go_sem,Nat.reduceAdd,Nat.reduceSub,Nat.reduceMul,Nat.reduceLeDiff,Nat.reduceEqDiff,Nat.reduceGT,Nat.reduceBEq,reduceCtorEq,↓reduceIte,Int.reduceToNat,Int.reduceLE,Int.reduceLT,Int.reduceNe,Int.reduceEq,n4,n5,n6,m4,m5,m6,o1,o2,o3,o1',o2',o3',bZ,bV,bW,ca,ah,e1];exact⟨fun _=>⟨fun _=>hbadR _ _ _ hend,fun h=>by omega⟩,fun h=>by omega⟩
   ·have hjL:j=(bA c k).length:=by omega
    subst hjL;by_cases hml:t.length=(bA c k).length
    ·have hdone:=p9 (bA c k) t e [] (pT c k) j3 hml;rw[hdone];by_cases h1:k=fO
     ·subst h1;have hps:bA c fO=[fun s=>pB (jY c.nm s),fun s=>decide (dM s)]:=by unfold bA;rw[if_pos rfl]
      rw[hps]at hml j3 ⊢;obtain⟨x1,x2,rfl⟩:=ze hml
      all_goals
       obtain⟨_,_,g1,g2,g3⟩:=j3 0 (by omega);cases g1;cases g2;obtain⟨_,_,g4,g5,g6⟩:=j3 1 (by simp);cases g4;cases g5;have k0:(fO=[108,97,98,101,108])=True:=eq_true rfl;have hnb:jY c.nm x1.1:=(mA _).mp g3;have hnq:dM x2.1:=of_decide_eq_true g6;have hl64:=hnb.2.2;have hul:=hc.cu;have hql:=hc.eJ;have hx2:=hws x2 (by simp);simp(maxDischargeDepth:=12) (maxSteps:=1000000) -implicitDefEqProofs only[go_sem,Nat.reduceAdd,Nat.reduceSub,Nat.reduceMul,Nat.reduceLeDiff,Nat.reduceEqDiff,Nat.reduceGT,Nat.reduceBEq,reduceCtorEq,↓reduceIte,Int.reduceToNat,Int.reduceLE,Int.reduceLT,Int.reduceNe,Int.reduceEq,n4,n5,n6,m4,m5,m6,o1,o2,o3,o1',o2',o3',bZ,bV,bW,ca,ah,e1,k0];refine⟨fun h=>by omega,fun _=>?_⟩;refine Y.u1 ⟨(bp,[.acc ln c.nm.length,.acc lu c.up.length,.acc lq c.qu.length,.sl 3 false ((fM c.gr).map gD)])::R.box,[]⟩ ⟨[],[]⟩ [11] [15] [0,1,2,3,4,6,7,8,5,9,10,11,12,13,14,15] mx (by kernel_rfl) (fun T _=>Y.gq T) ?_;simp(maxDischargeDepth:=12) (maxSteps:=1000000) -implicitDefEqProofs only[go_sem,Nat.reduceAdd,Nat.reduceSub,Nat.reduceMul,Nat.reduceLeDiff,Nat.reduceEqDiff,Nat.reduceGT,Nat.reduceBEq,reduceCtorEq,↓reduceIte,Int.reduceToNat,Int.reduceLE,Int.reduceLT,Int.reduceNe,Int.reduceEq,n4,n5,n6,m4,m5,m6,o1,o2,o3,o1',o2',o3',bZ,bV,bW,ca,ah];refine⟨by omega,by omega,?_⟩;refine Y.u1 ⟨(bp,[.acc ln (c.nm.length+1),.acc lu c.up.length,.acc lq c.qu.length,.sl 3 false ((fM c.gr).map gD)])::R.box,[]⟩ ⟨[],[]⟩ [12] [16] [0,1,2,3,4,6,7,8,5,9,10,11,12,13,14,15,16] mx (by kernel_rfl) (fun T _=>Y.gq T) ?_;simp(maxDischargeDepth:=12) (maxSteps:=1000000) -implicitDefEqProofs only[go_sem,Nat.reduceAdd,Nat.reduceSub,Nat.reduceMul,Nat.reduceLeDiff,Nat.reduceEqDiff,Nat.reduceGT,Nat.reduceBEq,reduceCtorEq,↓reduceIte,Int.reduceToNat,Int.reduceLE,Int.reduceLT,Int.reduceNe,Int.reduceEq,n4,n5,n6,m4,m5,m6,o1,o2,o3,o1',o2',o3',bZ,bV,bW,ca,ah];refine Y.Nr (fun T hT=>zH _ x2.1 (by omega) T) ?_;rw[if_pos hnq];simp(maxDischargeDepth:=12) (maxSteps:=1000000) -implicitDefEqProofs only[go_sem,Nat.reduceAdd,Nat.reduceSub,Nat.reduceMul,Nat.reduceLeDiff,Nat.reduceEqDiff,Nat.reduceGT,Nat.reduceBEq,reduceCtorEq,↓reduceIte,Int.reduceToNat,Int.reduceLE,Int.reduceLT,Int.reduceNe,Int.reduceEq,n4,n5,n6,m4,m5,m6,o1,o2,o3,o1',o2',o3',bZ,bV,bW,ca,ah];refine⟨by omega,by omega,?_⟩;refine Y.u1 ⟨(bp,[.acc ln (c.nm.length+1),.acc lu c.up.length,.acc lq (c.qu.length+1),.sl 3 false ((fM c.gr).map gD)])::R.box,[]⟩ ⟨[],[]⟩ [14] [18] [0,1,2,3,4,6,7,8,9,5,10,11,12,13,14,15,16,17,18] mx (by kernel_rfl) (fun T _=>Y.gq T) ?_;simp(maxDischargeDepth:=12) (maxSteps:=1000000) -implicitDefEqProofs only[go_sem,Nat.reduceAdd,Nat.reduceSub,Nat.reduceMul,Nat.reduceLeDiff,Nat.reduceEqDiff,Nat.reduceGT,Nat.reduceBEq,reduceCtorEq,↓reduceIte,Int.reduceToNat,Int.reduceLE,Int.reduceLT,Int.reduceNe,Int.reduceEq,n4,n5,n6,m4,m5,m6,o1,o2,o3,o1',o2',o3',bZ,bV,bW,ca,ah];refine Y.Nr (fun T hT=>Cu _ c.up.length (by omega) T) ?_;simp(maxDischargeDepth:=12) (maxSteps:=1000000) -implicitDefEqProofs only[go_sem,Nat.reduceAdd,Nat.reduceSub,Nat.reduceMul,Nat.reduceLeDiff,Nat.reduceEqDiff,Nat.reduceGT,Nat.reduceBEq,reduceCtorEq,↓reduceIte,Int.reduceToNat,Int.reduceLE,Int.reduceLT,Int.reduceNe,Int.reduceEq,n4,n5,n6,m4,m5,m6,o1,o2,o3,o1',o2',o3',bZ,bV,bW,ca,ah];have hKe:pT c fO [x1.1,x2.1]=⟨c.nm++[x1.1],c.up++[0],c.qu++[(iD x2.1:Int)],c.gr⟩:=by unfold pT;rw[if_pos rfl]
       rw[hKe];refine⟨by omega,by omega,pR R bp ln lu lq (qb ⟨c.nm++[x1.1],c.up++[0],c.qu++[(iD x2.1:Int)],c.gr⟩),?_,.inr ⟨_,rfl,rfl,rfl⟩⟩;rw[JL hc];unfold pR;simp only[aU,Rk,Sg,R8,Rz,SN,nB hnq,ah];exact⟨.refl _,.cons _ (.refl _)⟩
     ·by_cases h2:k=jI
      ·subst h2;have hps:bA c jI=[fun s=>decide (s∈c.nm),fun s=>decide (s∈c.nm)]:=by unfold bA;rw[if_neg pa,if_pos rfl]
       rw[hps]at hml j3 ⊢;obtain⟨x1,x2,rfl⟩:=ze hml
       all_goals
        obtain⟨_,_,g1,g2,g3⟩:=j3 0 (by omega);cases g1;cases g2;obtain⟨_,_,g4,g5,g6⟩:=j3 1 (by simp);cases g4;cases g5;have k0:(jI=[108,97,98,101,108])=False:=eq_false (by decide);have k1:(jI=[117,110,100,101,114])=True:=eq_true rfl;have hi1:=aT (of_decide_eq_true g3);have hi2:=aT (of_decide_eq_true g6);have hl1:=my (of_decide_eq_true g3);have hl2:=my (of_decide_eq_true g6);have hul:=hc.cu;have hle:=hc.le;have hox:=yQ (up:=c.up) (a:=ix c x1.1) (by omega);have hmem:=nC (up:=c.up) _ (Rj hox);have hx64:=nY (by omega) hmem;have hund:=EV (up:=c.up) (a:=ix c x1.1) (b:=ix c x2.1) (by omega) (by omega);have hgd:(bf c.up).getD (ix c x1.1) 0=aC c.up (ix c x1.1) ||| 2^ix c x1.1:=by rw[Rl,hox];rfl
        rw[hgd]at hund;have hKe:pT c jI [x1.1,x2.1]=⟨c.nm,c.up.set (ix c x1.1) (c.up.getD (ix c x1.1) 0 ||| 2^ix c x2.1),c.qu,c.gr⟩:=by unfold pT;rw[if_neg pa,if_pos rfl]
        generalize aC c.up (ix c x1.1) ||| 2^ix c x1.1=x at hox hmem hx64 hund hgd;simp(maxDischargeDepth:=12) (maxSteps:=1000000) -implicitDefEqProofs only[go_sem,Nat.reduceAdd,Nat.reduceSub,Nat.reduceMul,Nat.reduceLeDiff,Nat.reduceEqDiff,Nat.reduceGT,Nat.reduceBEq,reduceCtorEq,↓reduceIte,Int.reduceToNat,Int.reduceLE,Int.reduceLT,Int.reduceNe,Int.reduceEq,n4,n5,n6,m4,m5,m6,o1,o2,o3,o1',o2',o3',bZ,bV,bW,ca,ah,e1,k0,k1,hi1,hi2,hox];refine⟨fun h=>by omega,fun _=>⟨by omega,by omega,dL (pA _ x (ix c x2.1) hx64 (by omega) _) ?_⟩⟩
        cases htb:x.testBit (ix c x2.1)with
        |true=>
         simp(maxDischargeDepth:=12) (maxSteps:=1000000) -implicitDefEqProofs only[go_sem,Nat.reduceAdd,Nat.reduceSub,Nat.reduceMul,Nat.reduceLeDiff,Nat.reduceEqDiff,Nat.reduceGT,Nat.reduceBEq,reduceCtorEq,↓reduceIte,Int.reduceToNat,Int.reduceLE,Int.reduceLT,Int.reduceNe,Int.reduceEq,n4,n5,n6,m4,m5,m6,o1,o2,o3,o1',o2',o3',bZ,bV,bW,ca,ah,e1,k0,k1,hi1,hi2,hox];rw[htb,if_pos rfl]at hund;rw[hKe];refine⟨pR R bp ln lu lq (qb ⟨c.nm,c.up.set (ix c x1.1) (c.up.getD (ix c x1.1) 0 ||| 2^ix c x2.1),c.qu,c.gr⟩),?_,.inr ⟨_,rfl,rfl,rfl⟩⟩;unfold pR qb;simp only[hund,ah];exact⟨.refl _,.cons _ (.refl _)⟩
        |false=>
         have hwr:IntKind.u64.wrap ((x:Int)+((2^ix c x2.1:Nat):Int))=((x+2^ix c x2.1:Nat):Int):=by
          have h1:=po htb;have h2:x ||| 2^ix c x2.1<2^c.up.length:=nU hmem (fQ (by omega));rw[h1]at h2;have:=nY (by omega) h2;rw[Nu (by omega) (by omega)];omega
         simp(maxDischargeDepth:=12) (maxSteps:=1000000) -implicitDefEqProofs only[go_sem,Nat.reduceAdd,Nat.reduceSub,Nat.reduceMul,Nat.reduceLeDiff,Nat.reduceEqDiff,Nat.reduceGT,Nat.reduceBEq,reduceCtorEq,↓reduceIte,Int.reduceToNat,Int.reduceLE,Int.reduceLT,Int.reduceNe,Int.reduceEq,n4,n5,n6,m4,m5,m6,o1,o2,o3,o1',o2',o3',bZ,bV,bW,ca,ah,e1,k0,k1,hi1,hi2,hox,hwr];refine⟨by omega,by omega,dL (Cu _ (ix c x2.1) (by omega) _) ?_⟩;simp(maxDischargeDepth:=12) (maxSteps:=1000000) -implicitDefEqProofs only[go_sem,Nat.reduceAdd,Nat.reduceSub,Nat.reduceMul,Nat.reduceLeDiff,Nat.reduceEqDiff,Nat.reduceGT,Nat.reduceBEq,reduceCtorEq,↓reduceIte,Int.reduceToNat,Int.reduceLE,Int.reduceLT,Int.reduceNe,Int.reduceEq,n4,n5,n6,m4,m5,m6,o1,o2,o3,o1',o2',o3',bZ,bV,bW,ca,ah,e1,k0,k1,hi1,hi2,hox,hwr];rw[htb,if_neg (by simp)]at hund;rw[hKe];refine⟨by omega,by omega,pR R bp ln lu lq (qb ⟨c.nm,c.up.set (ix c x1.1) (c.up.getD (ix c x1.1) 0 ||| 2^ix c x2.1),c.qu,c.gr⟩),?_,.inr ⟨_,rfl,rfl,rfl⟩⟩;unfold pR qb;simp only[hund,ah,List.map_set,SZ];exact⟨.refl _,.cons _ (.refl _)⟩
      ·have h3:k=mw:=by
        rcases of_decide_eq_true hk with q|q|q
        ·exact absurd q h1
        ·exact absurd q h2
        ·exact q
       subst h3;have hps:bA c mw=[fun s=>decide (s∈c.nm),fun s=>decide (s∈c.nm),fun s=>decide (s∈c.nm)]:=by unfold bA;rw[if_neg pJ,if_neg kG]
       rw[hps]at hml j3 ⊢;obtain⟨x1,x2,x3,rfl⟩:=Bv hml
       all_goals
        obtain⟨_,_,g1,g2,g3⟩:=j3 0 (by simp);cases g1;cases g2;obtain⟨_,_,g4,g5,g6⟩:=j3 1 (by simp);cases g4;cases g5;obtain⟨_,_,g7,g8,g9⟩:=j3 2 (by simp);cases g7;cases g8;have k0:(mw=[108,97,98,101,108])=False:=eq_false (by decide);have k1:(mw=[117,110,100,101,114])=False:=eq_false (by decide);have hi1:=aT (of_decide_eq_true g3);have hi2:=aT (of_decide_eq_true g6);have hi3:=aT (of_decide_eq_true g9);simp(maxDischargeDepth:=12) (maxSteps:=1000000) -implicitDefEqProofs only[go_sem,Nat.reduceAdd,Nat.reduceSub,Nat.reduceMul,Nat.reduceLeDiff,Nat.reduceEqDiff,Nat.reduceGT,Nat.reduceBEq,reduceCtorEq,↓reduceIte,Int.reduceToNat,Int.reduceLE,Int.reduceLT,Int.reduceNe,Int.reduceEq,n4,n5,n6,m4,m5,m6,o1,o2,o3,o1',o2',o3',bZ,bV,bW,ca,ah,e1,k0,k1,hi1,hi2,hi3];refine⟨fun h=>by omega,fun _=>?_⟩;refine Y.Ib [] [11] [0,1,2,4,5,7,8,3,6,9,10,11] mx (by kernel_rfl) ?_;simp(maxDischargeDepth:=12) (maxSteps:=1000000) -implicitDefEqProofs only[go_sem,Nat.reduceAdd,Nat.reduceSub,Nat.reduceMul,Nat.reduceLeDiff,Nat.reduceEqDiff,Nat.reduceGT,Nat.reduceBEq,reduceCtorEq,↓reduceIte,Int.reduceToNat,Int.reduceLE,Int.reduceLT,Int.reduceNe,Int.reduceEq,n4,n5,n6,m4,m5,m6,o1,o2,o3,o1',o2',o3',bZ,bV,bW,ca,ah,hi1,hi2,hi3];have hal:=FD c.gr;refine bQ (JX _ _ bp (.acc ln c.nm.length) (.acc lu c.up.length) (.acc lq c.qu.length) (fM c.gr) ⟨(ix c x1.1:Int),(ix c x2.1:Int),(ix c x3.1:Int)⟩ (by simp(maxDischargeDepth:=12) (maxSteps:=1000000) -implicitDefEqProofs only[go_sem,Nat.reduceAdd,Nat.reduceSub,Nat.reduceMul,Nat.reduceLeDiff,Nat.reduceEqDiff,Nat.reduceGT,Nat.reduceBEq,reduceCtorEq,↓reduceIte,Int.reduceToNat,Int.reduceLE,Int.reduceLT,Int.reduceNe,Int.reduceEq]) (by omega)) ?_;rintro _ _ ⟨rfl,rfl⟩;have hKe:pT c mw [x1.1,x2.1,x3.1]=⟨c.nm,c.up,c.qu,c.gr++[⟨(ix c x1.1:Int),(ix c x2.1:Int),(ix c x3.1:Int)⟩]⟩:=by unfold pT;rw[if_neg pJ,if_neg kG]
        simp(maxDischargeDepth:=12) (maxSteps:=1000000) -implicitDefEqProofs only[go_sem,Nat.reduceAdd,Nat.reduceSub,Nat.reduceMul,Nat.reduceLeDiff,Nat.reduceEqDiff,Nat.reduceGT,Nat.reduceBEq,reduceCtorEq,↓reduceIte,Int.reduceToNat,Int.reduceLE,Int.reduceLT,Int.reduceNe,Int.reduceEq,n4,n5,n6,m4,m5,m6,o1,o2,o3,o1',o2',o3',bZ,bV,bW,ca,ah,hi1,hi2,hi3];rw[hKe];refine⟨pR R bp ln lu lq (qb ⟨c.nm,c.up,c.qu,c.gr++[⟨(ix c x1.1:Int),(ix c x2.1:Int),(ix c x3.1:Int)⟩]⟩),?_,.inr ⟨_,rfl,rfl,rfl⟩⟩;unfold pR qb;simp only[BI,ah];exact⟨.refl _,.cons _ (.refl _)⟩
    ·have hx:t[(bA c k).length]? =some (t[(bA c k).length]'(by omega)):=so (by omega);generalize t[(bA c k).length]'(by omega)=x at hx;have hmore:=vg (bA c k) t e [] (pT c k) x j3 hx;simp(maxDischargeDepth:=12) (maxSteps:=1000000) -implicitDefEqProofs only[go_sem,Nat.reduceAdd,Nat.reduceSub,Nat.reduceMul,Nat.reduceLeDiff,Nat.reduceEqDiff,Nat.reduceGT,Nat.reduceBEq,reduceCtorEq,↓reduceIte,Int.reduceToNat,Int.reduceLE,Int.reduceLT,Int.reduceNe,Int.reduceEq,n4,n5,n6,m4,m5,m6,o1,o2,o3,o1',o2',o3',bZ,bV,bW,ca,ah,e1,hx];exact⟨fun h=>by omega,fun _=>⟨fun _=>⟨by omega,hbadR _ _ _ hmore⟩,fun h=>by omega⟩⟩
 ·have hk':jE k=false:=by simpa using hk
  rw[NW hk'];have hlf:cX c ((k,a)::t) e= .inl a:=by unfold cX;rw[az];simp only[hk'];rfl
  rw[hlf];simp(maxDischargeDepth:=12) (maxSteps:=1000000) -implicitDefEqProofs only[go_sem,Nat.reduceAdd,Nat.reduceSub,Nat.reduceMul,Nat.reduceLeDiff,Nat.reduceEqDiff,Nat.reduceGT,Nat.reduceBEq,reduceCtorEq,↓reduceIte,Int.reduceToNat,Int.reduceLE,Int.reduceLT,Int.reduceNe,Int.reduceEq,n4,n5,n6,m4,m5,m6];exact⟨by omega,pR R bp ln lu lq (qb c),by rw[hpe];exact .refl _,.inl ⟨a,rfl,rfl,rfl⟩⟩
theorem tR{S:List UInt8}{i f:Nat}(hi:i<S.length)(hf:f≤i):(S.take (i+1)).drop f=(S.take i).drop f++[S[i]]:=by
 rw[Sm,so hi];rw[List.drop_append_of_le_length (by rw[RA];omega)];rfl
noncomputable def fW(S:List UInt8)(i f:Nat)(c:Cf)(a:Nat):(Nat×Nat) ⊕ Cf:=if i≤S.length then pL c a (lD ((S.take i).drop f) (S.drop i))else .inr c
theorem yS(l:List UInt8):(gP l).1.length≤l.length:=by
 have h1:=lv (ak l) 0 1 none;have h2:=dC l;unfold gP;simp at h1;omega
theorem K8(w0:W0)(s:ByteArray)(hs:s.size≤100000)(S:St):
 ab Tryz.prog w0 11 [dS s] S (fun d S'=>d=rD (cQ s.data.toList)∧S'=S):=by
 refine cR [] mx Tryz.func11 rfl rfl (by kernel_rfl) ?_;simp(maxDischargeDepth:=12) (maxSteps:=1000000) -implicitDefEqProofs only[Tryz.ntmps11,go_sem,Nat.reduceAdd,Nat.reduceSub,Nat.reduceMul,Nat.reduceLeDiff,Nat.reduceEqDiff,Nat.reduceGT,Nat.reduceBEq,reduceCtorEq,↓reduceIte,Int.reduceToNat,Int.reduceLE,Int.reduceLT,Int.reduceNe,Int.reduceEq];intro bt bp;refine rk bp.n 0 1 (by omega) (ds:=[.sl 0 true [],.sl 0 true [],.sl 0 true [],.sl 0 true []]) (by simp(maxDischargeDepth:=12) (maxSteps:=1000000) -implicitDefEqProofs only[go_sem,Nat.reduceAdd,Nat.reduceSub,Nat.reduceMul,Nat.reduceLeDiff,Nat.reduceEqDiff,Nat.reduceGT,Nat.reduceBEq,reduceCtorEq,↓reduceIte,Int.reduceToNat,Int.reduceLE,Int.reduceLT,Int.reduceNe,Int.reduceEq]) rfl fun ln=>?_;refine dT bp.n 1 1 (by omega) (ds:=[.acc ln.n 0,.sl 0 true [],.sl 0 true [],.sl 0 true []]) (by simp(maxDischargeDepth:=12) (maxSteps:=1000000) -implicitDefEqProofs only[go_sem,Nat.reduceAdd,Nat.reduceSub,Nat.reduceMul,Nat.reduceLeDiff,Nat.reduceEqDiff,Nat.reduceGT,Nat.reduceBEq,reduceCtorEq,↓reduceIte,Int.reduceToNat,Int.reduceLE,Int.reduceLT,Int.reduceNe,Int.reduceEq]) rfl fun lu=>?_;refine dT bp.n 2 1 (by omega) (ds:=[.acc ln.n 0,.acc lu.n 0,.sl 0 true [],.sl 0 true []]) (by simp(maxDischargeDepth:=12) (maxSteps:=1000000) -implicitDefEqProofs only[go_sem,Nat.reduceAdd,Nat.reduceSub,Nat.reduceMul,Nat.reduceLeDiff,Nat.reduceEqDiff,Nat.reduceGT,Nat.reduceBEq,reduceCtorEq,↓reduceIte,Int.reduceToNat,Int.reduceLE,Int.reduceLT,Int.reduceNe,Int.reduceEq]) rfl fun lq=>?_;refine Lv bp.n [.acc ln.n 0,.acc lu.n 0,.acc lq.n 0,.sl 3 false []] (ds:=[.acc ln.n 0,.acc lu.n 0,.acc lq.n 0,.sl 0 true []]) (by simp(maxDischargeDepth:=12) (maxSteps:=1000000) -implicitDefEqProofs only[go_sem,Nat.reduceAdd,Nat.reduceSub,Nat.reduceMul,Nat.reduceLeDiff,Nat.reduceEqDiff,Nat.reduceGT,Nat.reduceBEq,reduceCtorEq,↓reduceIte,Int.reduceToNat,Int.reduceLE,Int.reduceLT,Int.reduceNe,Int.reduceEq]) (.cons (.refl _) (.cons (.refl _) (.cons (.refl _) (.cons (.nil _ _ _) trivial)))) ?_;have hm8:maxLen=9223372036854775807:=rfl;have n6:=af lu ln.n (by simp(maxDischargeDepth:=12) (maxSteps:=1000000) -implicitDefEqProofs only[go_sem,Nat.reduceAdd,Nat.reduceSub,Nat.reduceMul,Nat.reduceLeDiff,Nat.reduceEqDiff,Nat.reduceGT,Nat.reduceBEq,reduceCtorEq,↓reduceIte,Int.reduceToNat,Int.reduceLE,Int.reduceLT,Int.reduceNe,Int.reduceEq]);have n5:=af lq ln.n (by simp(maxDischargeDepth:=12) (maxSteps:=1000000) -implicitDefEqProofs only[go_sem,Nat.reduceAdd,Nat.reduceSub,Nat.reduceMul,Nat.reduceLeDiff,Nat.reduceEqDiff,Nat.reduceGT,Nat.reduceBEq,reduceCtorEq,↓reduceIte,Int.reduceToNat,Int.reduceLE,Int.reduceLT,Int.reduceNe,Int.reduceEq,n6]);have n4:=af lq lu.n (by simp(maxDischargeDepth:=12) (maxSteps:=1000000) -implicitDefEqProofs only[go_sem,Nat.reduceAdd,Nat.reduceSub,Nat.reduceMul,Nat.reduceLeDiff,Nat.reduceEqDiff,Nat.reduceGT,Nat.reduceBEq,reduceCtorEq,↓reduceIte,Int.reduceToNat,Int.reduceLE,Int.reduceLT,Int.reduceNe,Int.reduceEq]);have m4:(lu.n=lq.n)=False:=by rw[←n4];exact propext eq_comm
 have m5:(ln.n=lq.n)=False:=by rw[←n5];exact propext eq_comm
 have m6:(ln.n=lu.n)=False:=by rw[←n6];exact propext eq_comm
 have b1:=af bp bt.n (by simp(maxDischargeDepth:=12) (maxSteps:=1000000) -implicitDefEqProofs only[go_sem,Nat.reduceAdd,Nat.reduceSub,Nat.reduceMul,Nat.reduceLeDiff,Nat.reduceEqDiff,Nat.reduceGT,Nat.reduceBEq,reduceCtorEq,↓reduceIte,Int.reduceToNat,Int.reduceLE,Int.reduceLT,Int.reduceNe,Int.reduceEq]);have b2:(bt.n=bp.n)=False:=by rw[←b1];exact propext eq_comm
 have hL:s.data.toList.length=s.size:=aw s;refine bS [] [0,2,6,7,8,9] (σ:=(Nat×Nat)×(Nat×Cf)) (fun p=>[(0,dS s),(2,.v (.pointer (some ⟨bt.n,0,none⟩))),(6,.v (.pointer (some ⟨bp.n,0,none⟩))),(7,dI p.1.2),(8,dI p.2.1),(9,dI p.1.1)]) (fun p=>pR ⟨(bt.n,[.sl 0 true [],.sl 0 true [],.sl 0 true [],.sl 0 true []])::S.box,S.acc⟩ bp.n ln.n lu.n lq.n (qb p.2.2)) (fun p=>p.1.1≤s.size+1∧p.1.2≤p.1.1∧p.2.1≤p.1.1+1∧Cw p.2.2∧p.2.2.gr.length≤p.1.1∧pL fZ 1 (im s.data.toList)=fW s.data.toList p.1.1 p.1.2 p.2.2 p.2.1) (fun p=>s.size+1-p.1.1) ((0,0),(1,fZ)) mx (by kernel_rfl) ⟨⟨RL _,Ro _,Ro _,L6,Ro _,rfl⟩,?_⟩ fun p hp=>?_
 ·simp(maxDischargeDepth:=12) (maxSteps:=1000000) -implicitDefEqProofs only[go_sem,Nat.reduceAdd,Nat.reduceSub,Nat.reduceMul,Nat.reduceLeDiff,Nat.reduceEqDiff,Nat.reduceGT,Nat.reduceBEq,reduceCtorEq,↓reduceIte,Int.reduceToNat,Int.reduceLE,Int.reduceLT,Int.reduceNe,Int.reduceEq];exact .refl _
 ·obtain⟨⟨i,f⟩,⟨a,c⟩⟩:=p;obtain⟨k1,k2,k3,k4,k5,k6⟩:=hp;simp only at k1 k2 k3 k4 k5 k6;have e1:IntKind.i64.wrap ((i:Int)+1)=((i+1:Nat):Int):=ax (by omega);have e2:IntKind.i64.wrap ((a:Int)+1)=((a+1:Nat):Int):=ax (by omega);by_cases hil:i≤s.size
  ·by_cases hlt:i<s.size
   ·have hx:s.data.toList[i]? =some (s.data.toList[i]'(by omega)):=so (by omega);have hdr:s.data.toList.drop i=s.data.toList[i]'(by omega)::s.data.toList.drop (i+1):=(Tq (by omega)).symm;have hsn:=tR (S:=s.data.toList) (i:=i) (f:=f) (by omega) k2;generalize s.data.toList[i]'(by omega)=x at hx hdr hsn;by_cases hx10:x=10
    ·subst hx10
     have hrest:∃rest,fW s.data.toList i f c a=pL c a ((s.data.toList.take i).drop f::rest)∧∀c',fW s.data.toList (i+1) (i+1) c' (a+1)=pL c' (a+1) rest:=by
      refine⟨lD [] (s.data.toList.drop (i+1)),?_,fun c'=>?_⟩
      ·unfold fW;rw[if_pos (by omega),hdr,lD,if_pos rfl]
      ·unfold fW;rw[if_pos (by omega),List.drop_eq_nil_of_le (by rw[RA];omega)]
     have h10:(((10:UInt8).toNat:Int)=10)=True:=eq_true rfl;simp(maxDischargeDepth:=12) (maxSteps:=1000000) -implicitDefEqProofs only[go_sem,Nat.reduceAdd,Nat.reduceSub,Nat.reduceMul,Nat.reduceLeDiff,Nat.reduceEqDiff,Nat.reduceGT,Nat.reduceBEq,reduceCtorEq,↓reduceIte,Int.reduceToNat,Int.reduceLE,Int.reduceLT,Int.reduceNe,Int.reduceEq,n4,n5,n6,m4,m5,m6,b1,b2,e1,e2,hx,h10];refine⟨fun _=>⟨fun _=>⟨hlt,by omega,by omega,?_⟩,fun h=>by omega⟩,fun h=>by omega⟩;have hcur:(s.extract f i).data.toList=(s.data.toList.take i).drop f:=dm s f i;have hcl:((s.data.toList.take i).drop f).length≤s.size:=by rw[RP,RA];omega
     obtain⟨rest,hr1,hr2⟩:=hrest;rw[hr1,pL]at k6;refine aq (CL _ (s.extract f i) (by rw[←aw,hcur];omega) _) ?_;rw[hcur];generalize (s.data.toList.take i).drop f=cur at*;have hwl:=rZ cur;have hwc:=yS cur;generalize hws:gP cur=we at hwl hwc;obtain⟨ws,e⟩:=we
     cases ws with
     |nil=>
      have hlf:kv c cur= .inr c:=by unfold kv;rw[hws];rfl
      rw[hlf]at k6;simp(maxDischargeDepth:=12) (maxSteps:=1000000) -implicitDefEqProofs only[go_sem,Nat.reduceAdd,Nat.reduceSub,Nat.reduceMul,Nat.reduceLeDiff,Nat.reduceEqDiff,Nat.reduceGT,Nat.reduceBEq,reduceCtorEq,↓reduceIte,Int.reduceToNat,Int.reduceLE,Int.reduceLT,Int.reduceNe,Int.reduceEq,n4,n5,n6,m4,m5,m6,b1,b2,e1,e2];refine⟨fun h=>by omega,fun _=>⟨((i+1,i+1),(a+1,c)),⟨by show i+1≤_;omega,Ro _,by show a+1≤i+1+1;omega,k4,by show _≤i+1;exact Nat.le_succ_of_le k5,by rw[k6];exact(hr2 c).symm⟩,by show s.size+1-(i+1)<_;omega,⟨rfl,rfl,rfl⟩,.refl _⟩⟩
     |cons wd tl=>
      have hlf:kv c cur=cX c (wd::tl) e:=by unfold kv;rw[hws];rfl
      have hat:∀n,cX c (wd::tl) e= .inl n→1≤n:=fun n h=>(td (hlf.trans h)).1;simp(maxDischargeDepth:=12) (maxSteps:=1000000) -implicitDefEqProofs only[go_sem,Nat.reduceAdd,Nat.reduceSub,Nat.reduceMul,Nat.reduceLeDiff,Nat.reduceEqDiff,Nat.reduceGT,Nat.reduceBEq,reduceCtorEq,↓reduceIte,Int.reduceToNat,Int.reduceLE,Int.reduceLT,Int.reduceNe,Int.reduceEq,n4,n5,n6,m4,m5,m6,b1,b2,e1,e2];refine⟨fun _=>?_,fun h=>by omega⟩;refine bQ (JA _ ⟨(bt.n,[.sl 0 true [],.sl 0 true [],.sl 0 true [],.sl 0 true []])::S.box,S.acc⟩ bp.n ln.n lu.n lq.n n4 n5 n6 c k4 (by omega) (wd::tl) (by simp) (by simp only at hwc ⊢;omega) (fun w hw=>by have:=hwl w hw;omega) e) ?_;rintro _ _ (⟨n,hn,rfl,rfl⟩|⟨c',hc',rfl,rfl⟩)
      ·have hn1:=hat n hn;rw[hlf,hn]at k6;have hpf:cQ s.data.toList=(none,a,n):=by unfold cQ;rw[k6]
       rw[hpf];simp(maxDischargeDepth:=12) (maxSteps:=1000000) -implicitDefEqProofs only[go_sem,Nat.reduceAdd,Nat.reduceSub,Nat.reduceMul,Nat.reduceLeDiff,Nat.reduceEqDiff,Nat.reduceGT,Nat.reduceBEq,reduceCtorEq,↓reduceIte,Int.reduceToNat,Int.reduceLE,Int.reduceLT,Int.reduceNe,Int.reduceEq,n4,n5,n6,m4,m5,m6,b1,b2,e1,e2];refine⟨fun _=>uQ _ _ _,fun h=>by omega⟩
      ·rw[hlf,hc']at k6;have hc1:=pc k4 hc';simp(maxDischargeDepth:=12) (maxSteps:=1000000) -implicitDefEqProofs only[go_sem,Nat.reduceAdd,Nat.reduceSub,Nat.reduceMul,Nat.reduceLeDiff,Nat.reduceEqDiff,Nat.reduceGT,Nat.reduceBEq,reduceCtorEq,↓reduceIte,Int.reduceToNat,Int.reduceLE,Int.reduceLT,Int.reduceNe,Int.reduceEq,n4,n5,n6,m4,m5,m6,b1,b2,e1,e2];refine⟨fun h=>by omega,fun _=>⟨((i+1,i+1),(a+1,c')),⟨by show i+1≤_;omega,Ro _,by show a+1≤i+1+1;omega,hc1.1,by show c'.gr.length≤i+1;have:=hc1.2;omega,by rw[k6];exact(hr2 c').symm⟩,by show s.size+1-(i+1)<_;omega,⟨rfl,rfl,rfl⟩,.refl _⟩⟩
    ·have h10:((x.toNat:Int)=10)=False:=by
      refine eq_false fun h=>hx10 ?_;have h':x.toNat=10:=by omega
      exact Tx.1 (h'.trans rfl)
     have hk:fW s.data.toList i f c a=fW s.data.toList (i+1) f c a:=by
      unfold fW;rw[if_pos (by omega),if_pos (by omega),hdr,lD,if_neg hx10,hsn]
     rw[hk]at k6;simp(maxDischargeDepth:=12) (maxSteps:=1000000) -implicitDefEqProofs only[go_sem,Nat.reduceAdd,Nat.reduceSub,Nat.reduceMul,Nat.reduceLeDiff,Nat.reduceEqDiff,Nat.reduceGT,Nat.reduceBEq,reduceCtorEq,↓reduceIte,Int.reduceToNat,Int.reduceLE,Int.reduceLT,Int.reduceNe,Int.reduceEq,n4,n5,n6,m4,m5,m6,b1,b2,e1,e2,hx,h10];refine⟨fun _=>⟨fun _=>⟨hlt,((i+1,f),(a,c)),⟨by show i+1≤_;omega,by show f≤i+1;omega,by show a≤i+1+1;omega,k4,by show _≤i+1;exact Nat.le_succ_of_le k5,k6⟩,by show s.size+1-(i+1)<_;omega,⟨rfl,rfl,rfl⟩,.refl _⟩,fun h=>by omega⟩,fun h=>by omega⟩
   ·have hdr:s.data.toList.drop i=[]:=Tp (by omega)
    have hrest:∃rest,fW s.data.toList i f c a=pL c a ((s.data.toList.take i).drop f::rest)∧∀c',fW s.data.toList (i+1) (i+1) c' (a+1)=pL c' (a+1) rest:=by
     refine⟨[],?_,fun c'=>?_⟩
     ·unfold fW;rw[if_pos (by omega),hdr,lD]
     ·unfold fW;rw[if_neg (by omega),pL]
    simp(maxDischargeDepth:=12) (maxSteps:=1000000) -implicitDefEqProofs only[go_sem,Nat.reduceAdd,Nat.reduceSub,Nat.reduceMul,Nat.reduceLeDiff,Nat.reduceEqDiff,Nat.reduceGT,Nat.reduceBEq,reduceCtorEq,↓reduceIte,Int.reduceToNat,Int.reduceLE,Int.reduceLT,Int.reduceNe,Int.reduceEq,n4,n5,n6,m4,m5,m6,b1,b2,e1,e2];refine⟨fun _=>⟨fun h=>by omega,fun _=>⟨by omega,by omega,?_⟩⟩,fun h=>by omega⟩;have hcur:(s.extract f i).data.toList=(s.data.toList.take i).drop f:=dm s f i;have hcl:((s.data.toList.take i).drop f).length≤s.size:=by rw[RP,RA];omega
    obtain⟨rest,hr1,hr2⟩:=hrest;rw[hr1,pL]at k6;refine aq (CL _ (s.extract f i) (by rw[←aw,hcur];omega) _) ?_;rw[hcur];generalize (s.data.toList.take i).drop f=cur at*;have hwl:=rZ cur;have hwc:=yS cur;generalize hws:gP cur=we at hwl hwc;obtain⟨ws,e⟩:=we
    cases ws with
    |nil=>
     have hlf:kv c cur= .inr c:=by unfold kv;rw[hws];rfl
     rw[hlf]at k6;simp(maxDischargeDepth:=12) (maxSteps:=1000000) -implicitDefEqProofs only[go_sem,Nat.reduceAdd,Nat.reduceSub,Nat.reduceMul,Nat.reduceLeDiff,Nat.reduceEqDiff,Nat.reduceGT,Nat.reduceBEq,reduceCtorEq,↓reduceIte,Int.reduceToNat,Int.reduceLE,Int.reduceLT,Int.reduceNe,Int.reduceEq,n4,n5,n6,m4,m5,m6,b1,b2,e1,e2];refine⟨fun h=>by omega,fun _=>⟨((i+1,i+1),(a+1,c)),⟨by show i+1≤_;omega,Ro _,by show a+1≤i+1+1;omega,k4,by show _≤i+1;exact Nat.le_succ_of_le k5,by rw[k6];exact(hr2 c).symm⟩,by show s.size+1-(i+1)<_;omega,⟨rfl,rfl,rfl⟩,.refl _⟩⟩
    |cons wd tl=>
     have hlf:kv c cur=cX c (wd::tl) e:=by unfold kv;rw[hws];rfl
     have hat:∀n,cX c (wd::tl) e= .inl n→1≤n:=fun n h=>(td (hlf.trans h)).1;simp(maxDischargeDepth:=12) (maxSteps:=1000000) -implicitDefEqProofs only[go_sem,Nat.reduceAdd,Nat.reduceSub,Nat.reduceMul,Nat.reduceLeDiff,Nat.reduceEqDiff,Nat.reduceGT,Nat.reduceBEq,reduceCtorEq,↓reduceIte,Int.reduceToNat,Int.reduceLE,Int.reduceLT,Int.reduceNe,Int.reduceEq,n4,n5,n6,m4,m5,m6,b1,b2,e1,e2];refine⟨fun _=>?_,fun h=>by omega⟩;refine bQ (JA _ ⟨(bt.n,[.sl 0 true [],.sl 0 true [],.sl 0 true [],.sl 0 true []])::S.box,S.acc⟩ bp.n ln.n lu.n lq.n n4 n5 n6 c k4 (by omega) (wd::tl) (by simp) (by simp only at hwc ⊢;omega) (fun w hw=>by have:=hwl w hw;omega) e) ?_;rintro _ _ (⟨n,hn,rfl,rfl⟩|⟨c',hc',rfl,rfl⟩)
     ·have hn1:=hat n hn;rw[hlf,hn]at k6;have hpf:cQ s.data.toList=(none,a,n):=by unfold cQ;rw[k6]
      rw[hpf];simp(maxDischargeDepth:=12) (maxSteps:=1000000) -implicitDefEqProofs only[go_sem,Nat.reduceAdd,Nat.reduceSub,Nat.reduceMul,Nat.reduceLeDiff,Nat.reduceEqDiff,Nat.reduceGT,Nat.reduceBEq,reduceCtorEq,↓reduceIte,Int.reduceToNat,Int.reduceLE,Int.reduceLT,Int.reduceNe,Int.reduceEq,n4,n5,n6,m4,m5,m6,b1,b2,e1,e2];refine⟨fun _=>uQ _ _ _,fun h=>by omega⟩
     ·rw[hlf,hc']at k6;have hc1:=pc k4 hc';simp(maxDischargeDepth:=12) (maxSteps:=1000000) -implicitDefEqProofs only[go_sem,Nat.reduceAdd,Nat.reduceSub,Nat.reduceMul,Nat.reduceLeDiff,Nat.reduceEqDiff,Nat.reduceGT,Nat.reduceBEq,reduceCtorEq,↓reduceIte,Int.reduceToNat,Int.reduceLE,Int.reduceLT,Int.reduceNe,Int.reduceEq,n4,n5,n6,m4,m5,m6,b1,b2,e1,e2];refine⟨fun h=>by omega,fun _=>⟨((i+1,i+1),(a+1,c')),⟨by show i+1≤_;omega,Ro _,by show a+1≤i+1+1;omega,hc1.1,by show c'.gr.length≤i+1;have:=hc1.2;omega,by rw[k6];exact(hr2 c').symm⟩,by show s.size+1-(i+1)<_;omega,⟨rfl,rfl,rfl⟩,.refl _⟩⟩
  ·have hinr:fW s.data.toList i f c a= .inr c:=by unfold fW;rw[if_neg (by omega)]
   rw[hinr]at k6;have hou:dD (bf c.up):=fun x hx=>nY (by have:=k4.le;have:=k4.cu;omega) (nC x hx);have hcl:=JY w0 (bf c.up) hou (by rw[ah,k4.cu];exact k4.le);rw[nM]at hcl;simp(maxDischargeDepth:=12) (maxSteps:=1000000) -implicitDefEqProofs only[go_sem,Nat.reduceAdd,Nat.reduceSub,Nat.reduceMul,Nat.reduceLeDiff,Nat.reduceEqDiff,Nat.reduceGT,Nat.reduceBEq,reduceCtorEq,↓reduceIte,Int.reduceToNat,Int.reduceLE,Int.reduceLT,Int.reduceNe,Int.reduceEq,n4,n5,n6,m4,m5,m6,b1,b2,e1,e2,bZ,bV,bW,ca,ah];refine⟨fun h=>by omega,fun _=> .inr (aq (hcl _) ?_)⟩;simp(maxDischargeDepth:=12) (maxSteps:=1000000) -implicitDefEqProofs only[go_sem,Nat.reduceAdd,Nat.reduceSub,Nat.reduceMul,Nat.reduceLeDiff,Nat.reduceEqDiff,Nat.reduceGT,Nat.reduceBEq,reduceCtorEq,↓reduceIte,Int.reduceToNat,Int.reduceLE,Int.reduceLT,Int.reduceNe,Int.reduceEq,n4,n5,n6,m4,m5,m6,b1,b2];refine aq (rG _ (gQ c) (k4.fin (by omega)) _) ?_;have hpf:cQ s.data.toList=if pB (gv (gQ c))then(some (gQ c),0,0)else(none,0,0):=by unfold cQ;rw[k6]
   rw[hpf];by_cases hc:gv (gQ c)
   ·rw[aI hc];simp(maxDischargeDepth:=12) (maxSteps:=1000000) -implicitDefEqProofs only[go_sem,Nat.reduceAdd,Nat.reduceSub,Nat.reduceMul,Nat.reduceLeDiff,Nat.reduceEqDiff,Nat.reduceGT,Nat.reduceBEq,reduceCtorEq,↓reduceIte,Int.reduceToNat,Int.reduceLE,Int.reduceLT,Int.reduceNe,Int.reduceEq,n4,n5,n6,m4,m5,m6,b1,b2];exact .refl _
   ·rw[aS hc];simp(maxDischargeDepth:=12) (maxSteps:=1000000) -implicitDefEqProofs only[go_sem,Nat.reduceAdd,Nat.reduceSub,Nat.reduceMul,Nat.reduceLeDiff,Nat.reduceEqDiff,Nat.reduceGT,Nat.reduceBEq,reduceCtorEq,↓reduceIte,Int.reduceToNat,Int.reduceLE,Int.reduceLT,Int.reduceNe,Int.reduceEq,n4,n5,n6,m4,m5,m6,b1,b2];exact uQ _ _ _
theorem NB(w0:W0)(l m:List Nat)(h0:l.length≤4611686018427387904)(S:St):ab Tryz.prog w0 29 [eH l,eH m] S (fun d S'=>d=dB (decide (l=m))∧S'=S):=by
 refine cR [] mx Tryz.func29 rfl rfl (by kernel_rfl) ?_;simp(maxDischargeDepth:=12) (maxSteps:=1000000) -implicitDefEqProofs only[Tryz.ntmps29,go_sem,Nat.reduceAdd,Nat.reduceSub,Nat.reduceMul,Nat.reduceLeDiff,Nat.reduceEqDiff,Nat.reduceGT,Nat.reduceBEq,reduceCtorEq,↓reduceIte,Int.reduceToNat,Int.reduceLE,Int.reduceLT,Int.reduceNe,Int.reduceEq];refine⟨fun h1 h2=>h1 (congrArg List.length h2),fun h=>?_⟩;have h:l.length=m.length:=by omega
 refine bw [] l.length [0,1,5] (fun i=>[(5,dI i)]) (fun i=>S) (fun i=>∀j,j<i→l[j]? =m[j]?) mx (by kernel_rfl) ?_ ?_
 ·simp(maxDischargeDepth:=12) (maxSteps:=1000000) -implicitDefEqProofs only[go_sem,Nat.reduceAdd,Nat.reduceSub,Nat.reduceMul,Nat.reduceLeDiff,Nat.reduceEqDiff,Nat.reduceGT,Nat.reduceBEq,reduceCtorEq,↓reduceIte,Int.reduceToNat,Int.reduceLE,Int.reduceLT,Int.reduceNe,Int.reduceEq];intro j hj;omega
 ·intro i hi hinv;have e1:i<4611686018427387904→IntKind.i64.wrap ((i:Int)+1)=((i+1:Nat):Int):=fun h=>ax (by omega);by_cases hil:i<l.length
  ·have e1:=e1 (by omega);have hx:l[i]? =some l[i]:=so hil;have hy:m[i]? =some (m[i]'(by omega)):=so (by omega);generalize l[i]=x at hx;generalize m[i]'(by omega)=y at hy;simp(maxDischargeDepth:=12) (maxSteps:=1000000) -implicitDefEqProofs only[go_sem,Nat.reduceAdd,Nat.reduceSub,Nat.reduceMul,Nat.reduceLeDiff,Nat.reduceEqDiff,Nat.reduceGT,Nat.reduceBEq,reduceCtorEq,↓reduceIte,Int.reduceToNat,Int.reduceLE,Int.reduceLT,Int.reduceNe,Int.reduceEq,hx,hy,e1];refine⟨fun _=>⟨hil,by omega,fun hne e=>hne ?_,fun he=>⟨hil,fun j hj=>?_⟩⟩,fun h=>absurd hil h⟩
   ·rw[e,hy]at hx;exact(RG hx).symm
   ·by_cases e:j=i
    ·subst e;rw[hx,hy,Decidable.not_not.1 he]
    ·exact hinv j (by omega)
  ·simp(maxDischargeDepth:=12) (maxSteps:=1000000) -implicitDefEqProofs only[go_sem,Nat.reduceAdd,Nat.reduceSub,Nat.reduceMul,Nat.reduceLeDiff,Nat.reduceEqDiff,Nat.reduceGT,Nat.reduceBEq,reduceCtorEq,↓reduceIte,Int.reduceToNat,Int.reduceLE,Int.reduceLT,Int.reduceNe,Int.reduceEq];refine⟨fun h=>absurd h hil,fun _=>?_⟩;refine Sh fun j=>?_;by_cases hj:j<l.length
   ·exact hinv j (by omega)
   ·rw[Ry (by omega),Ry (by omega)]
theorem ME(w0:W0)(l m:List Int)(h0:l.length≤4611686018427387904)(S:St):ab Tryz.prog w0 31 [nJ l,nJ m] S (fun d S'=>d=dB (decide (l=m))∧S'=S):=by
 refine cR [] mx Tryz.func31 rfl rfl (by kernel_rfl) ?_;simp(maxDischargeDepth:=12) (maxSteps:=1000000) -implicitDefEqProofs only[Tryz.ntmps31,go_sem,Nat.reduceAdd,Nat.reduceSub,Nat.reduceMul,Nat.reduceLeDiff,Nat.reduceEqDiff,Nat.reduceGT,Nat.reduceBEq,reduceCtorEq,↓reduceIte,Int.reduceToNat,Int.reduceLE,Int.reduceLT,Int.reduceNe,Int.reduceEq];refine⟨fun h1 h2=>h1 (congrArg List.length h2),fun h=>?_⟩;have h:l.length=m.length:=by omega
 refine bw [] l.length [0,1,5] (fun i=>[(5,dI i)]) (fun i=>S) (fun i=>∀j,j<i→l[j]? =m[j]?) mx (by kernel_rfl) ?_ ?_
 ·simp(maxDischargeDepth:=12) (maxSteps:=1000000) -implicitDefEqProofs only[go_sem,Nat.reduceAdd,Nat.reduceSub,Nat.reduceMul,Nat.reduceLeDiff,Nat.reduceEqDiff,Nat.reduceGT,Nat.reduceBEq,reduceCtorEq,↓reduceIte,Int.reduceToNat,Int.reduceLE,Int.reduceLT,Int.reduceNe,Int.reduceEq];intro j hj;omega
 ·intro i hi hinv;have e1:i<4611686018427387904→IntKind.i64.wrap ((i:Int)+1)=((i+1:Nat):Int):=fun h=>ax (by omega);by_cases hil:i<l.length
  ·have e1:=e1 (by omega);have hx:l[i]? =some l[i]:=so hil;have hy:m[i]? =some (m[i]'(by omega)):=so (by omega);generalize l[i]=x at hx;generalize m[i]'(by omega)=y at hy;simp(maxDischargeDepth:=12) (maxSteps:=1000000) -implicitDefEqProofs only[go_sem,Nat.reduceAdd,Nat.reduceSub,Nat.reduceMul,Nat.reduceLeDiff,Nat.reduceEqDiff,Nat.reduceGT,Nat.reduceBEq,reduceCtorEq,↓reduceIte,Int.reduceToNat,Int.reduceLE,Int.reduceLT,Int.reduceNe,Int.reduceEq,hx,hy,e1];refine⟨fun _=>⟨hil,by omega,fun hne e=>hne ?_,fun he=>⟨hil,fun j hj=>?_⟩⟩,fun h=>absurd hil h⟩
   ·rw[e,hy]at hx;exact(RG hx).symm
   ·by_cases e:j=i
    ·subst e;rw[hx,hy,Decidable.not_not.1 he]
    ·exact hinv j (by omega)
  ·simp(maxDischargeDepth:=12) (maxSteps:=1000000) -implicitDefEqProofs only[go_sem,Nat.reduceAdd,Nat.reduceSub,Nat.reduceMul,Nat.reduceLeDiff,Nat.reduceEqDiff,Nat.reduceGT,Nat.reduceBEq,reduceCtorEq,↓reduceIte,Int.reduceToNat,Int.reduceLE,Int.reduceLT,Int.reduceNe,Int.reduceEq];refine⟨fun h=>absurd h hil,fun _=>?_⟩;refine Sh fun j=>?_;by_cases hj:j<l.length
   ·exact hinv j (by omega)
   ·rw[Ry (by omega),Ry (by omega)]
theorem Nh(w0:W0)(l m:List G)(h0:l.length≤4611686018427387904)(S:St):ab Tryz.prog w0 30 [lN l,lN m] S (fun d S'=>d=dB (decide (l=m))∧S'=S):=by
 refine cR [] mx Tryz.func30 rfl rfl (by kernel_rfl) ?_;simp(maxDischargeDepth:=12) (maxSteps:=1000000) -implicitDefEqProofs only[Tryz.ntmps30,go_sem,Nat.reduceAdd,Nat.reduceSub,Nat.reduceMul,Nat.reduceLeDiff,Nat.reduceEqDiff,Nat.reduceGT,Nat.reduceBEq,reduceCtorEq,↓reduceIte,Int.reduceToNat,Int.reduceLE,Int.reduceLT,Int.reduceNe,Int.reduceEq];refine⟨fun h1 h2=>h1 (congrArg List.length h2),fun h=>?_⟩;have h:l.length=m.length:=by omega
 refine bw [] l.length [0,1,5] (fun i=>[(5,dI i)]) (fun i=>S) (fun i=>∀j,j<i→l[j]? =m[j]?) mx (by kernel_rfl) ?_ ?_
 ·simp(maxDischargeDepth:=12) (maxSteps:=1000000) -implicitDefEqProofs only[go_sem,Nat.reduceAdd,Nat.reduceSub,Nat.reduceMul,Nat.reduceLeDiff,Nat.reduceEqDiff,Nat.reduceGT,Nat.reduceBEq,reduceCtorEq,↓reduceIte,Int.reduceToNat,Int.reduceLE,Int.reduceLT,Int.reduceNe,Int.reduceEq];intro j hj;omega
 ·intro i hi hinv;have e1:i<4611686018427387904→IntKind.i64.wrap ((i:Int)+1)=((i+1:Nat):Int):=fun h=>ax (by omega);by_cases hil:i<l.length
  ·have e1:=e1 (by omega);have hx:l[i]? =some l[i]:=so hil;have hy:m[i]? =some (m[i]'(by omega)):=so (by omega);generalize l[i]=x at hx;generalize m[i]'(by omega)=y at hy;simp(maxDischargeDepth:=12) (maxSteps:=1000000) -implicitDefEqProofs only[go_sem,Nat.reduceAdd,Nat.reduceSub,Nat.reduceMul,Nat.reduceLeDiff,Nat.reduceEqDiff,Nat.reduceGT,Nat.reduceBEq,reduceCtorEq,↓reduceIte,Int.reduceToNat,Int.reduceLE,Int.reduceLT,Int.reduceNe,Int.reduceEq,hx,hy,e1];refine⟨fun _=>⟨hil,by omega,fun he=>⟨hil,fun j hj=>?_⟩,fun hne e=>?_⟩,fun h=>absurd hil h⟩
   ·by_cases e:j=i
    ·subst e;simp only[Rm,decide_eq_true_eq]at he;obtain⟨⟨q1,q2⟩,q3⟩:=he;rw[hx,hy];cases x;cases y;simp at q1 q2 q3;rw[q1,q2,q3]
    ·exact hinv j (by omega)
   ·rw[e,hy]at hx;have:=RG hx;subst this;simp at hne
  ·simp(maxDischargeDepth:=12) (maxSteps:=1000000) -implicitDefEqProofs only[go_sem,Nat.reduceAdd,Nat.reduceSub,Nat.reduceMul,Nat.reduceLeDiff,Nat.reduceEqDiff,Nat.reduceGT,Nat.reduceBEq,reduceCtorEq,↓reduceIte,Int.reduceToNat,Int.reduceLE,Int.reduceLT,Int.reduceNe,Int.reduceEq];refine⟨fun h=>absurd h hil,fun _=>?_⟩;refine Sh fun j=>?_;by_cases hj:j<l.length
   ·exact hinv j (by omega)
   ·rw[Ry (by omega),Ry (by omega)]
theorem J5{a b:Cf}:a=b↔a.nm=b.nm∧a.up=b.up∧a.qu=b.qu∧a.gr=b.gr:=⟨fun h=>by rw[h];exact⟨rfl,rfl,rfl,rfl⟩,fun h=>by cases a;cases b;obtain⟨h1,h2,h3,h4⟩:=h;simp at h1 h2 h3 h4;rw[h1,h2,h3,h4]⟩
theorem CK(w0:W0)(a b:Cf)(ha:kj a)(hb:kj b)(S:St):ab Tryz.prog w0 12 [AJ a,AJ b] S (fun d S'=>d=dB (pB (a=b))∧S'=S):=by
 have h1:=ha.L7;have h2:=ha.Nv;have h3:=ha.Nz;have h4:=ha.Nl;have h5:=hb.L7;refine cR [] mx Tryz.func12 rfl rfl (by kernel_rfl) ?_;simp(maxDischargeDepth:=12) (maxSteps:=1000000) -implicitDefEqProofs only[Tryz.ntmps12,go_sem,Nat.reduceAdd,Nat.reduceSub,Nat.reduceMul,Nat.reduceLeDiff,Nat.reduceEqDiff,Nat.reduceGT,Nat.reduceBEq,reduceCtorEq,↓reduceIte,Int.reduceToNat,Int.reduceLE,Int.reduceLT,Int.reduceNe,Int.reduceEq];intro c1 c2;have eb:=af c2 c1.n (by simp(maxDischargeDepth:=12) (maxSteps:=1000000) -implicitDefEqProofs only[go_sem,Nat.reduceAdd,Nat.reduceSub,Nat.reduceMul,Nat.reduceLeDiff,Nat.reduceEqDiff,Nat.reduceGT,Nat.reduceBEq,reduceCtorEq,↓reduceIte,Int.reduceToNat,Int.reduceLE,Int.reduceLT,Int.reduceNe,Int.reduceEq]);refine⟨fun q e=>q (congrArg (fun c=>c.nm.length) e),fun q1=>⟨fun q e=>q (congrArg (fun c=>c.qu.length) e),fun q2=>aq (NB _ a.up b.up (by omega) _) ?_⟩⟩;by_cases hu:a.up=b.up
 ·simp(maxDischargeDepth:=12) (maxSteps:=1000000) -implicitDefEqProofs only[go_sem,Nat.reduceAdd,Nat.reduceSub,Nat.reduceMul,Nat.reduceLeDiff,Nat.reduceEqDiff,Nat.reduceGT,Nat.reduceBEq,reduceCtorEq,↓reduceIte,Int.reduceToNat,Int.reduceLE,Int.reduceLT,Int.reduceNe,Int.reduceEq,eb,hu];refine aq (Nh _ a.gr b.gr (by omega) _) ?_;by_cases hg:a.gr=b.gr
  ·simp(maxDischargeDepth:=12) (maxSteps:=1000000) -implicitDefEqProofs only[go_sem,Nat.reduceAdd,Nat.reduceSub,Nat.reduceMul,Nat.reduceLeDiff,Nat.reduceEqDiff,Nat.reduceGT,Nat.reduceBEq,reduceCtorEq,↓reduceIte,Int.reduceToNat,Int.reduceLE,Int.reduceLT,Int.reduceNe,Int.reduceEq,eb,hg];refine aq (ME _ a.qu b.qu (by omega) _) ?_;by_cases hq:a.qu=b.qu
   ·simp(maxDischargeDepth:=12) (maxSteps:=1000000) -implicitDefEqProofs only[go_sem,Nat.reduceAdd,Nat.reduceSub,Nat.reduceMul,Nat.reduceLeDiff,Nat.reduceEqDiff,Nat.reduceGT,Nat.reduceBEq,reduceCtorEq,↓reduceIte,Int.reduceToNat,Int.reduceLE,Int.reduceLT,Int.reduceNe,Int.reduceEq,eb,hq];refine bw [] a.nm.length [2,3,5] (fun i=>[(5,dI i)]) (fun i=>⟨(c2.n,[.sl 1 false (aU b.nm),eH b.up,nJ b.qu,lN b.gr])::(c1.n,[.sl 1 false (aU a.nm),eH b.up,nJ b.qu,lN b.gr])::S.box,S.acc⟩) (fun i=>∀j,j<i→a.nm[j]? =b.nm[j]?) mx (by kernel_rfl) ?_ ?_
    ·simp(maxDischargeDepth:=12) (maxSteps:=1000000) -implicitDefEqProofs only[go_sem,Nat.reduceAdd,Nat.reduceSub,Nat.reduceMul,Nat.reduceLeDiff,Nat.reduceEqDiff,Nat.reduceGT,Nat.reduceBEq,reduceCtorEq,↓reduceIte,Int.reduceToNat,Int.reduceLE,Int.reduceLT,Int.reduceNe,Int.reduceEq,eb];intro j hj;omega
    ·intro i hi hinv;have hnl:a.nm.length=b.nm.length:=RH.1 q1;have hke:∀l:List (List UInt8),(aU l).length=l.length:=fun l=>by simp[aU]
     by_cases hil:i<a.nm.length
     ·have e1:IntKind.i64.wrap ((i:Int)+1)=((i+1:Nat):Int):=ax (by omega);have hx:a.nm[i]? =some a.nm[i]:=so hil;have hy:b.nm[i]? =some (b.nm[i]'(by omega)):=so (by omega);generalize a.nm[i]=x at hx;generalize b.nm[i]'(by omega)=y at hy;have htx:(tx x=tx y)=(x=y):=propext ⟨Lp,fun h=>by rw[h]⟩;simp(maxDischargeDepth:=12) (maxSteps:=1000000) -implicitDefEqProofs only[go_sem,Nat.reduceAdd,Nat.reduceSub,Nat.reduceMul,Nat.reduceLeDiff,Nat.reduceEqDiff,Nat.reduceGT,Nat.reduceBEq,reduceCtorEq,↓reduceIte,Int.reduceToNat,Int.reduceLE,Int.reduceLT,Int.reduceNe,Int.reduceEq,eb,hx,hy,e1,htx];refine⟨fun _=>⟨hil,by omega,fun he=>⟨hil,fun j hj=>?_⟩,fun hne e=>hne ?_⟩,fun h=>absurd hil h⟩
      ·by_cases e:j=i
       ·subst e;rw[hx,hy,he]
       ·exact hinv j (by omega)
      ·rw[e,hy]at hx;exact(RG hx).symm
     ·simp(maxDischargeDepth:=12) (maxSteps:=1000000) -implicitDefEqProofs only[go_sem,Nat.reduceAdd,Nat.reduceSub,Nat.reduceMul,Nat.reduceLeDiff,Nat.reduceEqDiff,Nat.reduceGT,Nat.reduceBEq,reduceCtorEq,↓reduceIte,Int.reduceToNat,Int.reduceLE,Int.reduceLT,Int.reduceNe,Int.reduceEq,eb];refine⟨fun h=>absurd h hil,fun _=>J5.2 ⟨Sh fun j=>?_,hu,hq,hg⟩⟩;by_cases hj:j<a.nm.length
      ·exact hinv j (by omega)
      ·rw[Ry (by omega),Ry (by omega)]
   ·simp(maxDischargeDepth:=12) (maxSteps:=1000000) -implicitDefEqProofs only[go_sem,Nat.reduceAdd,Nat.reduceSub,Nat.reduceMul,Nat.reduceLeDiff,Nat.reduceEqDiff,Nat.reduceGT,Nat.reduceBEq,reduceCtorEq,↓reduceIte,Int.reduceToNat,Int.reduceLE,Int.reduceLT,Int.reduceNe,Int.reduceEq,eb,hq];exact fun e=>hq (congrArg Cf.qu e)
  ·simp(maxDischargeDepth:=12) (maxSteps:=1000000) -implicitDefEqProofs only[go_sem,Nat.reduceAdd,Nat.reduceSub,Nat.reduceMul,Nat.reduceLeDiff,Nat.reduceEqDiff,Nat.reduceGT,Nat.reduceBEq,reduceCtorEq,↓reduceIte,Int.reduceToNat,Int.reduceLE,Int.reduceLT,Int.reduceNe,Int.reduceEq,eb,hg];exact fun e=>hg (congrArg Cf.gr e)
 ·simp(maxDischargeDepth:=12) (maxSteps:=1000000) -implicitDefEqProofs only[go_sem,Nat.reduceAdd,Nat.reduceSub,Nat.reduceMul,Nat.reduceLeDiff,Nat.reduceEqDiff,Nat.reduceGT,Nat.reduceBEq,reduceCtorEq,↓reduceIte,Int.reduceToNat,Int.reduceLE,Int.reduceLT,Int.reduceNe,Int.reduceEq,eb,hu];exact fun e=>hu (congrArg Cf.up e)
theorem Ea(l:List UInt8):x5 (l.map fun c=>DV.v (.int .u8 (c.toNat:Nat)))=l.map (fun c=>((c.toNat:Nat):Int))∧nK (l.map fun c=>DV.v (.int .u8 (c.toNat:Nat)))=true:=by
 have:=Kc (l.map fun c=>((c.toNat:Nat):Int))
 rwa [S6]at this
theorem KC(l:List UInt8):strOfNums (l.map fun c=>((c.toNat:Nat):Int))=tx l:=by
 unfold strOfNums tx;congr 1;simp[TM]
theorem FR(l:List UInt8):strOfNums (x5 (l.map fun c=>DV.v (.int .u8 (c.toNat:Nat))))=tx l:=by rw[(Ea l).1,KC]
theorem IV(w0:W0)(n:Int)(h0:4≤n∧n≤1000)(S:St):ab Tryz.prog w0 49 [dI n] S (fun d S'=>d=dS (tx (Lib.itoa n))∧S'=S):=by
 rw[zP h0];have hdl:=wu 4 n.toNat (by omega);refine cR [] mx Tryz.func49 rfl rfl (by kernel_rfl) ?_;simp(maxDischargeDepth:=12) (maxSteps:=1000000) -implicitDefEqProofs only[Tryz.ntmps49,go_sem,Nat.reduceAdd,Nat.reduceSub,Nat.reduceMul,Nat.reduceLeDiff,Nat.reduceEqDiff,Nat.reduceGT,Nat.reduceBEq,reduceCtorEq,↓reduceIte,Int.reduceToNat,Int.reduceLE,Int.reduceLT,Int.reduceNe,Int.reduceEq];refine bS [] [0,3] (σ:=Nat×List UInt8) (fun p=>[(0,dI p.1),(3,dS (tx p.2))]) (fun _=>S) (fun p=>dd p.1++p.2=dd n.toNat∧p.1≤1000) (fun p=>p.1) (n.toNat,[]) mx (by kernel_rfl) ⟨⟨by simp,by omega⟩,?_⟩ fun p hp=>?_
 ·simp(maxDischargeDepth:=12) (maxSteps:=1000000) -implicitDefEqProofs only[go_sem,Nat.reduceAdd,Nat.reduceSub,Nat.reduceMul,Nat.reduceLeDiff,Nat.reduceEqDiff,Nat.reduceGT,Nat.reduceBEq,reduceCtorEq,↓reduceIte,Int.reduceToNat,Int.reduceLE,Int.reduceLT,Int.reduceNe,Int.reduceEq];exact⟨by omega,rfl⟩
 ·obtain⟨m,r⟩:=p;obtain⟨p1,p2⟩:=hp;dsimp only at p1 p2;have hrl:r.length≤4:=by have:=congrArg List.length p1;rw[Rk]at this;omega
  by_cases hm:m=0
  ·subst hm;simp(maxDischargeDepth:=12) (maxSteps:=1000000) -implicitDefEqProofs only[go_sem,Nat.reduceAdd,Nat.reduceSub,Nat.reduceMul,Nat.reduceLeDiff,Nat.reduceEqDiff,Nat.reduceGT,Nat.reduceBEq,reduceCtorEq,↓reduceIte,Int.reduceToNat,Int.reduceLE,Int.reduceLT,Int.reduceNe,Int.reduceEq];refine⟨fun h=>by omega,fun _=>?_⟩;rw[←p1];unfold dd;simp
  ·have ht1:((m:Int)).tmod 10=((m%10:Nat):Int):=rfl;have ht2:((m:Int)).tdiv 10=((m/10:Nat):Int):=rfl;have hw1:IntKind.i64.wrap (48+((m%10:Nat):Int))=((48+m%10:Nat):Int):=by rw[kx (by omega) (by omega)];omega
   have hw2:IntKind.u8.wrap ((48+m%10:Nat):Int)=((48+m%10:Nat):Int):=Ql (by omega) (by omega);have hw3:IntKind.i64.wrap ((m/10:Nat):Int)=((m/10:Nat):Int):=kx (by omega) (by omega);have hw4:IntKind.i64.wrap ((m%10:Nat):Int)=((m%10:Nat):Int):=kx (by omega) (by omega);simp(maxDischargeDepth:=12) (maxSteps:=1000000) -implicitDefEqProofs only[go_sem,Nat.reduceAdd,Nat.reduceSub,Nat.reduceMul,Nat.reduceLeDiff,Nat.reduceEqDiff,Nat.reduceGT,Nat.reduceBEq,reduceCtorEq,↓reduceIte,Int.reduceToNat,Int.reduceLE,Int.reduceLT,Int.reduceNe,Int.reduceEq,ht1,ht2,hw1,hw2,hw3,hw4];refine⟨fun _=>?_,fun h=>by omega⟩;have hc:((48+m%10:Nat):Int)=((UInt8.ofNat (48+m%10)).toNat:Nat):=by rw[Tt];omega
   rw[hc];have e:=FR [UInt8.ofNat (48+m%10)];have e2:=(Ea [UInt8.ofNat (48+m%10)]).2;simp only[Rz,SN]at e e2;refine⟨e2,?_,(m/10,UInt8.ofNat (48+m%10)::r),⟨?_,?_⟩,?_,rfl,?_⟩
   ·rw[e,aP,aP];simp;omega
   ·rw[←p1,zW hm];simp
   ·dsimp only;omega
   ·dsimp only;omega
   ·rw[e,xc];rfl
theorem Nt(B x y k:List UInt8)(K:ByteArray)(hK:K.data.toList=k++[32]):tx B++(K++tx x++⟨#[32]⟩++tx y++⟨#[10]⟩)=tx (B++ai [k,x,y]):=by
 refine eI ?_;have h1:(⟨#[32]⟩:ByteArray).data.toList=[32]:=rfl;have h2:(⟨#[10]⟩:ByteArray).data.toList=[10]:=rfl;simp only[dj,aK,hK,h1,h2,ai,jn];simp
theorem O9(B x y z k:List UInt8)(K:ByteArray)(hK:K.data.toList=k++[32]):tx B++(K++tx x++⟨#[32]⟩++tx y++⟨#[32]⟩++tx z++⟨#[10]⟩)=tx (B++ai [k,x,y,z]):=by
 refine eI ?_;have h1:(⟨#[32]⟩:ByteArray).data.toList=[32]:=rfl;have h2:(⟨#[10]⟩:ByteArray).data.toList=[10]:=rfl;simp only[dj,aK,hK,h1,h2,ai,jn];simp
noncomputable def mZ(c:Cf)(a b:Nat):List (List (List UInt8)):=((List.range b).filter fun b=>decide (a≠b)&&bt c.up a b).map (kO c a)
theorem FL{c:Cf}(hc:gv c)(a:Nat):mZ c a c.up.length=mT c a:=(xX hc a).symm
theorem BB(c:Cf)(a b:Nat):mZ c a (b+1)=if a≠b∧bt c.up a b=true then mZ c a b++[kO c a b]else mZ c a b:=by
 unfold mZ;rw[Tv,TL,R8];split
 ·rename_i h;rw[List.filter_cons_of_pos (by simp[h.1,h.2])];simp
 ·rename_i h;rw[TJ]
  ·simp
  ·intro q;rw[Rm]at q;exact h ⟨of_decide_eq_true q.1,q.2⟩
theorem DP{c:Cf}(a:Nat){b:Nat}(hb:b≤64):(mZ c a b).length≤64:=by
 unfold mZ;rw[RM];refine Se (Tw _ _) ?_;rw[SJ];exact hb
theorem NQ(w0:W0)(c:Cf)(hc:kj c)(S:St):ab Tryz.prog w0 18 [AJ c] S (fun d S'=>d=dS (tx (ll c))∧S'=S):=by
 refine cR [] mx Tryz.func18 rfl rfl (by kernel_rfl) ?_;simp(maxDischargeDepth:=12) (maxSteps:=1000000) -implicitDefEqProofs only[Tryz.ntmps18,go_sem,Nat.reduceAdd,Nat.reduceSub,Nat.reduceMul,Nat.reduceLeDiff,Nat.reduceEqDiff,Nat.reduceGT,Nat.reduceBEq,reduceCtorEq,↓reduceIte,Int.reduceToNat,Int.reduceLE,Int.reduceLT,Int.reduceNe,Int.reduceEq];intro bc;refine aq (rG _ c hc _) ?_;by_cases hcp:gv c
 ·rw[aI hcp,yM hcp];simp(maxDischargeDepth:=12) (maxSteps:=1000000) -implicitDefEqProofs only[go_sem,Nat.reduceAdd,Nat.reduceSub,Nat.reduceMul,Nat.reduceLeDiff,Nat.reduceEqDiff,Nat.reduceGT,Nat.reduceBEq,reduceCtorEq,↓reduceIte,Int.reduceToNat,Int.reduceLE,Int.reduceLT,Int.reduceNe,Int.reduceEq];obtain⟨s1,s2,s3⟩:=mi hcp;have hnl:=hcp.cu;have hql:=hcp.eJ;have hle:=hcp.tK.le;have hgl:=hcp.vu.1;have f1:∀i,((bz c).take i).length≤64:=fun i=>by rw[RA];unfold bz;rw[RM,SJ];omega
  have z1:∀i,(((bz c).take i).flatMap ai).length≤20000:=fun i=>by
   have:=dP (L:=(bz c).take i) fun w hw=>s1 w (RY hw);have:=f1 i;omega
  refine bS [] [1,4,5] (σ:=Nat) (fun i=>[(1,.v (.pointer (some ⟨bc.n,0,none⟩))),(4,dS (tx (((bz c).take i).flatMap ai))),(5,dI i)]) (fun i=>⟨(bc.n,[.sl 1 false (aU c.nm),eH c.up,nJ c.qu,lN c.gr])::S.box,S.acc⟩) (fun i=>i≤c.nm.length) (fun i=>c.nm.length-i) 0 mx (by kernel_rfl) ⟨RL _,?_⟩ fun i hi=>?_
  ·simp(maxDischargeDepth:=12) (maxSteps:=1000000) -implicitDefEqProofs only[go_sem,Nat.reduceAdd,Nat.reduceSub,Nat.reduceMul,Nat.reduceLeDiff,Nat.reduceEqDiff,Nat.reduceGT,Nat.reduceBEq,reduceCtorEq,↓reduceIte,Int.reduceToNat,Int.reduceLE,Int.reduceLT,Int.reduceNe,Int.reduceEq];rfl
  by_cases hil:i<c.nm.length
  ·have e1:IntKind.i64.wrap ((i:Int)+1)=((i+1:Nat):Int):=ax (by omega);have hx:=iw hcp (a:=i) (by omega);have hq:c.qu[i]? =some (c.qu.getD i 0):=by rw[Rl,so (by omega)];rfl
   have hqr:=hcp.quo _ (Rj hq);have hlw:[fO,c.nm.getD i [],Lib.itoa (c.qu.getD i 0)]=o8 c i:=rfl;have hls:=s1 _ (Rj (th hil));have hts:=fh (th hil);have hz:=z1 i;have hxs:=(hcp.name _ (Rj hx)).short;have hqs:=pv hqr;generalize c.nm.getD i []=x at hx hlw hxs;generalize c.qu.getD i 0=q at hq hqr hlw hqs;simp(maxDischargeDepth:=12) (maxSteps:=1000000) -implicitDefEqProofs only[go_sem,Nat.reduceAdd,Nat.reduceSub,Nat.reduceMul,Nat.reduceLeDiff,Nat.reduceEqDiff,Nat.reduceGT,Nat.reduceBEq,reduceCtorEq,↓reduceIte,Int.reduceToNat,Int.reduceLE,Int.reduceLT,Int.reduceNe,Int.reduceEq,hx,hq,e1,aP];refine⟨fun _=>⟨hil,by omega,by omega,by omega,dL (IV _ q hqr _) ?_⟩,fun h=>absurd hil h⟩;simp(maxDischargeDepth:=12) (maxSteps:=1000000) -implicitDefEqProofs only[go_sem,Nat.reduceAdd,Nat.reduceSub,Nat.reduceMul,Nat.reduceLeDiff,Nat.reduceEqDiff,Nat.reduceGT,Nat.reduceBEq,reduceCtorEq,↓reduceIte,Int.reduceToNat,Int.reduceLE,Int.reduceLT,Int.reduceNe,Int.reduceEq,e1,aP];refine⟨by omega,by omega,by omega,i+1,by omega,by omega,?_,rfl⟩;rw[Nt _ x (Lib.itoa q) fO _ rfl,hts,RR,hlw];simp
  ·have hta:(bz c).take i=bz c:=RN (by unfold bz;rw[RM,SJ];omega);have zl:((bz c).flatMap ai).length≤20000:=by have:=z1 i;rwa [hta]at this
   rw[hta];simp(maxDischargeDepth:=12) (maxSteps:=1000000) -implicitDefEqProofs only[go_sem,Nat.reduceAdd,Nat.reduceSub,Nat.reduceMul,Nat.reduceLeDiff,Nat.reduceEqDiff,Nat.reduceGT,Nat.reduceBEq,reduceCtorEq,↓reduceIte,Int.reduceToNat,Int.reduceLE,Int.reduceLT,Int.reduceNe,Int.reduceEq];refine⟨fun h=>absurd h hil,fun _=>?_⟩
   have z2:∀a,a≤64→((cS c a).flatMap ai).length≤900000:=fun a ha=>by
    have h1:=dP (L:=cS c a) fun w hw=>by
     obtain⟨b,_,hb⟩:=TB.1 hw;exact s2 b w hb
    have:=jj c a;omega
   refine bS [] [1,4,6] (σ:=Nat) (fun a=>[(1,.v (.pointer (some ⟨bc.n,0,none⟩))),(4,dS (tx ((bz c).flatMap ai++(cS c a).flatMap ai))),(6,dI a)]) (fun a=>⟨(bc.n,[.sl 1 false (aU c.nm),eH c.up,nJ c.qu,lN c.gr])::S.box,S.acc⟩) (fun a=>a≤c.up.length) (fun a=>c.up.length-a) 0 mx (by kernel_rfl) ⟨RL _,?_⟩ fun a ha=>?_
   ·simp(maxDischargeDepth:=12) (maxSteps:=1000000) -implicitDefEqProofs only[go_sem,Nat.reduceAdd,Nat.reduceSub,Nat.reduceMul,Nat.reduceLeDiff,Nat.reduceEqDiff,Nat.reduceGT,Nat.reduceBEq,reduceCtorEq,↓reduceIte,Int.reduceToNat,Int.reduceLE,Int.reduceLT,Int.reduceNe,Int.reduceEq];rw[show cS c 0=[]from rfl,TF,RU]
   by_cases hal:a<c.up.length
   ·have e1:IntKind.i64.wrap ((a:Int)+1)=((a+1:Nat):Int):=ax (by omega);have hna:=iw hcp hal;have hx:c.up[a]? =some (c.up.getD a 0):=by rw[Rl,so hal];rfl
    have hxu:=hc.vE _ (Rj hx);have zu:=z2 a (by omega);have hja:=FL hcp a;simp(maxDischargeDepth:=12) (maxSteps:=1000000) -implicitDefEqProofs only[go_sem,Nat.reduceAdd,Nat.reduceSub,Nat.reduceMul,Nat.reduceLeDiff,Nat.reduceEqDiff,Nat.reduceGT,Nat.reduceBEq,reduceCtorEq,↓reduceIte,Int.reduceToNat,Int.reduceLE,Int.reduceLT,Int.reduceNe,Int.reduceEq];refine⟨fun _=>?_,fun h=>by omega⟩;refine bS [] [1,4,6,7] (σ:=Nat) (fun b=>[(1,.v (.pointer (some ⟨bc.n,0,none⟩))),(4,dS (tx ((bz c).flatMap ai++(cS c a).flatMap ai++(mZ c a b).flatMap ai))),(6,dI a),(7,dI b)]) (fun b=>⟨(bc.n,[.sl 1 false (aU c.nm),eH c.up,nJ c.qu,lN c.gr])::S.box,S.acc⟩) (fun b=>b≤c.up.length) (fun b=>c.up.length-b) 0 mx (by kernel_rfl) ⟨RL _,?_⟩ fun b hb=>?_
    ·simp(maxDischargeDepth:=12) (maxSteps:=1000000) -implicitDefEqProofs only[go_sem,Nat.reduceAdd,Nat.reduceSub,Nat.reduceMul,Nat.reduceLeDiff,Nat.reduceEqDiff,Nat.reduceGT,Nat.reduceBEq,reduceCtorEq,↓reduceIte,Int.reduceToNat,Int.reduceLE,Int.reduceLT,Int.reduceNe,Int.reduceEq];rw[show mZ c a 0=[]from rfl,TF,RU]
    have zj:((mZ c a b).flatMap ai).length≤20000:=by
     have h1:=dP (L:=mZ c a b) fun w hw=>by
      obtain⟨b,_,rfl⟩:=RI.1 hw;exact kZ hcp a b
     have:=DP (c:=c) a (b:=b) (by omega);omega
    by_cases hbl:b<c.up.length
    ·have e2:IntKind.i64.wrap ((b:Int)+1)=((b+1:Nat):Int):=ax (by omega);have hus:=BB c a b;have hnb:=iw hcp hbl;have hwu:[jI,c.nm.getD a [],c.nm.getD b []]=kO c a b:=rfl;have hwl:=kZ hcp a b;have hs1:=(hcp.name _ (Rj hna)).short;have hs2:=(hcp.name _ (Rj hnb)).short;have hbt:bt c.up a b=(c.up.getD a 0).testBit b:=rfl;by_cases hab:a=b
     ·rw[if_neg (fun h=>h.1 hab)]at hus;have hab':((a:Int)=(b:Int))=True:=eq_true (by omega);simp(maxDischargeDepth:=12) (maxSteps:=1000000) -implicitDefEqProofs only[go_sem,Nat.reduceAdd,Nat.reduceSub,Nat.reduceMul,Nat.reduceLeDiff,Nat.reduceEqDiff,Nat.reduceGT,Nat.reduceBEq,reduceCtorEq,↓reduceIte,Int.reduceToNat,Int.reduceLE,Int.reduceLT,Int.reduceNe,Int.reduceEq,e2,hab'];exact⟨fun _=>⟨b+1,by omega,by omega,by rw[hus],rfl⟩,fun h=>by omega⟩
     ·have hab':((a:Int)=(b:Int))=False:=eq_false (by omega);generalize c.nm.getD a []=na at hna hwu hs1;generalize c.nm.getD b []=nb at hnb hwu hs2;rw[hbt]at hus;generalize c.up.getD a 0=x at hx hxu hus hbt;simp(maxDischargeDepth:=12) (maxSteps:=1000000) -implicitDefEqProofs only[go_sem,Nat.reduceAdd,Nat.reduceSub,Nat.reduceMul,Nat.reduceLeDiff,Nat.reduceEqDiff,Nat.reduceGT,Nat.reduceBEq,reduceCtorEq,↓reduceIte,Int.reduceToNat,Int.reduceLE,Int.reduceLT,Int.reduceNe,Int.reduceEq,e2,hab',hx];refine⟨fun _=>⟨hal,aq (pA _ x b hxu (by omega) _) ?_⟩,fun h=>by omega⟩
      cases htb:x.testBit b with
      |true=>
       rw[if_pos ⟨hab,htb⟩]at hus;simp(maxDischargeDepth:=12) (maxSteps:=1000000) -implicitDefEqProofs only[go_sem,Nat.reduceAdd,Nat.reduceSub,Nat.reduceMul,Nat.reduceLeDiff,Nat.reduceEqDiff,Nat.reduceGT,Nat.reduceBEq,reduceCtorEq,↓reduceIte,Int.reduceToNat,Int.reduceLE,Int.reduceLT,Int.reduceNe,Int.reduceEq,e2,hab',hx,hna,hnb,aP];refine⟨by omega,by omega,by omega,by omega,by omega,by omega,by omega,b+1,by omega,by omega,?_,rfl⟩;rw[Nt _ na nb jI _ rfl,hus,RR,hwu];simp
      |false=>
       rw[if_neg (fun h=>by rw[htb]at h;exact absurd h.2 (by simp))]at hus;simp(maxDischargeDepth:=12) (maxSteps:=1000000) -implicitDefEqProofs only[go_sem,Nat.reduceAdd,Nat.reduceSub,Nat.reduceMul,Nat.reduceLeDiff,Nat.reduceEqDiff,Nat.reduceGT,Nat.reduceBEq,reduceCtorEq,↓reduceIte,Int.reduceToNat,Int.reduceLE,Int.reduceLT,Int.reduceNe,Int.reduceEq,e2,hab',hx];exact⟨b+1,by omega,by omega,by rw[hus],rfl⟩
    ·have hjj:b=c.up.length:=by omega
     have e2:(bz c).flatMap ai++(cS c a).flatMap ai++(mZ c a b).flatMap ai=(bz c).flatMap ai++(cS c (a+1)).flatMap ai:=by rw[hjj,hja,kq,RR,RJ]
     simp(maxDischargeDepth:=12) (maxSteps:=1000000) -implicitDefEqProofs only[go_sem,Nat.reduceAdd,Nat.reduceSub,Nat.reduceMul,Nat.reduceLeDiff,Nat.reduceEqDiff,Nat.reduceGT,Nat.reduceBEq,reduceCtorEq,↓reduceIte,Int.reduceToNat,Int.reduceLE,Int.reduceLT,Int.reduceNe,Int.reduceEq,e1,e2];exact⟨fun h=>by omega,fun _=>⟨a+1,by omega,by omega,rfl,rfl⟩⟩
   ·have haa:a=c.up.length:=by omega
    subst haa;rw[gL];have zu:=z2 c.up.length hle;rw[gL]at zu;simp(maxDischargeDepth:=12) (maxSteps:=1000000) -implicitDefEqProofs only[go_sem,Nat.reduceAdd,Nat.reduceSub,Nat.reduceMul,Nat.reduceLeDiff,Nat.reduceEqDiff,Nat.reduceGT,Nat.reduceBEq,reduceCtorEq,↓reduceIte,Int.reduceToNat,Int.reduceLE,Int.reduceLT,Int.reduceNe,Int.reduceEq];refine⟨fun h=>by omega,fun _=>?_⟩
    have z3:∀i,(((dv c).take i).flatMap ai).length≤20000:=fun i=>by
     have h1:=dP (L:=(dv c).take i) fun w hw=>s3 w (RY hw);have h2:((dv c).take i).length≤64:=by rw[RA];unfold dv;rw[RM];omega
     omega
    refine bS [] [1,4,8] (σ:=Nat) (fun i=>[(1,.v (.pointer (some ⟨bc.n,0,none⟩))),(4,dS (tx ((bz c).flatMap ai++(mM c).flatMap ai++((dv c).take i).flatMap ai))),(8,dI i)]) (fun i=>⟨(bc.n,[.sl 1 false (aU c.nm),eH c.up,nJ c.qu,lN c.gr])::S.box,S.acc⟩) (fun i=>i≤c.gr.length) (fun i=>c.gr.length-i) 0 mx (by kernel_rfl) ⟨RL _,?_⟩ fun i hi=>?_
    ·simp(maxDischargeDepth:=12) (maxSteps:=1000000) -implicitDefEqProofs only[go_sem,Nat.reduceAdd,Nat.reduceSub,Nat.reduceMul,Nat.reduceLeDiff,Nat.reduceEqDiff,Nat.reduceGT,Nat.reduceBEq,reduceCtorEq,↓reduceIte,Int.reduceToNat,Int.reduceLE,Int.reduceLT,Int.reduceNe,Int.reduceEq];rw[TF,RU]
    by_cases hil:i<c.gr.length
    ·have e2:IntKind.i64.wrap ((i:Int)+1)=((i+1:Nat):Int):=ax (by omega);have hgx:c.gr[i]? =some c.gr[i]:=so hil;have hgm:=Rj hgx;have hts:(dv c).take (i+1)=(dv c).take i++[qw c c.gr[i]]:=fh (by unfold dv;rw[Rt,hgx];rfl);generalize c.gr[i]=g at hgx hgm hts;have hwl:=sE hcp g;obtain⟨ga,gf,gt,rfl,q1,q2,q3⟩:=Jt hcp hgm;have y1:=iw hcp q1;have y2:=iw hcp q2;have y3:=iw hcp q3;have hs1:=(hcp.name _ (Rj y1)).short;have hs2:=(hcp.name _ (Rj y2)).short;have hs3:=(hcp.name _ (Rj y3)).short;have hz:=z3 i;have hwg:[mw,c.nm.getD ga [],c.nm.getD gf [],c.nm.getD gt []]=qw c ⟨(ga:Int),(gf:Int),(gt:Int)⟩:=rfl;generalize c.nm.getD ga []=na at y1 hwg hs1;generalize c.nm.getD gf []=nf at y2 hwg hs2;generalize c.nm.getD gt []=nt at y3 hwg hs3;simp(maxDischargeDepth:=12) (maxSteps:=1000000) -implicitDefEqProofs only[go_sem,Nat.reduceAdd,Nat.reduceSub,Nat.reduceMul,Nat.reduceLeDiff,Nat.reduceEqDiff,Nat.reduceGT,Nat.reduceBEq,reduceCtorEq,↓reduceIte,Int.reduceToNat,Int.reduceLE,Int.reduceLT,Int.reduceNe,Int.reduceEq,hgx,e2];refine⟨fun _=>⟨hil,?_⟩,fun h=>absurd hil h⟩;intro b9;have eb:=af b9 bc.n (by simp(maxDischargeDepth:=12) (maxSteps:=1000000) -implicitDefEqProofs only[go_sem,Nat.reduceAdd,Nat.reduceSub,Nat.reduceMul,Nat.reduceLeDiff,Nat.reduceEqDiff,Nat.reduceGT,Nat.reduceBEq,reduceCtorEq,↓reduceIte,Int.reduceToNat,Int.reduceLE,Int.reduceLT,Int.reduceNe,Int.reduceEq]);simp(maxDischargeDepth:=12) (maxSteps:=1000000) -implicitDefEqProofs only[go_sem,Nat.reduceAdd,Nat.reduceSub,Nat.reduceMul,Nat.reduceLeDiff,Nat.reduceEqDiff,Nat.reduceGT,Nat.reduceBEq,reduceCtorEq,↓reduceIte,Int.reduceToNat,Int.reduceLE,Int.reduceLT,Int.reduceNe,Int.reduceEq,y1,y2,y3,e2,eb,aP];refine⟨by omega,by omega,by omega,by omega,by omega,by omega,by omega,by omega,by omega,by omega,i+1,by omega,by omega,?_,rfl⟩;rw[O9 _ na nf nt mw _ rfl,hts,RR,hwg];simp
    ·have htt:(dv c).take i=dv c:=RN (by unfold dv;rw[RM];omega);rw[htt];simp(maxDischargeDepth:=12) (maxSteps:=1000000) -implicitDefEqProofs only[go_sem,Nat.reduceAdd,Nat.reduceSub,Nat.reduceMul,Nat.reduceLeDiff,Nat.reduceEqDiff,Nat.reduceGT,Nat.reduceBEq,reduceCtorEq,↓reduceIte,Int.reduceToNat,Int.reduceLE,Int.reduceLT,Int.reduceNe,Int.reduceEq];refine⟨fun h=>absurd h hil,fun _=>?_⟩;rw[RR,RR]
 ·rw[aS hcp,wI hcp];simp(maxDischargeDepth:=12) (maxSteps:=1000000) -implicitDefEqProofs only[go_sem,Nat.reduceAdd,Nat.reduceSub,Nat.reduceMul,Nat.reduceLeDiff,Nat.reduceEqDiff,Nat.reduceGT,Nat.reduceBEq,reduceCtorEq,↓reduceIte,Int.reduceToNat,Int.reduceLE,Int.reduceLT,Int.reduceNe,Int.reduceEq];rfl
def N8:List UInt8:=[108,97,98,101,108,32,97,32,57,10,108,97,98,101,108,32,98,32,57,32,35,32,98,111,116,104,10,10,117,110,100,101,114,32,97,32,98]
def Mk:List UInt8:=[108,97,98,101,108,32,97,32,51]
def P3:List UInt8:=[108,97,98,101,108,32,97,32,57,10,108,97,98,101,108,32,98,32,57,10,117,110,100,101,114,32,97,32,98,10]
def xQ:Cf:=⟨[[97],[98]],[3,2],[9,9],[]⟩
theorem yP{c:UInt8}(h:lH c.toNat=true)(h2:c.toNat<128):bL [c] where
 vQ:=fun r hr=>by
  rw[aM h2,dw]at hr;rw[RX.1 hr];exact h
 whole:=iW [c] fun x hx=>by rw[RX.1 hx];exact h2
 pos:=by rw[aM h2,dw];simp
 le:=by rw[aM h2,dw];simp
theorem Hy:¬bL [97,49]:=fun h=>by
 have:=h.vQ (49,[49]) (by rw[aM (by decide),aM (by decide)];simp);exact absurd this (by decide)
theorem NO:qi [3,2]:=by
 refine gU.2 ⟨by decide,by decide,pM.1 (by decide),fun a ha b hb=>?_⟩;have ha':a<2:=ha;obtain⟨rfl,rfl⟩:a=1∧b=0:=by omega
 refine⟨by decide,⟨1,by decide,by decide,by decide,fun d hd=>?_⟩,⟨0,by decide,by decide,by decide,fun d hd=>?_⟩⟩
 ·have:d<2:=hd;rcases(show d=0∨d=1 by omega)with rfl|rfl <;>decide
 ·have:d<2:=hd;rcases(show d=0∨d=1 by omega)with rfl|rfl <;>decide
theorem Oo:gv xQ where
 cu:=rfl
 eJ:=rfl
 tK:=NO
 vu:=⟨by decide,fun g h=>(by cases h),.nil⟩
 name:=fun s hs=>by
  simp only[xQ,Rv,SL,or_false]at hs;rcases hs with rfl|rfl
  ·exact yP (by decide) (by decide)
  ·exact yP (by decide) (by decide)
 quo:=fun n hn=>by
  simp only[xQ,Rv,SL,or_false]at hn;rcases hn with rfl|rfl <;>decide
 uniq:=by decide
theorem NM:Lib.itoa 9=[57]:=by
 unfold Lib.itoa;rw[if_neg (by decide),Lib.decDigits];rfl
theorem JK:ll xQ=P3:=by
 have h1:bz xQ=[[fO,[97],[57]],[fO,[98],[57]]]:=by
  show [[fO,[97],Lib.itoa 9],[fO,[98],Lib.itoa 9]]=_;rw[NM]
 have h2:mM xQ=[[jI,[97],[98]]]:=by decide +kernel
 unfold ll vV;rw[aI Oo,if_pos rfl,h1,h2];rfl
theorem CH(nm:List (List UInt8))(c:UInt8)(h:lH c.toNat=true)(h2:c.toNat<128)(h3:[c]∉nm)(h4:nm.length<64):jY nm [c]:=⟨yP h h2,h3,h4⟩
theorem LD:cQ N8=(some xQ,0,0):=by
 have hl:im N8=[[108,97,98,101,108,32,97,32,57],[108,97,98,101,108,32,98,32,57,32,35,32,98,111,116,104],[],[117,110,100,101,114,32,97,32,98]]:=by decide +kernel
 have hLO:LO [[fO,[97],[57]],[fO,[98],[57]],[jI,[97],[98]]] (im N8):=by
  rw[hl];exact .line _ (by decide +kernel) (.line _ (by decide +kernel) (.blank _ (by decide +kernel) (.line _ (by decide +kernel) .nil)))
 have hq:dM [57]:=by decide
 have h1:=sG (c:=fZ) (n:=[97]) (q:=[57]) (CH _ _ (by decide) (by decide) (by decide) (by decide)) hq;have h2:=sG (c:=⟨[[97]],[0],[9],[]⟩) (n:=[98]) (q:=[57]) (CH _ _ (by decide) (by decide) (by decide) (by decide)) hq;have h3:=yW (c:=⟨[[97],[98]],[0,0],[9,9],[]⟩) (a:=[97]) (b:=[98]) (by decide) (by decide);have hPW:PW fZ [[fO,[97],[57]],[fO,[98],[57]],[jI,[97],[98]]] ⟨[[97],[98]],[2,0],[9,9],[]⟩:= .cons h1 (.cons h2 (.cons h3 (.nil _)))
 have hfin:gQ ⟨[[97],[98]],[2,0],[9,9],[]⟩=xQ:=by
  unfold gQ xQ;rw[show aV [2,0]=[3,2]by decide];rfl
 unfold cQ;rw[Ei hLO 1 hPW];simp only[hfin];rw[aI Oo,if_pos rfl]
theorem Kj:cQ Mk=(none,1,9):=by
 have hl:im Mk=[Mk]:=by decide +kernel
 have hw:gP Mk=([(fO,1),([97],7),([51],9)],10):=by decide +kernel
 have hps:bA fZ fO=[fun s=>pB (jY fZ.nm s),fun s=>decide (dM s)]:=by unfold bA;rw[if_pos rfl]
 have hln:kv fZ Mk= .inl 9:=by
  unfold kv;rw[hw,if_neg (by simp)];show cX fZ ((fO,1)::[([97],7),([51],9)]) 10=_;rw[mm (by decide),hps];refine sL _ _ _ _ _ 1 ([51],9) (fun s=>decide (dM s)) (fun j hj=>?_) rfl rfl (by decide);obtain rfl:j=0:=by omega
  exact⟨_,_,rfl,rfl,aI (CH _ _ (by decide) (by decide) (by decide) (by decide))⟩
 unfold cQ;rw[hl,pL,hln]
theorem NC:kj xQ:=⟨by decide,fun s hs=>by have:=(Oo.name s hs).short;omega,by decide,fun x hx=>by simp only[xQ,Rv,SL,or_false]at hx;rcases hx with rfl|rfl <;>decide,by decide,by decide⟩
theorem lJ(w0:W0)(hg:cV w0)(hk:KU w0)(hke:KE w0)(hp:KP w0)(hm:KM w0)(S:St):ab Tryz.prog w0 9 [] S (fun d S'=>d=dB true∧S'=S):=by
 have hA:∀S,ab Tryz.prog w0 10 [dS ⟨#[108,97,98,101,108,32,97,32,57,10,108,97,98,101,108,32,98,32,57,32,35,32,98,111,116,104,10,10,117,110,100,101,114,32,97,32,98]⟩] S (fun d S'=>d= .bU [.agg [.sl 1 false (aU [[97],[98]]),eH [3,2],nJ [9,9],lN []],dI 0,dI 0,dI 0]∧S'=S):=fun S=>by
  have h:=ie w0 hk hke hm hg (tx N8) (by decide) S;rw[aK,LD]at h;exact h
 have hB:∀S,ab Tryz.prog w0 10 [dS ⟨#[108,97,98,101,108,32,97,32,51]⟩] S (fun d S'=>d= .bU [AJ fZ,dI 13,dI 1,dI 9]∧S'=S):=fun S=>by
  have h:=ie w0 hk hke hm hg (tx Mk) (by decide) S;rw[aK,Kj]at h;exact h
 refine cR [] mx Tryz.func9 rfl rfl (by kernel_rfl) ?_;simp(maxDischargeDepth:=12) (maxSteps:=1000000) -implicitDefEqProofs only[Tryz.ntmps9,go_sem,Nat.reduceAdd,Nat.reduceSub,Nat.reduceMul,Nat.reduceLeDiff,Nat.reduceEqDiff,Nat.reduceGT,Nat.reduceBEq,reduceCtorEq,↓reduceIte,Int.reduceToNat,Int.reduceLE,Int.reduceLT,Int.reduceNe,Int.reduceEq];refine aq (hA _) ?_;simp(maxDischargeDepth:=12) (maxSteps:=1000000) -implicitDefEqProofs only[go_sem,Nat.reduceAdd,Nat.reduceSub,Nat.reduceMul,Nat.reduceLeDiff,Nat.reduceEqDiff,Nat.reduceGT,Nat.reduceBEq,reduceCtorEq,↓reduceIte,Int.reduceToNat,Int.reduceLE,Int.reduceLT,Int.reduceNe,Int.reduceEq];intro b;refine aq (hB _) ?_;simp(maxDischargeDepth:=12) (maxSteps:=1000000) -implicitDefEqProofs only[go_sem,Nat.reduceAdd,Nat.reduceSub,Nat.reduceMul,Nat.reduceLeDiff,Nat.reduceEqDiff,Nat.reduceGT,Nat.reduceBEq,reduceCtorEq,↓reduceIte,Int.reduceToNat,Int.reduceLE,Int.reduceLT,Int.reduceNe,Int.reduceEq];intro b';have eb:=af b' b.n (by simp(maxDischargeDepth:=12) (maxSteps:=1000000) -implicitDefEqProofs only[go_sem,Nat.reduceAdd,Nat.reduceSub,Nat.reduceMul,Nat.reduceLeDiff,Nat.reduceEqDiff,Nat.reduceGT,Nat.reduceBEq,reduceCtorEq,↓reduceIte,Int.reduceToNat,Int.reduceLE,Int.reduceLT,Int.reduceNe,Int.reduceEq])
 have hS:∀S,ab Tryz.prog w0 17 [AJ xQ] S (fun d S'=>d=dS (tx P3)∧S'=S):=fun S=>by
  have h:=qH w0 hg hk hp xQ NC S;rw[JK]at h;exact h
 have hC:∀S,ab Tryz.prog w0 15 [AJ xQ] S (fun d S'=>d=dB true∧S'=S):=fun S=>by
  have h:=me w0 hg hk xQ NC S;rw[aI Oo]at h;exact h
 have hN1:∀S,ab Tryz.prog w0 13 [dS ⟨#[97]⟩] S (fun d S'=>d=dB true∧S'=S):=fun S=>by
  have h:=jL w0 hk (tx [97]) (by decide) S;rw[aK,aI (yP (by decide) (by decide))]at h;exact h
 have hN2:∀S,ab Tryz.prog w0 13 [dS ⟨#[97,49]⟩] S (fun d S'=>d=dB false∧S'=S):=fun S=>by
  have h:=jL w0 hk (tx [97,49]) (by decide) S;rw[aK,aS Hy]at h;exact h
 refine aq (hS _) ?_;simp(maxDischargeDepth:=12) (maxSteps:=1000000) -implicitDefEqProofs only[go_sem,Nat.reduceAdd,Nat.reduceSub,Nat.reduceMul,Nat.reduceLeDiff,Nat.reduceEqDiff,Nat.reduceGT,Nat.reduceBEq,reduceCtorEq,↓reduceIte,Int.reduceToNat,Int.reduceLE,Int.reduceLT,Int.reduceNe,Int.reduceEq,eb];refine⟨fun _=>aq (hC _) ?_,fun h=>h rfl⟩;simp(maxDischargeDepth:=12) (maxSteps:=1000000) -implicitDefEqProofs only[go_sem,Nat.reduceAdd,Nat.reduceSub,Nat.reduceMul,Nat.reduceLeDiff,Nat.reduceEqDiff,Nat.reduceGT,Nat.reduceBEq,reduceCtorEq,↓reduceIte,Int.reduceToNat,Int.reduceLE,Int.reduceLT,Int.reduceNe,Int.reduceEq,eb];refine aq (hN1 _) ?_;simp(maxDischargeDepth:=12) (maxSteps:=1000000) -implicitDefEqProofs only[go_sem,Nat.reduceAdd,Nat.reduceSub,Nat.reduceMul,Nat.reduceLeDiff,Nat.reduceEqDiff,Nat.reduceGT,Nat.reduceBEq,reduceCtorEq,↓reduceIte,Int.reduceToNat,Int.reduceLE,Int.reduceLT,Int.reduceNe,Int.reduceEq,eb];refine aq (hN2 _) ?_;simp(maxDischargeDepth:=12) (maxSteps:=1000000) -implicitDefEqProofs only[go_sem,Nat.reduceAdd,Nat.reduceSub,Nat.reduceMul,Nat.reduceLeDiff,Nat.reduceEqDiff,Nat.reduceGT,Nat.reduceBEq,reduceCtorEq,↓reduceIte,Int.reduceToNat,Int.reduceLE,Int.reduceLT,Int.reduceNe,Int.reduceEq,eb]
theorem zy{c:Cf}(hc:gv c):(vV c).length≤65*c.nm.length+64:=by
 unfold vV;rw[Rk,Rk];have h1:=jj c c.up.length;rw[gL]at h1;have h2:=hc.cu;have h3:(bz c).length=c.nm.length:=by unfold bz;simp
 have h4:(dv c).length=c.gr.length:=by unfold dv;simp
 have h5:=hc.vu.1;omega
theorem qD{c:Cf}(hc:gv c):∀w,w∈vV c→(ai w).length≤200:=fun w hw=>by
 obtain⟨s1,s2,s3⟩:=mi hc;unfold vV at hw;rcases RB.1 hw with hw|hw
 ·rcases RB.1 hw with hw|hw
  ·exact s1 w hw
  ·obtain⟨a,_,hw⟩:=TB.1 hw;exact s2 a w hw
 ·exact s3 w hw
theorem yX{c:Cf}(hc:gv c):(ll c).length≤844800:=by
 have h:=dP (qD hc);have h1:=zy hc;have h2:=hc.tK.le;have h3:=hc.cu;have e:ll c=(vV c).flatMap ai:=by unfold ll;rw[aI hc,if_pos rfl]
 rw[e];omega
theorem K7:¬gv fZ:=fun h=>by have:=h.tK.pos;simp[fZ]at this
theorem rB{s:List UInt8}(hs:s.length≤1000000){c:Cf}(h:(cQ s).1=some c):kj c:=by
 have:=y8 s hs;rw[h]at this;exact this
theorem Ik(w0:W0)(hg:cV w0)(hk:KU w0)(hke:KE w0)(hp:KP w0)(hm:KM w0)(s:ByteArray)(S:St):ab Tryz.prog w0 3 [dS s] S (fun d S'=>d=dB true∧S'=S):=by
 refine cR [] mx Tryz.func3 rfl rfl (by kernel_rfl) ?_;simp(maxDischargeDepth:=12) (maxSteps:=1000000) -implicitDefEqProofs only[Tryz.ntmps3,go_sem,Nat.reduceAdd,Nat.reduceSub,Nat.reduceMul,Nat.reduceLeDiff,Nat.reduceEqDiff,Nat.reduceGT,Nat.reduceBEq,reduceCtorEq,↓reduceIte,Int.reduceToNat,Int.reduceLE,Int.reduceLT,Int.reduceNe,Int.reduceEq];refine aq (lJ _ hg hk hke hp hm _) ?_;simp(maxDischargeDepth:=12) (maxSteps:=1000000) -implicitDefEqProofs only[go_sem,Nat.reduceAdd,Nat.reduceSub,Nat.reduceMul,Nat.reduceLeDiff,Nat.reduceEqDiff,Nat.reduceGT,Nat.reduceBEq,reduceCtorEq,↓reduceIte,Int.reduceToNat,Int.reduceLE,Int.reduceLT,Int.reduceNe,Int.reduceEq];intro hs;have hs:s.size≤2000:=by omega
 have hci:=y8 s.data.toList (by rw[aw];omega);refine aq (ie _ hk hke hm hg s (by omega) _) ?_;have hR:=fun S=>K8 w0 s (by omega) S;generalize cQ s.data.toList=r at hci hR;simp(maxDischargeDepth:=12) (maxSteps:=1000000) -implicitDefEqProofs only[go_sem,Nat.reduceAdd,Nat.reduceSub,Nat.reduceMul,Nat.reduceLeDiff,Nat.reduceEqDiff,Nat.reduceGT,Nat.reduceBEq,reduceCtorEq,↓reduceIte,Int.reduceToNat,Int.reduceLE,Int.reduceLT,Int.reduceNe,Int.reduceEq];intro b1;refine aq (hR _) ?_;simp(maxDischargeDepth:=12) (maxSteps:=1000000) -implicitDefEqProofs only[go_sem,Nat.reduceAdd,Nat.reduceSub,Nat.reduceMul,Nat.reduceLeDiff,Nat.reduceEqDiff,Nat.reduceGT,Nat.reduceBEq,reduceCtorEq,↓reduceIte,Int.reduceToNat,Int.reduceLE,Int.reduceLT,Int.reduceNe,Int.reduceEq];intro b2;have eb:=af b2 b1.n (by simp(maxDischargeDepth:=12) (maxSteps:=1000000) -implicitDefEqProofs only[go_sem,Nat.reduceAdd,Nat.reduceSub,Nat.reduceMul,Nat.reduceLeDiff,Nat.reduceEqDiff,Nat.reduceGT,Nat.reduceBEq,reduceCtorEq,↓reduceIte,Int.reduceToNat,Int.reduceLE,Int.reduceLT,Int.reduceNe,Int.reduceEq]);refine aq (CK _ _ _ hci hci _) ?_;rw[aI (rfl:r.1.getD fZ=r.1.getD fZ)];simp(maxDischargeDepth:=12) (maxSteps:=1000000) -implicitDefEqProofs only[go_sem,Nat.reduceAdd,Nat.reduceSub,Nat.reduceMul,Nat.reduceLeDiff,Nat.reduceEqDiff,Nat.reduceGT,Nat.reduceBEq,reduceCtorEq,↓reduceIte,Int.reduceToNat,Int.reduceLE,Int.reduceLT,Int.reduceNe,Int.reduceEq,eb]
theorem Nb(w0:W0)(hg:cV w0)(hk:KU w0)(hke:KE w0)(hp:KP w0)(hm:KM w0)(s:ByteArray)(S:St):ab Tryz.prog w0 8 [dS s] S (fun d S'=>d=dB true∧S'=S):=by
 refine cR [] mx Tryz.func8 rfl rfl (by kernel_rfl) ?_;simp(maxDischargeDepth:=12) (maxSteps:=1000000) -implicitDefEqProofs only[Tryz.ntmps8,go_sem,Nat.reduceAdd,Nat.reduceSub,Nat.reduceMul,Nat.reduceLeDiff,Nat.reduceEqDiff,Nat.reduceGT,Nat.reduceBEq,reduceCtorEq,↓reduceIte,Int.reduceToNat,Int.reduceLE,Int.reduceLT,Int.reduceNe,Int.reduceEq];refine aq (lJ _ hg hk hke hp hm _) ?_;simp(maxDischargeDepth:=12) (maxSteps:=1000000) -implicitDefEqProofs only[go_sem,Nat.reduceAdd,Nat.reduceSub,Nat.reduceMul,Nat.reduceLeDiff,Nat.reduceEqDiff,Nat.reduceGT,Nat.reduceBEq,reduceCtorEq,↓reduceIte,Int.reduceToNat,Int.reduceLE,Int.reduceLT,Int.reduceNe,Int.reduceEq];intro hs;have hs:s.size≤2000:=by omega
 have hsl:s.data.toList.length≤1000000:=by rw[aw];omega
 refine aq (ie _ hk hke hm hg s (by omega) _) ?_
 cases hr:(cQ s.data.toList).1 with
 |none=>
  have h0:kj fZ:=L6.J2 (by decide);generalize cQ s.data.toList=r at hr;simp(maxDischargeDepth:=12) (maxSteps:=1000000) -implicitDefEqProofs only[go_sem,Nat.reduceAdd,Nat.reduceSub,Nat.reduceMul,Nat.reduceLeDiff,Nat.reduceEqDiff,Nat.reduceGT,Nat.reduceBEq,reduceCtorEq,↓reduceIte,Int.reduceToNat,Int.reduceLE,Int.reduceLT,Int.reduceNe,Int.reduceEq,hr];intro b1;have hsh:=fun S=>qH w0 hg hk hp fZ h0 S;rw[wI K7]at hsh;refine aq (hsh _) ?_;simp(maxDischargeDepth:=12) (maxSteps:=1000000) -implicitDefEqProofs only[go_sem,Nat.reduceAdd,Nat.reduceSub,Nat.reduceMul,Nat.reduceLeDiff,Nat.reduceEqDiff,Nat.reduceGT,Nat.reduceBEq,reduceCtorEq,↓reduceIte,Int.reduceToNat,Int.reduceLE,Int.reduceLT,Int.reduceNe,Int.reduceEq]
 |some c=>
  obtain⟨hc,he⟩:=zb hr;have hci:=rB hsl hr;rw[he];simp(maxDischargeDepth:=12) (maxSteps:=1000000) -implicitDefEqProofs only[go_sem,Nat.reduceAdd,Nat.reduceSub,Nat.reduceMul,Nat.reduceLeDiff,Nat.reduceEqDiff,Nat.reduceGT,Nat.reduceBEq,reduceCtorEq,↓reduceIte,Int.reduceToNat,Int.reduceLE,Int.reduceLT,Int.reduceNe,Int.reduceEq];intro b1;refine aq (qH _ hg hk hp c hci _) ?_;simp(maxDischargeDepth:=12) (maxSteps:=1000000) -implicitDefEqProofs only[go_sem,Nat.reduceAdd,Nat.reduceSub,Nat.reduceMul,Nat.reduceLeDiff,Nat.reduceEqDiff,Nat.reduceGT,Nat.reduceBEq,reduceCtorEq,↓reduceIte,Int.reduceToNat,Int.reduceLE,Int.reduceLT,Int.reduceNe,Int.reduceEq];have hpa:=fun S=>ie w0 hk hke hm hg (tx (ll c)) (by rw[aP];have:=yX hc;omega) S;rw[aK,vq hc]at hpa;refine aq (hpa _) ?_;simp(maxDischargeDepth:=12) (maxSteps:=1000000) -implicitDefEqProofs only[go_sem,Nat.reduceAdd,Nat.reduceSub,Nat.reduceMul,Nat.reduceLeDiff,Nat.reduceEqDiff,Nat.reduceGT,Nat.reduceBEq,reduceCtorEq,↓reduceIte,Int.reduceToNat,Int.reduceLE,Int.reduceLT,Int.reduceNe,Int.reduceEq];intro b2;have eb:=af b2 b1.n (by simp(maxDischargeDepth:=12) (maxSteps:=1000000) -implicitDefEqProofs only[go_sem,Nat.reduceAdd,Nat.reduceSub,Nat.reduceMul,Nat.reduceLeDiff,Nat.reduceEqDiff,Nat.reduceGT,Nat.reduceBEq,reduceCtorEq,↓reduceIte,Int.reduceToNat,Int.reduceLE,Int.reduceLT,Int.reduceNe,Int.reduceEq]);have hck:=fun S=>me w0 hg hk c hci S;rw[aI hc]at hck;have hsa:=fun S=>CK w0 c c hci hci S;rw[aI (rfl:c=c)]at hsa;refine aq (hck _) ?_;simp(maxDischargeDepth:=12) (maxSteps:=1000000) -implicitDefEqProofs only[go_sem,Nat.reduceAdd,Nat.reduceSub,Nat.reduceMul,Nat.reduceLeDiff,Nat.reduceEqDiff,Nat.reduceGT,Nat.reduceBEq,reduceCtorEq,↓reduceIte,Int.reduceToNat,Int.reduceLE,Int.reduceLT,Int.reduceNe,Int.reduceEq,eb];refine aq (hsa _) ?_;simp(maxDischargeDepth:=12) (maxSteps:=1000000) -implicitDefEqProofs only[go_sem,Nat.reduceAdd,Nat.reduceSub,Nat.reduceMul,Nat.reduceLeDiff,Nat.reduceEqDiff,Nat.reduceGT,Nat.reduceBEq,reduceCtorEq,↓reduceIte,Int.reduceToNat,Int.reduceLE,Int.reduceLT,Int.reduceNe,Int.reduceEq,eb];refine aq (qH _ hg hk hp c hci _) ?_;simp(maxDischargeDepth:=12) (maxSteps:=1000000) -implicitDefEqProofs only[go_sem,Nat.reduceAdd,Nat.reduceSub,Nat.reduceMul,Nat.reduceLeDiff,Nat.reduceEqDiff,Nat.reduceGT,Nat.reduceBEq,reduceCtorEq,↓reduceIte,Int.reduceToNat,Int.reduceLE,Int.reduceLT,Int.reduceNe,Int.reduceEq,eb];exact K0 hc
theorem wJ(w0:W0)(hg:cV w0)(hk:KU w0)(hke:KE w0)(hp:KP w0)(hm:KM w0)(c:Cf)(hc:kj c)(s:ByteArray)(S:St):ab Tryz.prog w0 4 [AJ c,dS s] S (fun d S'=>d=dB true∧S'=S):=by
 refine cR [] mx Tryz.func4 rfl rfl (by kernel_rfl) ?_;simp(maxDischargeDepth:=12) (maxSteps:=1000000) -implicitDefEqProofs only[Tryz.ntmps4,go_sem,Nat.reduceAdd,Nat.reduceSub,Nat.reduceMul,Nat.reduceLeDiff,Nat.reduceEqDiff,Nat.reduceGT,Nat.reduceBEq,reduceCtorEq,↓reduceIte,Int.reduceToNat,Int.reduceLE,Int.reduceLT,Int.reduceNe,Int.reduceEq];intro b1;refine aq (lJ _ hg hk hke hp hm _) ?_;simp(maxDischargeDepth:=12) (maxSteps:=1000000) -implicitDefEqProofs only[go_sem,Nat.reduceAdd,Nat.reduceSub,Nat.reduceMul,Nat.reduceLeDiff,Nat.reduceEqDiff,Nat.reduceGT,Nat.reduceBEq,reduceCtorEq,↓reduceIte,Int.reduceToNat,Int.reduceLE,Int.reduceLT,Int.reduceNe,Int.reduceEq];intro h1 h2 h3;refine dL (jL _ hk s (by omega) _) ?_;simp(maxDischargeDepth:=12) (maxSteps:=1000000) -implicitDefEqProofs only[go_sem,Nat.reduceAdd,Nat.reduceSub,Nat.reduceMul,Nat.reduceLeDiff,Nat.reduceEqDiff,Nat.reduceGT,Nat.reduceBEq,reduceCtorEq,↓reduceIte,Int.reduceToNat,Int.reduceLE,Int.reduceLT,Int.reduceNe,Int.reduceEq];refine dL (Da _ s (by omega) _) ?_;simp(maxDischargeDepth:=12) (maxSteps:=1000000) -implicitDefEqProofs only[go_sem,Nat.reduceAdd,Nat.reduceSub,Nat.reduceMul,Nat.reduceLeDiff,Nat.reduceEqDiff,Nat.reduceGT,Nat.reduceBEq,reduceCtorEq,↓reduceIte,Int.reduceToNat,Int.reduceLE,Int.reduceLT,Int.reduceNe,Int.reduceEq];refine dL (me _ hg hk c hc _) ?_;simp(maxDischargeDepth:=12) (maxSteps:=1000000) -implicitDefEqProofs only[go_sem,Nat.reduceAdd,Nat.reduceSub,Nat.reduceMul,Nat.reduceLeDiff,Nat.reduceEqDiff,Nat.reduceGT,Nat.reduceBEq,reduceCtorEq,↓reduceIte,Int.reduceToNat,Int.reduceLE,Int.reduceLT,Int.reduceNe,Int.reduceEq];refine dL (rG _ c hc _) ?_;simp(maxDischargeDepth:=12) (maxSteps:=1000000) -implicitDefEqProofs only[go_sem,Nat.reduceAdd,Nat.reduceSub,Nat.reduceMul,Nat.reduceLeDiff,Nat.reduceEqDiff,Nat.reduceGT,Nat.reduceBEq,reduceCtorEq,↓reduceIte,Int.reduceToNat,Int.reduceLE,Int.reduceLT,Int.reduceNe,Int.reduceEq];refine dL (qH _ hg hk hp c hc _) ?_;simp(maxDischargeDepth:=12) (maxSteps:=1000000) -implicitDefEqProofs only[go_sem,Nat.reduceAdd,Nat.reduceSub,Nat.reduceMul,Nat.reduceLeDiff,Nat.reduceEqDiff,Nat.reduceGT,Nat.reduceBEq,reduceCtorEq,↓reduceIte,Int.reduceToNat,Int.reduceLE,Int.reduceLT,Int.reduceNe,Int.reduceEq];refine dL (NQ _ c hc _) ?_;simp(maxDischargeDepth:=12) (maxSteps:=1000000) -implicitDefEqProofs only[go_sem,Nat.reduceAdd,Nat.reduceSub,Nat.reduceMul,Nat.reduceLeDiff,Nat.reduceEqDiff,Nat.reduceGT,Nat.reduceBEq,reduceCtorEq,↓reduceIte,Int.reduceToNat,Int.reduceLE,Int.reduceLT,Int.reduceNe,Int.reduceEq]
theorem I2(note:List UInt8)(x:UInt8)(hx:x≠10):(iC note x).length≤3:=by
 unfold iC;rw[if_neg hx];split <;>simp
theorem yY(note:List UInt8):∀l:List UInt8,(∀x,x∈l→x≠10)→(l.flatMap (iC note)).length≤3*l.length
 |[],h=>by simp
 |x::l,h=>by
  rw[Sd,Rk,Ru];have h1:=I2 note x (h x (by simp));have h2:=yY note l fun y hy=>h y (Rr _ hy);omega
theorem zi(note:List UInt8)(hn:note.length≤100):∀L:List (List (List UInt8)),(∀ws,ws∈L→ws≠[]∧∀w,w∈ws→Tok w)→(∀w,w∈L→(ai w).length≤200)→((L.flatMap ai).flatMap (iC note)).length≤706*L.length
 |[],h,k=>by simp
 |ws::L,h,k=>by
  have ih:=zi note hn L (fun x hx=>h x (Rr _ hx)) fun x hx=>k x (Rr _ hx);have h1:=kA (sep:=[32]) (by decide) ws (h ws (by simp)).2;rw[yF]at h1;have h2:=yY note (jn ws) h1;have h3:=k ws (by simp);unfold ai at h3;rw[Rk]at h3;have e:(([10]:List UInt8).flatMap (iC note))=[32,9,35]++note++[10,32,10]:=by simp[iC]
  rw[Sd,RR,Rk,Ru]
  have h4:((ai ws).flatMap (iC note)).length≤706:=by
   unfold ai;rw[RR,e];simp only[Rk,Ru,Sf]at h3 ⊢;omega
  omega
theorem HD{c:Cf}(hc:gv c)(h12:c.nm.length≤12)(note:List UInt8)(hn:note.length≤100)(i:Nat):(((ll c).take i).flatMap (iC note)).length≤600000:=by
 have h:=zi note hn (vV c) (rY hc) (qD hc);have h1:=zy hc;have e:ll c=(vV c).flatMap ai:=by unfold ll;rw[aI hc,if_pos rfl]
 rw[←e]at h
 have h2:((ll c).flatMap (iC note)).length=(((ll c).take i).flatMap (iC note)).length+(((ll c).drop i).flatMap (iC note)).length:=by
  rw[←Rk,←RR,SC]
 omega
theorem NV(A:List UInt8)(s:ByteArray):tx A++(⟨#[32,9,35]⟩++s++⟨#[10,32,10]⟩)=tx (A++iC s.data.toList 10):=by
 refine eI ?_;have h1:(⟨#[32,9,35]⟩:ByteArray).data.toList=[32,9,35]:=rfl;have h2:(⟨#[10,32,10]⟩:ByteArray).data.toList=[10,32,10]:=rfl;have h3:iC s.data.toList 10=[32,9,35]++s.data.toList++[10,32,10]:=by simp[iC]
 simp only[dj,aK,h1,h2,h3]
theorem Mr(A:List UInt8)(s:ByteArray):tx A++(⟨#[9,32,32]⟩:ByteArray)=tx (A++iC s.data.toList 32):=by
 refine eI ?_;have h1:(⟨#[9,32,32]⟩:ByteArray).data.toList=[9,32,32]:=rfl;have h3:iC s.data.toList 32=[9,32,32]:=by simp[iC]
 simp only[dj,aK,h1,h3]
theorem Pa(A T:List UInt8)(s:ByteArray)(i:Nat)(x:UInt8)(hx:T[i]? =some x)(h1:x≠10)(h2:x≠32):tx A++(tx T).extract i (i+1)=tx (A++iC s.data.toList x):=by
 refine eI ?_;have h3:iC s.data.toList x=[x]:=by unfold iC;rw[if_neg h1,if_neg h2]
 have h4:(T.take (i+1)).drop i=[x]:=by
  obtain⟨hi,he⟩:=Rp.1 hx;rw[tR hi (Ro _),he,Tp (by rw[RA];omega)];rfl
 simp only[dj,aK,h3,dm,h4]
theorem O6(s:ByteArray)(A:List UInt8):⟨#[35]⟩++s++⟨#[10]⟩++tx A=tx (35::s.data.toList++[10]++A):=by
 refine eI ?_;have h1:(⟨#[35]⟩:ByteArray).data.toList=[35]:=rfl;have h2:(⟨#[10]⟩:ByteArray).data.toList=[10]:=rfl;simp only[dj,aK,h1,h2];simp
theorem M4(w0:W0)(hg:cV w0)(hk:KU w0)(hke:KE w0)(hp:KP w0)(hm:KM w0)(c:Cf)(hc:kj c)(s:ByteArray)(S:St):ab Tryz.prog w0 5 [AJ c,dS s] S (fun d S'=>d=dB true∧S'=S):=by
 refine cR [] mx Tryz.func5 rfl rfl (by kernel_rfl) ?_;simp(maxDischargeDepth:=12) (maxSteps:=1000000) -implicitDefEqProofs only[Tryz.ntmps5,go_sem,Nat.reduceAdd,Nat.reduceSub,Nat.reduceMul,Nat.reduceLeDiff,Nat.reduceEqDiff,Nat.reduceGT,Nat.reduceBEq,reduceCtorEq,↓reduceIte,Int.reduceToNat,Int.reduceLE,Int.reduceLT,Int.reduceNe,Int.reduceEq];intro b1;refine aq (lJ _ hg hk hke hp hm _) ?_;simp(maxDischargeDepth:=12) (maxSteps:=1000000) -implicitDefEqProofs only[go_sem,Nat.reduceAdd,Nat.reduceSub,Nat.reduceMul,Nat.reduceLeDiff,Nat.reduceEqDiff,Nat.reduceGT,Nat.reduceBEq,reduceCtorEq,↓reduceIte,Int.reduceToNat,Int.reduceLE,Int.reduceLT,Int.reduceNe,Int.reduceEq];intro h1 h2 h3;refine aq (rG _ c hc _) ?_;simp(maxDischargeDepth:=12) (maxSteps:=1000000) -implicitDefEqProofs only[go_sem,Nat.reduceAdd,Nat.reduceSub,Nat.reduceMul,Nat.reduceLeDiff,Nat.reduceEqDiff,Nat.reduceGT,Nat.reduceBEq,reduceCtorEq,↓reduceIte,Int.reduceToNat,Int.reduceLE,Int.reduceLT,Int.reduceNe,Int.reduceEq];intro hcp;have hsz:=aw s;refine bw [] s.size [1,2,6] (fun i=>[(1,dS s),(2,.v (.pointer (some ⟨b1.n,0,none⟩))),(6,dI i)]) (fun i=>⟨(b1.n,[.sl 1 false (aU c.nm),eH c.up,nJ c.qu,lN c.gr])::S.box,S.acc⟩) (fun i=>∀j x,j<i→s.data.toList[j]? =some x→x≠10) mx (by kernel_rfl) ?_ ?_
 ·simp(maxDischargeDepth:=12) (maxSteps:=1000000) -implicitDefEqProofs only[go_sem,Nat.reduceAdd,Nat.reduceSub,Nat.reduceMul,Nat.reduceLeDiff,Nat.reduceEqDiff,Nat.reduceGT,Nat.reduceBEq,reduceCtorEq,↓reduceIte,Int.reduceToNat,Int.reduceLE,Int.reduceLT,Int.reduceNe,Int.reduceEq];intro j x hj;omega
 ·intro i hi hinv;have e1:IntKind.i64.wrap ((i:Int)+1)=((i+1:Nat):Int):=ax (by omega);by_cases hlt:i<s.size
  ·have hx:s.data.toList[i]? =some (s.data.toList[i]'(by omega)):=so (by omega);generalize s.data.toList[i]'(by omega)=x at hx;simp(maxDischargeDepth:=12) (maxSteps:=1000000) -implicitDefEqProofs only[go_sem,Nat.reduceAdd,Nat.reduceSub,Nat.reduceMul,Nat.reduceLeDiff,Nat.reduceEqDiff,Nat.reduceGT,Nat.reduceBEq,reduceCtorEq,↓reduceIte,Int.reduceToNat,Int.reduceLE,Int.reduceLT,Int.reduceNe,Int.reduceEq,hx,e1];refine⟨fun _=>⟨hlt,fun h10=>⟨hlt,fun j y hj hy e=>?_⟩⟩,fun h=>absurd hlt h⟩;by_cases ej:j=i
   ·subst ej;rw[hx]at hy;cases hy;subst e;exact h10 rfl
   ·exact hinv j y (by omega) hy e
  ·have hno:∀x,x∈s.data.toList→x≠10:=fun x hx=>by
    obtain⟨j,hj⟩:=Su.1 hx;exact hinv j x (by have:=(Rp.1 hj).1;omega) hj
   simp(maxDischargeDepth:=12) (maxSteps:=1000000) -implicitDefEqProofs only[go_sem,Nat.reduceAdd,Nat.reduceSub,Nat.reduceMul,Nat.reduceLeDiff,Nat.reduceEqDiff,Nat.reduceGT,Nat.reduceBEq,reduceCtorEq,↓reduceIte,Int.reduceToNat,Int.reduceLE,Int.reduceLT,Int.reduceNe,Int.reduceEq,e1];refine⟨fun h=>absurd h hlt,fun _=>?_⟩;have hcp:=RH.1 hcp;have hl1:=hcp.cu;refine aq (qH _ hg hk hp c hc _) ?_;simp(maxDischargeDepth:=12) (maxSteps:=1000000) -implicitDefEqProofs only[go_sem,Nat.reduceAdd,Nat.reduceSub,Nat.reduceMul,Nat.reduceLeDiff,Nat.reduceEqDiff,Nat.reduceGT,Nat.reduceBEq,reduceCtorEq,↓reduceIte,Int.reduceToNat,Int.reduceLE,Int.reduceLT,Int.reduceNe,Int.reduceEq];have hTl:=yX hcp;have hpa:=fun S=>ie w0 hk hke hm hg (tx (ll c)) (by rw[aP];omega) S;rw[aK,vq hcp]at hpa;have htl:=HD hcp (by omega) s.data.toList (by omega)
   have hpb:=fun S=>ie w0 hk hke hm hg (tx (35::s.data.toList++[10]++(ll c).flatMap (iC s.data.toList))) (by
    have:=htl (ll c).length;rw[List.take_length]at this;rw[aP];simp only[Rk,Ru,Sf];omega) S
   rw[aK,HK hcp _ hno]at hpb;generalize hT:ll c=T at*;refine aq (hpa _) ?_;simp(maxDischargeDepth:=12) (maxSteps:=1000000) -implicitDefEqProofs only[go_sem,Nat.reduceAdd,Nat.reduceSub,Nat.reduceMul,Nat.reduceLeDiff,Nat.reduceEqDiff,Nat.reduceGT,Nat.reduceBEq,reduceCtorEq,↓reduceIte,Int.reduceToNat,Int.reduceLE,Int.reduceLT,Int.reduceNe,Int.reduceEq];intro b2;have eb:=af b2 b1.n (by simp(maxDischargeDepth:=12) (maxSteps:=1000000) -implicitDefEqProofs only[go_sem,Nat.reduceAdd,Nat.reduceSub,Nat.reduceMul,Nat.reduceLeDiff,Nat.reduceEqDiff,Nat.reduceGT,Nat.reduceBEq,reduceCtorEq,↓reduceIte,Int.reduceToNat,Int.reduceLE,Int.reduceLT,Int.reduceNe,Int.reduceEq]);refine bw [] T.length [1,2,7,8,9,12,13] (fun i=>[(1,dS s),(2,.v (.pointer (some ⟨b1.n,0,none⟩))),(7,dS (tx T)),(8,.v (.pointer (some ⟨b2.n,0,none⟩))),(9,dI 0),(12,dS (tx ((T.take i).flatMap (iC s.data.toList)))),(13,dI i)]) (fun i=>⟨(b2.n,[.sl 1 false (aU c.nm),eH c.up,nJ c.qu,lN c.gr])::(b1.n,[.sl 1 false (aU c.nm),eH c.up,nJ c.qu,lN c.gr])::S.box,S.acc⟩) (fun i=>True) mx (by kernel_rfl) ?_ ?_
   ·simp(maxDischargeDepth:=12) (maxSteps:=1000000) -implicitDefEqProofs only[go_sem,Nat.reduceAdd,Nat.reduceSub,Nat.reduceMul,Nat.reduceLeDiff,Nat.reduceEqDiff,Nat.reduceGT,Nat.reduceBEq,reduceCtorEq,↓reduceIte,Int.reduceToNat,Int.reduceLE,Int.reduceLT,Int.reduceNe,Int.reduceEq,eb];exact⟨rfl,.refl _⟩
   ·intro i hi _;have e1:IntKind.i64.wrap ((i:Int)+1)=((i+1:Nat):Int):=ax (by omega);have hti:=htl i;by_cases hlt:i<T.length
    ·have hx:T[i]? =some (T[i]'(by omega)):=so (by omega);have hts:(T.take (i+1)).flatMap (iC s.data.toList)=(T.take i).flatMap (iC s.data.toList)++iC s.data.toList (T[i]'(by omega)):=by rw[fh hx,RR];simp
     generalize T[i]'(by omega)=x at hx hts;by_cases h10:x=10
     ·subst h10;have q1:(((10:UInt8).toNat:Int)=10)=True:=eq_true rfl;simp(maxDischargeDepth:=12) (maxSteps:=1000000) -implicitDefEqProofs only[go_sem,Nat.reduceAdd,Nat.reduceSub,Nat.reduceMul,Nat.reduceLeDiff,Nat.reduceEqDiff,Nat.reduceGT,Nat.reduceBEq,reduceCtorEq,↓reduceIte,Int.reduceToNat,Int.reduceLE,Int.reduceLT,Int.reduceNe,Int.reduceEq,hx,e1,eb,q1,aP];exact⟨fun _=>⟨hlt,by omega,by omega,by omega,hlt,by rw[NV,hts]⟩,fun h=>absurd hlt h⟩
     ·have q1:((x.toNat:Int)=10)=False:=eq_false fun e=>h10 (Tx.1 (by have:(10:UInt8).toNat=10:=rfl;omega));by_cases h32:x=32
      ·subst h32;have q2:(((32:UInt8).toNat:Int)=32)=True:=eq_true rfl;simp(maxDischargeDepth:=12) (maxSteps:=1000000) -implicitDefEqProofs only[go_sem,Nat.reduceAdd,Nat.reduceSub,Nat.reduceMul,Nat.reduceLeDiff,Nat.reduceEqDiff,Nat.reduceGT,Nat.reduceBEq,reduceCtorEq,↓reduceIte,Int.reduceToNat,Int.reduceLE,Int.reduceLT,Int.reduceNe,Int.reduceEq,hx,e1,eb,q1,q2,aP];exact⟨fun _=>⟨hlt,by omega,hlt,by rw[Mr _ s,hts]⟩,fun h=>absurd hlt h⟩
      ·have q2:((x.toNat:Int)=32)=False:=eq_false fun e=>h32 (Tx.1 (by have:(32:UInt8).toNat=32:=rfl;omega));have hcx:=Pa ((T.take i).flatMap (iC s.data.toList)) T s i x hx h10 h32;have hxs:((tx T).extract i (i+1)).size≤844801:=by rw[←aw,dm,RP,RA,aK];omega
       simp(maxDischargeDepth:=12) (maxSteps:=1000000) -implicitDefEqProofs only[go_sem,Nat.reduceAdd,Nat.reduceSub,Nat.reduceMul,Nat.reduceLeDiff,Nat.reduceEqDiff,Nat.reduceGT,Nat.reduceBEq,reduceCtorEq,↓reduceIte,Int.reduceToNat,Int.reduceLE,Int.reduceLT,Int.reduceNe,Int.reduceEq,hx,e1,eb,q1,q2,aP];exact⟨fun _=>⟨hlt,by omega,by omega,by omega,hlt,by rw[hcx,hts]⟩,fun h=>absurd hlt h⟩
    ·have hti:T.take i=T:=RN (by omega);rw[hti];have htt:=htl i;rw[hti]at htt;have hsa:=fun S=>CK w0 c c hc hc S;rw[aI (rfl:c=c)]at hsa;simp(maxDischargeDepth:=12) (maxSteps:=1000000) -implicitDefEqProofs only[go_sem,Nat.reduceAdd,Nat.reduceSub,Nat.reduceMul,Nat.reduceLeDiff,Nat.reduceEqDiff,Nat.reduceGT,Nat.reduceBEq,reduceCtorEq,↓reduceIte,Int.reduceToNat,Int.reduceLE,Int.reduceLT,Int.reduceNe,Int.reduceEq,eb,O6,aP];refine⟨fun h=>absurd h hlt,fun _=>⟨by omega,by omega,by omega,?_⟩⟩;refine aq (hpb _) ?_;simp(maxDischargeDepth:=12) (maxSteps:=1000000) -implicitDefEqProofs only[go_sem,Nat.reduceAdd,Nat.reduceSub,Nat.reduceMul,Nat.reduceLeDiff,Nat.reduceEqDiff,Nat.reduceGT,Nat.reduceBEq,reduceCtorEq,↓reduceIte,Int.reduceToNat,Int.reduceLE,Int.reduceLT,Int.reduceNe,Int.reduceEq];intro b3;have ec:=af b3 b2.n (by simp(maxDischargeDepth:=12) (maxSteps:=1000000) -implicitDefEqProofs only[go_sem,Nat.reduceAdd,Nat.reduceSub,Nat.reduceMul,Nat.reduceLeDiff,Nat.reduceEqDiff,Nat.reduceGT,Nat.reduceBEq,reduceCtorEq,↓reduceIte,Int.reduceToNat,Int.reduceLE,Int.reduceLT,Int.reduceNe,Int.reduceEq]);have ed:=af b3 b1.n (by simp(maxDischargeDepth:=12) (maxSteps:=1000000) -implicitDefEqProofs only[go_sem,Nat.reduceAdd,Nat.reduceSub,Nat.reduceMul,Nat.reduceLeDiff,Nat.reduceEqDiff,Nat.reduceGT,Nat.reduceBEq,reduceCtorEq,↓reduceIte,Int.reduceToNat,Int.reduceLE,Int.reduceLT,Int.reduceNe,Int.reduceEq,eb]);refine aq (hsa _) ?_;simp(maxDischargeDepth:=12) (maxSteps:=1000000) -implicitDefEqProofs only[go_sem,Nat.reduceAdd,Nat.reduceSub,Nat.reduceMul,Nat.reduceLeDiff,Nat.reduceEqDiff,Nat.reduceGT,Nat.reduceBEq,reduceCtorEq,↓reduceIte,Int.reduceToNat,Int.reduceLE,Int.reduceLT,Int.reduceNe,Int.reduceEq,eb,ec,ed];refine aq (hsa _) ?_;simp(maxDischargeDepth:=12) (maxSteps:=1000000) -implicitDefEqProofs only[go_sem,Nat.reduceAdd,Nat.reduceSub,Nat.reduceMul,Nat.reduceLeDiff,Nat.reduceEqDiff,Nat.reduceGT,Nat.reduceBEq,reduceCtorEq,↓reduceIte,Int.reduceToNat,Int.reduceLE,Int.reduceLT,Int.reduceNe,Int.reduceEq,eb,ec,ed]
theorem Df{a b:List UInt8}(ha:bL a)(hb:bL b):bL (a++b)↔(ak (a++b)).length≤12:=by
 have e:=ji ha.whole b;refine⟨fun h=>h.le,fun h=>⟨fun r hr=>?_,Ae ha.whole hb.whole,?_,h⟩⟩
 ·rw[e]at hr;rcases RB.1 hr with hr|hr
  ·exact ha.vQ r hr
  ·exact hb.vQ r hr
 ·rw[e,Rk];have:=ha.pos;omega
theorem Gp{a b:List UInt8}(ha:bL a)(hb:bL b){c:UInt8}(hc:¬((97≤c.toNat∧c.toNat≤122)∨(65≤c.toNat∧c.toNat≤90))):¬bL (a++[c]++b):=fun h=>by
 rw[RJ,S9]at h;have e:=ji ha.whole (c::b);by_cases h2:c.toNat<128
 ·have h3:=h.vQ (c.toNat,[c]) (by rw[e,aM h2];simp);have h4:=of_decide_eq_true h3;simp only at h4;omega
 ·have h3:whole (c::b):=fun r hr=>h.whole r (by rw[e];exact List.mem_append_right _ hr);have h4:=((fi (by simp)).1 h3).1;rw[Kw (by omega) fun d hd=>?_]at h4
  ·exact h4 ⟨rfl,rfl⟩
  ·cases b with
   |nil=>cases hd
   |cons x b=>
    have h5:=Cc ((fi (by simp)).1 hb.whole).1;cases hd;exact h5
theorem Gj:¬bL []:=fun h=>by have:=h.pos;rw[dw]at this;simp at this
theorem LN(w0:W0)(hg:cV w0)(hk:KU w0)(hke:KE w0)(hp:KP w0)(hm:KM w0)(s t:ByteArray)(c:UInt8)(S:St):ab Tryz.prog w0 7 [dS s,dS t,.v (.int .u8 (c.toNat:Nat))] S (fun d S'=>d=dB true∧S'=S):=by
 refine cR [] mx Tryz.func7 rfl rfl (by kernel_rfl) ?_;simp(maxDischargeDepth:=12) (maxSteps:=1000000) -implicitDefEqProofs only[Tryz.ntmps7,go_sem,Nat.reduceAdd,Nat.reduceSub,Nat.reduceMul,Nat.reduceLeDiff,Nat.reduceEqDiff,Nat.reduceGT,Nat.reduceBEq,reduceCtorEq,↓reduceIte,Int.reduceToNat,Int.reduceLE,Int.reduceLT,Int.reduceNe,Int.reduceEq];refine aq (lJ _ hg hk hke hp hm _) ?_;simp(maxDischargeDepth:=12) (maxSteps:=1000000) -implicitDefEqProofs only[go_sem,Nat.reduceAdd,Nat.reduceSub,Nat.reduceMul,Nat.reduceLeDiff,Nat.reduceEqDiff,Nat.reduceGT,Nat.reduceBEq,reduceCtorEq,↓reduceIte,Int.reduceToNat,Int.reduceLE,Int.reduceLT,Int.reduceNe,Int.reduceEq];intro h1 h2;refine aq (jL _ hk s (by omega) _) ?_;simp(maxDischargeDepth:=12) (maxSteps:=1000000) -implicitDefEqProofs only[go_sem,Nat.reduceAdd,Nat.reduceSub,Nat.reduceMul,Nat.reduceLeDiff,Nat.reduceEqDiff,Nat.reduceGT,Nat.reduceBEq,reduceCtorEq,↓reduceIte,Int.reduceToNat,Int.reduceLE,Int.reduceLT,Int.reduceNe,Int.reduceEq];intro hs;refine aq (jL _ hk t (by omega) _) ?_;simp(maxDischargeDepth:=12) (maxSteps:=1000000) -implicitDefEqProofs only[go_sem,Nat.reduceAdd,Nat.reduceSub,Nat.reduceMul,Nat.reduceLeDiff,Nat.reduceEqDiff,Nat.reduceGT,Nat.reduceBEq,reduceCtorEq,↓reduceIte,Int.reduceToNat,Int.reduceLE,Int.reduceLT,Int.reduceNe,Int.reduceEq];intro ht;have hs:=RH.1 hs;have ht:=RH.1 ht;refine⟨by omega,fun li=>?_⟩;have hsz:=aw (s++t);have hsz2:(s++t).size=s.size+t.size:=by simp
 refine bS [] [0,1,2,8,35] (σ:=Nat×List (Nat×List UInt8)) (fun p=>[(0,dS s),(1,dS t),(2,.v (.int .u8 (c.toNat:Nat))),(8,dI p.2.length)]) (fun p=>⟨S.box,(li.n,.xo (.si (s++t) p.1))::S.acc⟩) (fun p=>p.1≤(s++t).size∧p.2++ak ((s++t).data.toList.drop p.1)=ak (s++t).data.toList) (fun p=>(s++t).size-p.1) (0,[]) mx (by kernel_rfl) ⟨⟨RL _,rfl⟩,?_⟩ fun p hp=>?_
 ·simp(maxDischargeDepth:=12) (maxSteps:=1000000) -implicitDefEqProofs only[go_sem,Nat.reduceAdd,Nat.reduceSub,Nat.reduceMul,Nat.reduceLeDiff,Nat.reduceEqDiff,Nat.reduceGT,Nat.reduceBEq,reduceCtorEq,↓reduceIte,Int.reduceToNat,Int.reduceLE,Int.reduceLT,Int.reduceNe,Int.reduceEq]
 ·obtain⟨k,pre⟩:=p;obtain⟨hk1,hpre⟩:=hp;dsimp only at hk1 hpre;generalize hST:s++t=st at*;simp(maxDischargeDepth:=12) (maxSteps:=1000000) -implicitDefEqProofs only[go_sem,Nat.reduceAdd,Nat.reduceSub,Nat.reduceMul,Nat.reduceLeDiff,Nat.reduceEqDiff,Nat.reduceGT,Nat.reduceBEq,reduceCtorEq,↓reduceIte,Int.reduceToNat,Int.reduceLE,Int.reduceLT,Int.reduceNe,Int.reduceEq];rw[ew st k];have hrl:=dC st.data.toList
  have hrp:pre.length≤st.size:=by
   have:=congrArg List.length hpre;rw[Rk]at this;omega
  refine⟨fun hk'=>?_,fun hk'=>?_⟩
  ·rw[dz (by omega),RU]at hpre;have hcl:=c.toNat_lt;have hls:st.data.toList=s.data.toList++t.data.toList:=by rw[←hST,dj]
   have hN:=Df hs ht;rw[←hls,←hpre]at hN;have e0:=FR [c];have e2:=(Ea [c]).2;simp only[Rz,SN]at e0 e2;have hnp:=fun S=>jL w0 hk st (by omega) S;have hlx:(s++tx [c]++t).data.toList=s.data.toList++[c]++t.data.toList:=by simp only[dj,aK]
   have hxz:(s++tx [c]++t).size≤1000:=by rw[←aw,hlx];simp only[Rk,Sg,aw];omega
   have hnx:=fun S=>jL w0 hk (s++tx [c]++t) (by omega) S;rw[hlx]at hnx;have hne:=fun S=>jL w0 hk ⟨#[]⟩ (by decide) S;rw[show(⟨#[]⟩:ByteArray).data.toList=[]from rfl,aS Gj]at hne;have hnot:=@Gp _ _ hs ht c
   have hbe:(pB (bL st.data.toList)==decide ((pre.length:Int)≤12))=true:=by
    by_cases hq:bL st.data.toList
    ·rw[aI hq,decide_eq_true (by have:=hN.1 hq;omega)];rfl
    ·rw[aS hq,decide_eq_false (fun h=>hq (hN.2 (by omega)))];rfl
   have hz1:s.size+(tx [c]).size≤9223372036854775807:=by rw[aP,Sg];omega
   have hz2:s.size+(tx [c]).size+t.size≤9223372036854775807:=by rw[aP,Sg];omega
   rw[hST];refine⟨fun a1=>⟨fun a2=>?_,fun a2=>⟨fun a3=>?_,fun a3=>?_⟩⟩,fun a1=>⟨fun a3=>?_,fun a3=>?_⟩⟩
   all_goals
    refine⟨e2,by omega,aq (hnp _) ?_⟩;simp(maxDischargeDepth:=12) (maxSteps:=1000000) -implicitDefEqProofs only[go_sem,Nat.reduceAdd,Nat.reduceSub,Nat.reduceMul,Nat.reduceLeDiff,Nat.reduceEqDiff,Nat.reduceGT,Nat.reduceBEq,reduceCtorEq,↓reduceIte,Int.reduceToNat,Int.reduceLE,Int.reduceLT,Int.reduceNe,Int.reduceEq,e0];refine⟨fun _=>?_,fun h=>absurd (hbe.symm.trans h) (by decide)⟩
   ·exact aq (hne _) (by simp(maxDischargeDepth:=12) (maxSteps:=1000000) -implicitDefEqProofs only[go_sem,Nat.reduceAdd,Nat.reduceSub,Nat.reduceMul,Nat.reduceLeDiff,Nat.reduceEqDiff,Nat.reduceGT,Nat.reduceBEq,reduceCtorEq,↓reduceIte,Int.reduceToNat,Int.reduceLE,Int.reduceLT,Int.reduceNe,Int.reduceEq])
   ·refine⟨fun h=>absurd h (by omega),fun _=>⟨hz1,hz2,?_⟩⟩;rw[aS (hnot (by omega))]at hnx;refine aq (hnx _) ?_;simp(maxDischargeDepth:=12) (maxSteps:=1000000) -implicitDefEqProofs only[go_sem,Nat.reduceAdd,Nat.reduceSub,Nat.reduceMul,Nat.reduceLeDiff,Nat.reduceEqDiff,Nat.reduceGT,Nat.reduceBEq,reduceCtorEq,↓reduceIte,Int.reduceToNat,Int.reduceLE,Int.reduceLT,Int.reduceNe,Int.reduceEq];exact aq (hne _) (by simp(maxDischargeDepth:=12) (maxSteps:=1000000) -implicitDefEqProofs only[go_sem,Nat.reduceAdd,Nat.reduceSub,Nat.reduceMul,Nat.reduceLeDiff,Nat.reduceEqDiff,Nat.reduceGT,Nat.reduceBEq,reduceCtorEq,↓reduceIte,Int.reduceToNat,Int.reduceLE,Int.reduceLT,Int.reduceNe,Int.reduceEq])
   ·omega
   ·refine⟨fun h=>aq (hne _) (by simp(maxDischargeDepth:=12) (maxSteps:=1000000) -implicitDefEqProofs only[go_sem,Nat.reduceAdd,Nat.reduceSub,Nat.reduceMul,Nat.reduceLeDiff,Nat.reduceEqDiff,Nat.reduceGT,Nat.reduceBEq,reduceCtorEq,↓reduceIte,Int.reduceToNat,Int.reduceLE,Int.reduceLT,Int.reduceNe,Int.reduceEq]),fun _=>⟨hz1,hz2,?_⟩⟩;rw[aS (hnot (by omega))]at hnx;refine aq (hnx _) ?_;simp(maxDischargeDepth:=12) (maxSteps:=1000000) -implicitDefEqProofs only[go_sem,Nat.reduceAdd,Nat.reduceSub,Nat.reduceMul,Nat.reduceLeDiff,Nat.reduceEqDiff,Nat.reduceGT,Nat.reduceBEq,reduceCtorEq,↓reduceIte,Int.reduceToNat,Int.reduceLE,Int.reduceLT,Int.reduceNe,Int.reduceEq];exact aq (hne _) (by simp(maxDischargeDepth:=12) (maxSteps:=1000000) -implicitDefEqProofs only[go_sem,Nat.reduceAdd,Nat.reduceSub,Nat.reduceMul,Nat.reduceLeDiff,Nat.reduceEqDiff,Nat.reduceGT,Nat.reduceBEq,reduceCtorEq,↓reduceIte,Int.reduceToNat,Int.reduceLE,Int.reduceLT,Int.reduceNe,Int.reduceEq])
   ·refine⟨hz1,hz2,?_⟩;rw[aS (hnot (by omega))]at hnx;refine aq (hnx _) ?_;simp(maxDischargeDepth:=12) (maxSteps:=1000000) -implicitDefEqProofs only[go_sem,Nat.reduceAdd,Nat.reduceSub,Nat.reduceMul,Nat.reduceLeDiff,Nat.reduceEqDiff,Nat.reduceGT,Nat.reduceBEq,reduceCtorEq,↓reduceIte,Int.reduceToNat,Int.reduceLE,Int.reduceLT,Int.reduceNe,Int.reduceEq];exact aq (hne _) (by simp(maxDischargeDepth:=12) (maxSteps:=1000000) -implicitDefEqProofs only[go_sem,Nat.reduceAdd,Nat.reduceSub,Nat.reduceMul,Nat.reduceLeDiff,Nat.reduceEqDiff,Nat.reduceGT,Nat.reduceBEq,reduceCtorEq,↓reduceIte,Int.reduceToNat,Int.reduceLE,Int.reduceLT,Int.reduceNe,Int.reduceEq])
  ·have h1:=fH (L:=st.data.toList) (k:=k) (by omega);have h2:=mJ (L:=st.data.toList) (k:=k) (by omega);generalize hD:dl (st.data.toList.drop k)=D at h1 h2;change Lib.decodeL _=D at hD;rw[hD];obtain⟨x,n⟩:=D;dsimp only at h1 h2 ⊢;refine⟨(k+n,pre++[(x,(st.data.toList.drop k).take n)]),⟨by dsimp only;omega,?_⟩,by dsimp only;omega,?_,.refl _⟩
   ·dsimp only;rw[RJ,S9,←h1];exact hpre
   ·rw[kx (by omega) (by omega)];simp
end Go.Proofs.YtiihljlagmmljaaGreatDoor
