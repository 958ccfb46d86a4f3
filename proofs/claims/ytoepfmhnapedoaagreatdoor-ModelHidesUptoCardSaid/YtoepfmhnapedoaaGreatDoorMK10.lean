/-
  Part 10 of the proof that the last text ends: from 'Declassify' to 'Which call does a kind'. By an AI agent.
-/
import Derived.Test.YtoepfmhnapedoaaGreatDoorMK9
set_option linter.unusedVariables false
set_option linter.unusedSimpArgs false
set_option maxRecDepth 100000
set_option maxHeartbeats 16000000
namespace Go.Proofs.YtoepfmhnapedoaaGreatDoor
open Aml Go Rn Lat Grs
section
variable {w0:W0} {S:St} {g:MG} {N:Nat} {c:Cf} {μ:bq} {w own:Nat} {o:bp} {full:Bool}
theorem uB(hI:MI S g N c μ){x bt:Nat}(hx2:g.ls[x]? =some bt){lt:tC}(hlt:μ.l[x]? =some lt){tb tr:Nat}{tids:List UInt8→Option Nat}{tdr:DV}(t1:lk S.box bt=some (lK tb (.acc tr lt.au.length) lt.has tdr))(t2:BM S tb N tids lt.F)(t3:FZ g.own (.b x) tb tids)(t5:g.own tr= .au x)
 (h0:lt.has=0) {n:List UInt8} {j:Nat} (hj:tids n=some j) {fg:List UInt8→Option (List UInt8)} (hfg:lt.F n=some fg) {es2:List (Value×DV×Nat)} {cl2:Nat} (k1:lk S.acc j=some (.xo (.mp .str es2 cl2))) (k v:List UInt8) (rec:C0) {X X0:Ob} (hX0:lk S.acc tr=some X0) (hX:X= .arr 6 ((lt.au++[rec]).map sx)∨X= .tl 6 ((lt.au++[rec]).map sx)):
 MI ⟨up S.box bt (lK tb (.acc tr (lt.au.length+1)) lt.has tdr),up (up S.acc j (.xo (.mp .str (cX es2 cl2 (kT k) (eY v)) (eV es2 cl2 (kT k))))) tr X⟩ g (N+1) c ⟨μ.l.set x {lt with F:=fM lt.F n (fun i=>if i=k then some v else fg i),au:=lt.au++[rec]},μ.r,μ.sn⟩∧gF S ⟨up S.box bt (lK tb (.acc tr (lt.au.length+1)) lt.has tdr),up (up S.acc j (.xo (.mp .str (cX es2 cl2 (kT k) (eY v)) (eV es2 cl2 (kT k))))) tr X⟩ g g:=by
 have oj:=t3.2 _ _ hj;have hB':=FH t2 hj hfg k1 k v
 have hk:∀(Y:Ob) i w,g.own i≠ .b x→g.own i≠ .au x→lk S.acc i=some w→lk (up (up S.acc j Y) tr X) i=some w:=fun Y i w q1 q2 q3=>by
  rw[ab (fun e=>q2 (by rw[←e];exact t5)),ab (fun e=>q1 (by rw[←e];exact oj))];exact q3
 have hr:∀Y,lk (up (up S.acc j Y) tr X) tr=some X:=fun Y=>cE (by rw[ab (fun e=>by rw[e,t5]at oj;cases oj)];exact hX0);have hne:∀i,(g.own i).own x→g.own i≠ .no:=fun i q e=>by rw[e]at q;exact q
 refine⟨hI.BA (XA N) hx2 g.own {lt with F:=fM lt.F n (fun i=>if i=k then some v else fg i),au:=lt.au++[rec]} (fun i w q1 q2=>by show lk (up _ _ _) _=_;rw[ab (Yd q1)];exact q2) (fun _ _ _=>rfl) (fun i w _ q2 q3=>hk _ i w (fun e=>q2 (by rw[e];exact rfl)) (fun e=>q2 (by rw[e];exact rfl)) q3) ⟨tb,tids,tr,tdr,?_,?_,t3,?_,t5,fun q=>absurd h0 q⟩ fun i q=>eO (eO (hI.lx i q)),rfl,?_,fun i w q1 q2=>hk _ i w (by rw[q1];simp) (by rw[q1];simp) q2,fun i q=> .inl q,fun i q=> .inl q⟩
 ·show lk (up _ _ _) bt=_;rw[cE t1,Xj];rfl
 ·refine iO (S:=⟨S.box,up S.acc j (.xo (.mp .str (cX es2 cl2 (kT k) (eY v)) (eV es2 cl2 (kT k))))⟩) hB' t3 fun i w e q=>?_;show lk (up _ _ _) i=_;rw[ab (fun r=>by rw[←r,t5]at e;cases e)];exact q
 ·unfold OZ;rw[hr];exact hX.imp (fun e=>by rw[e]) fun e=>by rw[e]
 ·intro i w q1 q2;show lk (up _ _ _) i=_;rw[ab (fun e=>q1 (by rw[←e];have:=W7 hx2;simp[MG.bx,this]))];exact q2
theorem PB(hg:kW w0)(hI:MI S g N c μ)(hM:iN N c μ)(hgr:c.gr.length≤1048576)(hN:N≤10000)(hw:lY S g w own o full)(hq:∀e,ey eH c μ o full= .inl e→wG w0 S g N c μ e):aa Tryz.prog w0 83 [bz w] S (kG S g (N+1) c (ey eH c μ o full)):=by
 have hwk:=hw.k;have hmd:=hI.md;have hlen:=hI.len;have hnl:=hM.nl;refine mv [2,5,7,10] mx Tryz.func83 rfl rfl (by kernel_rfl) ?_;simp(maxDischargeDepth:=12) (maxSteps:=1000000) -implicitDefEqProofs only[Tryz.ntmps83,go_sem,Nat.reduceAdd,Nat.reduceSub,Nat.reduceMul,Nat.reduceLeDiff,Nat.reduceEqDiff,Nat.reduceGT,Nat.reduceBEq,reduceCtorEq,↓reduceIte,Int.reduceToNat,Int.reduceLE,Int.reduceLT,Int.reduceNe,Int.reduceEq];intro b2;have hw2:(b2.n=w)=False:=eq_false fun e=>by have:=ak b2;rw[e,hwk]at this;cases this
 have hm2:(b2.n=g.m)=False:=eq_false fun e=>by have:=ak b2;rw[e,hmd]at this;cases this
 simp(maxDischargeDepth:=12) (maxSteps:=1000000) -implicitDefEqProofs only[go_sem,Nat.reduceAdd,Nat.reduceSub,Nat.reduceMul,Nat.reduceLeDiff,Nat.reduceEqDiff,Nat.reduceGT,Nat.reduceBEq,reduceCtorEq,↓reduceIte,Int.reduceToNat,Int.reduceLE,Int.reduceLT,Int.reduceNe,Int.reduceEq,hwk,hw2];intro b3;have n1:=aw b3 b2.n (by simp(maxDischargeDepth:=12) (maxSteps:=1000000) -implicitDefEqProofs only[go_sem,Nat.reduceAdd,Nat.reduceSub,Nat.reduceMul,Nat.reduceLeDiff,Nat.reduceEqDiff,Nat.reduceGT,Nat.reduceBEq,reduceCtorEq,↓reduceIte,Int.reduceToNat,Int.reduceLE,Int.reduceLT,Int.reduceNe,Int.reduceEq]);have hw3:(b3.n=w)=False:=aw b3 w (by simp(maxDischargeDepth:=12) (maxSteps:=1000000) -implicitDefEqProofs only[go_sem,Nat.reduceAdd,Nat.reduceSub,Nat.reduceMul,Nat.reduceLeDiff,Nat.reduceEqDiff,Nat.reduceGT,Nat.reduceBEq,reduceCtorEq,↓reduceIte,Int.reduceToNat,Int.reduceLE,Int.reduceLT,Int.reduceNe,Int.reduceEq,hw2,hwk]);have hm3:(b3.n=g.m)=False:=aw b3 g.m (by simp(maxDischargeDepth:=12) (maxSteps:=1000000) -implicitDefEqProofs only[go_sem,Nat.reduceAdd,Nat.reduceSub,Nat.reduceMul,Nat.reduceLeDiff,Nat.reduceEqDiff,Nat.reduceGT,Nat.reduceBEq,reduceCtorEq,↓reduceIte,Int.reduceToNat,Int.reduceLE,Int.reduceLT,Int.reduceNe,Int.reduceEq,hm2,hmd]);have hH:∀ds,Has S ⟨(b3.n,ds)::(b2.n,[dI 0,dI 0,.sl 0 true [],dI 0,dI 0,dI 0,dI 0,.sl 0 true []])::S.box,S.acc⟩:=fun ds=>⟨fun b x q=>ai (ak b3) (ai (ak b2) q),fun _ _ q=>q⟩;refine⟨rfl,?_⟩;refine Y.iR [] [28] [0,1,2,3,4,5,6,7,8,9,10,11,12,13,19,21,23,14,15,16,17,18,20,22,24,25,26,27,28] mx (by kernel_rfl) ?_;simp(maxDischargeDepth:=12) (maxSteps:=1000000) -implicitDefEqProofs only[go_sem,Nat.reduceAdd,Nat.reduceSub,Nat.reduceMul,Nat.reduceLeDiff,Nat.reduceEqDiff,Nat.reduceGT,Nat.reduceBEq,reduceCtorEq,↓reduceIte,Int.reduceToNat,Int.reduceLE,Int.reduceLT,Int.reduceNe,Int.reduceEq,hwk,hw2,hw3,n1,hmd,hm2,hm3];refine Y.lg (fun T hT=>nw _ (hT.box _ _ ((hH _).box _ _ hwk)) (hT.box _ _ ((hH _).box _ _ hmd)) hI.up o.label) ?_;by_cases hA:cR c.up o.label o.level=true∧cR c.up o.dQ o.level=true∧(⟨o.level,o.label,o.dQ⟩:G)∈c.gr
 case neg=>
  have h31:∀T,Has S T→mu w0 T 31:=fun T hT=>((hq 31 (by unfold ey;rw[if_pos hA])).er hI).to hT
  cases hl1:cR c.up o.label o.level with
  |false=>
   simp(maxDischargeDepth:=12) (maxSteps:=1000000) -implicitDefEqProofs only[go_sem,Nat.reduceAdd,Nat.reduceSub,Nat.reduceMul,Nat.reduceLeDiff,Nat.reduceEqDiff,Nat.reduceGT,Nat.reduceBEq,reduceCtorEq,↓reduceIte,Int.reduceToNat,Int.reduceLE,Int.reduceLT,Int.reduceNe,Int.reduceEq,hwk,hw2,hw3,n1,hmd,hm2,hm3];refine an (aB w0 false 31 _ fun _=>h31 _ (hH _)) ?_;rintro _ _ ⟨q,_⟩;cases q
  |true=>
   simp(maxDischargeDepth:=12) (maxSteps:=1000000) -implicitDefEqProofs only[go_sem,Nat.reduceAdd,Nat.reduceSub,Nat.reduceMul,Nat.reduceLeDiff,Nat.reduceEqDiff,Nat.reduceGT,Nat.reduceBEq,reduceCtorEq,↓reduceIte,Int.reduceToNat,Int.reduceLE,Int.reduceLT,Int.reduceNe,Int.reduceEq,hwk,hw2,hw3,n1,hmd,hm2,hm3];refine Y.lg (fun T hT=>nw _ (hT.box _ _ ((hH _).box _ _ hwk)) (hT.box _ _ ((hH _).box _ _ hmd)) hI.up o.dQ) ?_
   cases hl2:cR c.up o.dQ o.level with
   |false=>
    simp(maxDischargeDepth:=12) (maxSteps:=1000000) -implicitDefEqProofs only[go_sem,Nat.reduceAdd,Nat.reduceSub,Nat.reduceMul,Nat.reduceLeDiff,Nat.reduceEqDiff,Nat.reduceGT,Nat.reduceBEq,reduceCtorEq,↓reduceIte,Int.reduceToNat,Int.reduceLE,Int.reduceLT,Int.reduceNe,Int.reduceEq,hwk,hw2,hw3,n1,hmd,hm2,hm3];refine an (aB w0 false 31 _ fun _=>h31 _ (hH _)) ?_;rintro _ _ ⟨q,_⟩;cases q
   |true=>
    simp(maxDischargeDepth:=12) (maxSteps:=1000000) -implicitDefEqProofs only[go_sem,Nat.reduceAdd,Nat.reduceSub,Nat.reduceMul,Nat.reduceLeDiff,Nat.reduceEqDiff,Nat.reduceGT,Nat.reduceBEq,reduceCtorEq,↓reduceIte,Int.reduceToNat,Int.reduceLE,Int.reduceLT,Int.reduceNe,Int.reduceEq,hwk,hw2,hw3,n1,hmd,hm2,hm3];refine Y.lg (fun T hT=>Rj w0 c.gr ⟨o.level,o.label,o.dQ⟩ (by omega) T) ?_;rw[decide_eq_false (fun q=>hA ⟨hl1,hl2,q⟩)];simp(maxDischargeDepth:=12) (maxSteps:=1000000) -implicitDefEqProofs only[go_sem,Nat.reduceAdd,Nat.reduceSub,Nat.reduceMul,Nat.reduceLeDiff,Nat.reduceEqDiff,Nat.reduceGT,Nat.reduceBEq,reduceCtorEq,↓reduceIte,Int.reduceToNat,Int.reduceLE,Int.reduceLT,Int.reduceNe,Int.reduceEq,hwk,hw2,hw3,n1,hmd,hm2,hm3];refine an (aB w0 false 31 _ fun _=>h31 _ (hH _)) ?_;rintro _ _ ⟨q,_⟩;cases q
 obtain⟨hl1,hl2,hmem⟩:=hA;rw[hl1];simp(maxDischargeDepth:=12) (maxSteps:=1000000) -implicitDefEqProofs only[go_sem,Nat.reduceAdd,Nat.reduceSub,Nat.reduceMul,Nat.reduceLeDiff,Nat.reduceEqDiff,Nat.reduceGT,Nat.reduceBEq,reduceCtorEq,↓reduceIte,Int.reduceToNat,Int.reduceLE,Int.reduceLT,Int.reduceNe,Int.reduceEq,hwk,hw2,hw3,n1,hmd,hm2,hm3];refine Y.lg (fun T hT=>nw _ (hT.box _ _ ((hH _).box _ _ hwk)) (hT.box _ _ ((hH _).box _ _ hmd)) hI.up o.dQ) ?_;rw[hl2];simp(maxDischargeDepth:=12) (maxSteps:=1000000) -implicitDefEqProofs only[go_sem,Nat.reduceAdd,Nat.reduceSub,Nat.reduceMul,Nat.reduceLeDiff,Nat.reduceEqDiff,Nat.reduceGT,Nat.reduceBEq,reduceCtorEq,↓reduceIte,Int.reduceToNat,Int.reduceLE,Int.reduceLT,Int.reduceNe,Int.reduceEq,hwk,hw2,hw3,n1,hmd,hm2,hm3];refine Y.lg (fun T hT=>Rj w0 c.gr ⟨o.level,o.label,o.dQ⟩ (by omega) T) ?_;rw[decide_eq_true hmem];simp(maxDischargeDepth:=12) (maxSteps:=1000000) -implicitDefEqProofs only[go_sem,Nat.reduceAdd,Nat.reduceSub,Nat.reduceMul,Nat.reduceLeDiff,Nat.reduceEqDiff,Nat.reduceGT,Nat.reduceBEq,reduceCtorEq,↓reduceIte,Int.reduceToNat,Int.reduceLE,Int.reduceLT,Int.reduceNe,Int.reduceEq,hwk,hw2,hw3,n1,hmd,hm2,hm3];refine an (aB w0 true 31 _ fun h=>by cases h) ?_;rintro _ _ ⟨_,rfl,rfl⟩;obtain⟨hp1,hlt1⟩:=xV hl1;obtain⟨hp2,hlt2⟩:=xV hl2;have hx1:g.ls[o.label.toNat]? =some (g.ls[o.label.toNat]'(by omega)):=W5 _;generalize g.ls[o.label.toNat]'(by omega)=bf at hx1;have hx2:g.ls[o.dQ.toNat]? =some (g.ls[o.dQ.toNat]'(by omega)):=W5 _;generalize g.ls[o.dQ.toNat]'(by omega)=bt at hx2;obtain⟨lf,hlf,fb,fids,fr,fdr,f1,f2,f3,f4,f5,f6⟩:=hI.ri hx1;obtain⟨lt,hlt,tb,tids,tr,tdr,t1,t2,t3,t4,t5,t6⟩:=hI.ri hx2;have ef:=bh hlf hp1;have et:=bh hlt hp2;have hf2:(b2.n=bf)=False:=eq_false fun e=>by have:=ak b2;rw[e,f1]at this;cases this
 have hf3:(b3.n=bf)=False:=aw b3 bf (by simp(maxDischargeDepth:=12) (maxSteps:=1000000) -implicitDefEqProofs only[go_sem,Nat.reduceAdd,Nat.reduceSub,Nat.reduceMul,Nat.reduceLeDiff,Nat.reduceEqDiff,Nat.reduceGT,Nat.reduceBEq,reduceCtorEq,↓reduceIte,Int.reduceToNat,Int.reduceLE,Int.reduceLT,Int.reduceNe,Int.reduceEq,hf2,f1]);have ht2:(b2.n=bt)=False:=eq_false fun e=>by have:=ak b2;rw[e,t1]at this;cases this
 have ht3:(b3.n=bt)=False:=aw b3 bt (by simp(maxDischargeDepth:=12) (maxSteps:=1000000) -implicitDefEqProofs only[go_sem,Nat.reduceAdd,Nat.reduceSub,Nat.reduceMul,Nat.reduceLeDiff,Nat.reduceEqDiff,Nat.reduceGT,Nat.reduceBEq,reduceCtorEq,↓reduceIte,Int.reduceToNat,Int.reduceLE,Int.reduceLT,Int.reduceNe,Int.reduceEq,ht2,t1]);have fB:BM ⟨(b3.n,[dI o.kind,dI o.level,dI o.aC,dI o.snap,dS (tx o.bucket),dS (tx o.key),dS (tx o.value),dI o.label,dI o.dQ,dI o.n,.sl 1 false (aA o.ba)])::(b2.n,[dI 0,dI 0,.sl 0 true [],dI 0,dI 0,dI 0,dI 0,.sl 0 true []])::S.box,S.acc⟩ fb N fids lf.F:=jd f2 rfl;have tB:BM ⟨(b3.n,[dI o.kind,dI o.level,dI o.aC,dI o.snap,dS (tx o.bucket),dS (tx o.key),dS (tx o.value),dI o.label,dI o.dQ,dI o.n,.sl 1 false (aA o.ba)])::(b2.n,[dI 0,dI 0,.sl 0 true [],dI 0,dI 0,dI 0,dI 0,.sl 0 true []])::S.box,S.acc⟩ tb N tids lt.F:=jd t2 rfl;have hA':cR c.up o.label o.level=true∧cR c.up o.dQ o.level=true∧(⟨o.level,o.label,o.dQ⟩:G)∈c.gr:=⟨hl1,hl2,hmem⟩;simp(maxDischargeDepth:=12) (maxSteps:=1000000) -implicitDefEqProofs only[go_sem,Nat.reduceAdd,Nat.reduceSub,Nat.reduceMul,Nat.reduceLeDiff,Nat.reduceEqDiff,Nat.reduceGT,Nat.reduceBEq,reduceCtorEq,↓reduceIte,Int.reduceToNat,Int.reduceLE,Int.reduceLT,Int.reduceNe,Int.reduceEq,hwk,hw2,hw3,n1,hmd,hm2,hm3,hx1,hx2,t1,ht2,ht3];refine⟨hp2,by omega,?_⟩;by_cases h0:lt.has=0
 case neg=>
  rw[decide_eq_false h0];refine an (aB w0 false 36 _ fun _=>((hq 36 (by unfold ey;rw[if_neg (fun q=>q hA')];simp only[et];rw[if_pos h0])).er hI).to (hH _)) ?_;rintro _ _ ⟨q,_⟩;cases q
 rw[decide_eq_true h0];refine an (aB w0 true 36 _ fun h=>by cases h) ?_;rintro _ _ ⟨_,rfl,rfl⟩;simp(maxDischargeDepth:=12) (maxSteps:=1000000) -implicitDefEqProofs only[go_sem,Nat.reduceAdd,Nat.reduceSub,Nat.reduceMul,Nat.reduceLeDiff,Nat.reduceEqDiff,Nat.reduceGT,Nat.reduceBEq,reduceCtorEq,↓reduceIte,Int.reduceToNat,Int.reduceLE,Int.reduceLT,Int.reduceNe,Int.reduceEq];refine Y.iR [16] [] [0,1,2,7,14,17,3,4,5,6,8,9,10,11,12,13,15,18,16,19,20,21,22,23,24] mx (by kernel_rfl) ?_;simp(maxDischargeDepth:=12) (maxSteps:=1000000) -implicitDefEqProofs only[go_sem,Nat.reduceAdd,Nat.reduceSub,Nat.reduceMul,Nat.reduceLeDiff,Nat.reduceEqDiff,Nat.reduceGT,Nat.reduceBEq,reduceCtorEq,↓reduceIte,Int.reduceToNat,Int.reduceLE,Int.reduceLT,Int.reduceNe,Int.reduceEq,hwk,hw2,hw3,n1,hmd,hm2,hm3,hx1,hx2,f1,hf2,hf3];refine⟨hp1,by omega,?_⟩;refine an (mf w0 fB o.bucket fun h=>((hq 32 (by unfold ey;rw[if_neg (fun q=>q hA')];simp only[et,ef];rw[if_neg (fun q=>q h0),(f2.some_ _).1 h])).er hI).to (hH _)) ?_;rintro _ _ ⟨i,hi,rfl,rfl⟩;obtain⟨f,hf⟩:=ij f2 hi;obtain⟨es,cl,g1,g2,g3⟩:=f2.low o.bucket i f hi hf;have g3k:=g3 o.key;unfold kT at g3k;simp(maxDischargeDepth:=12) (maxSteps:=1000000) -implicitDefEqProofs only[go_sem,Nat.reduceAdd,Nat.reduceSub,Nat.reduceMul,Nat.reduceLeDiff,Nat.reduceEqDiff,Nat.reduceGT,Nat.reduceBEq,reduceCtorEq,↓reduceIte,Int.reduceToNat,Int.reduceLE,Int.reduceLT,Int.reduceNe,Int.reduceEq,hwk,hw2,hw3,n1,g1]
 cases hv:f o.key with
 |none=>
  rw[hv]at g3k;simp(maxDischargeDepth:=12) (maxSteps:=1000000) -implicitDefEqProofs only[go_sem,Nat.reduceAdd,Nat.reduceSub,Nat.reduceMul,Nat.reduceLeDiff,Nat.reduceEqDiff,Nat.reduceGT,Nat.reduceBEq,reduceCtorEq,↓reduceIte,Int.reduceToNat,Int.reduceLE,Int.reduceLT,Int.reduceNe,Int.reduceEq,g3k];refine an (aB w0 false 33 _ fun _=>((hq 33 (by unfold ey;rw[if_neg (fun q=>q hA')];simp only[et,ef];rw[if_neg (fun q=>q h0),hf];simp only[hv])).er hI).to (hH _)) ?_;rintro _ _ ⟨q,_⟩;cases q
 |some v=>
 rw[hv]at g3k;simp(maxDischargeDepth:=12) (maxSteps:=1000000) -implicitDefEqProofs only[go_sem,Nat.reduceAdd,Nat.reduceSub,Nat.reduceMul,Nat.reduceLeDiff,Nat.reduceEqDiff,Nat.reduceGT,Nat.reduceBEq,reduceCtorEq,↓reduceIte,Int.reduceToNat,Int.reduceLE,Int.reduceLT,Int.reduceNe,Int.reduceEq,g3k];refine an (aB w0 true 33 _ fun h=>by cases h) ?_;rintro _ _ ⟨_,rfl,rfl⟩;simp(maxDischargeDepth:=12) (maxSteps:=1000000) -implicitDefEqProofs only[go_sem,Nat.reduceAdd,Nat.reduceSub,Nat.reduceMul,Nat.reduceLeDiff,Nat.reduceEqDiff,Nat.reduceGT,Nat.reduceBEq,reduceCtorEq,↓reduceIte,Int.reduceToNat,Int.reduceLE,Int.reduceLT,Int.reduceNe,Int.reduceEq];refine Y.iR [6] [] [0,1,2,4,3,5,6,7] mx (by kernel_rfl) ?_;simp(maxDischargeDepth:=12) (maxSteps:=1000000) -implicitDefEqProofs only[go_sem,Nat.reduceAdd,Nat.reduceSub,Nat.reduceMul,Nat.reduceLeDiff,Nat.reduceEqDiff,Nat.reduceGT,Nat.reduceBEq,reduceCtorEq,↓reduceIte,Int.reduceToNat,Int.reduceLE,Int.reduceLT,Int.reduceNe,Int.reduceEq,n1,t1,ht2,ht3];refine an (mf w0 tB o.bucket fun h=>((hq 32 (by unfold ey;rw[if_neg (fun q=>q hA')];simp only[et,ef];rw[if_neg (fun q=>q h0),hf];simp only[hv];rw[(t2.some_ _).1 h])).er hI).to (hH _)) ?_;rintro _ _ ⟨j,hj,rfl,rfl⟩;obtain⟨fg,hfg⟩:=ij t2 hj;obtain⟨es2,cl2,k1,k2,k3⟩:=t2.low o.bucket j fg hj hfg;simp(maxDischargeDepth:=12) (maxSteps:=1000000) -implicitDefEqProofs only[go_sem,Nat.reduceAdd,Nat.reduceSub,Nat.reduceMul,Nat.reduceLeDiff,Nat.reduceEqDiff,Nat.reduceGT,Nat.reduceBEq,reduceCtorEq,↓reduceIte,Int.reduceToNat,Int.reduceLE,Int.reduceLT,Int.reduceNe,Int.reduceEq,hwk,hw2,hw3,n1]
 cases full with
 |true=>
  refine an (aB w0 false 37 _ fun _=>((hq 37 (by unfold ey;rw[if_neg (fun q=>q hA')];simp only[et,ef];rw[if_neg (fun q=>q h0),hf];simp only[hv];rw[hfg];rfl)).er hI).to (hH _)) ?_;rintro _ _ ⟨q,_⟩;cases q
 |false=>
 refine an (aB w0 true 37 _ fun h=>by cases h) ?_;rintro _ _ ⟨_,rfl,rfl⟩;simp(maxDischargeDepth:=12) (maxSteps:=1000000) -implicitDefEqProofs only[go_sem,Nat.reduceAdd,Nat.reduceSub,Nat.reduceMul,Nat.reduceLeDiff,Nat.reduceEqDiff,Nat.reduceGT,Nat.reduceBEq,reduceCtorEq,↓reduceIte,Int.reduceToNat,Int.reduceLE,Int.reduceLT,Int.reduceNe,Int.reduceEq,n1,k1];have hvl:v.length≤1048576:=by have:=(((hM.sz lf (W7 hlf)).1 o.bucket f hf).2 o.key v hv).2;omega
 have hau:=hM.au lt (W7 hlt);have hjr:(j=tr)=False:=eq_false fun e=>by have:=t3.2 _ _ hj;rw[e,t5]at this;cases this
 have hm8:maxLen=9223372036854775807:=rfl;have ew:IntKind.i64.wrap (((lt.au.length+1:Nat):Int)-1)=(lt.au.length:Int):=by rw[oD (by omega) (by omega)];omega
 rcases t4 with t4|t4
 ·refine Y.iR [] [19,22] [0,1,2,3,5,7,9,11,13,15,4,6,8,10,12,14,16,17,18,19,20,21,22] mx (by kernel_rfl) ?_;simp(maxDischargeDepth:=12) (maxSteps:=1000000) -implicitDefEqProofs only[go_sem,Nat.reduceAdd,Nat.reduceSub,Nat.reduceMul,Nat.reduceLeDiff,Nat.reduceEqDiff,Nat.reduceGT,Nat.reduceBEq,reduceCtorEq,↓reduceIte,Int.reduceToNat,Int.reduceLE,Int.reduceLT,Int.reduceNe,Int.reduceEq,n1,t1,ht2,ht3];refine Y.lg (fun T hT=>Pm w0 hg v hvl T) ?_;simp(maxDischargeDepth:=12) (maxSteps:=1000000) -implicitDefEqProofs only[go_sem,Nat.reduceAdd,Nat.reduceSub,Nat.reduceMul,Nat.reduceLeDiff,Nat.reduceEqDiff,Nat.reduceGT,Nat.reduceBEq,reduceCtorEq,↓reduceIte,Int.reduceToNat,Int.reduceLE,Int.reduceLT,Int.reduceNe,Int.reduceEq,n1,t1,ht2,ht3,t4,hjr,hm8];refine⟨by omega,by omega,?_⟩;rw[ew];obtain⟨e1,e2⟩:=uB hI hx2 hlt t1 t2 t3 t5 h0 hj hfg k1 o.key v ⟨o.level,o.label,o.dQ,o.bucket,o.key,eH v⟩ t4 (X:= .arr 6 ((lt.au++[(⟨o.level,o.label,o.dQ,o.bucket,o.key,eH v⟩:C0)]).map sx)) (.inl rfl);rw[Xw]at e1 e2;exact⟨_,_,.refl _,.aP (.aP (.refl _)),C1 lt.au.length,_,g,by unfold ey;rw[if_neg (fun q=>q hA')];simp only[et,ef];rw[if_neg (fun q=>q h0),hf];simp only[hv];rw[hfg];rfl,.agg ⟨.refl _,.refl _,.nil _ _ _,.refl _,.refl _,.refl _,.refl _,.nil _ _ _,trivial⟩,e1,e2⟩
 ·refine Y.iR [] [19,22] [0,1,2,3,5,7,9,11,13,15,4,6,8,10,12,14,16,17,18,19,20,21,22] mx (by kernel_rfl) ?_;simp(maxDischargeDepth:=12) (maxSteps:=1000000) -implicitDefEqProofs only[go_sem,Nat.reduceAdd,Nat.reduceSub,Nat.reduceMul,Nat.reduceLeDiff,Nat.reduceEqDiff,Nat.reduceGT,Nat.reduceBEq,reduceCtorEq,↓reduceIte,Int.reduceToNat,Int.reduceLE,Int.reduceLT,Int.reduceNe,Int.reduceEq,n1,t1,ht2,ht3];refine Y.lg (fun T hT=>Pm w0 hg v hvl T) ?_;simp(maxDischargeDepth:=12) (maxSteps:=1000000) -implicitDefEqProofs only[go_sem,Nat.reduceAdd,Nat.reduceSub,Nat.reduceMul,Nat.reduceLeDiff,Nat.reduceEqDiff,Nat.reduceGT,Nat.reduceBEq,reduceCtorEq,↓reduceIte,Int.reduceToNat,Int.reduceLE,Int.reduceLT,Int.reduceNe,Int.reduceEq,n1,t1,ht2,ht3,t4,hjr,hm8];refine⟨by omega,by omega,?_⟩;rw[ew];obtain⟨e1,e2⟩:=uB hI hx2 hlt t1 t2 t3 t5 h0 hj hfg k1 o.key v ⟨o.level,o.label,o.dQ,o.bucket,o.key,eH v⟩ t4 (X:= .tl 6 ((lt.au++[(⟨o.level,o.label,o.dQ,o.bucket,o.key,eH v⟩:C0)]).map sx)) (.inr rfl);rw[Xw]at e1 e2;exact⟨_,_,.refl _,.aP (.aP (.refl _)),C1 lt.au.length,_,g,by unfold ey;rw[if_neg (fun q=>q hA')];simp only[et,ef];rw[if_neg (fun q=>q h0),hf];simp only[hv];rw[hfg];rfl,.agg ⟨.refl _,.refl _,.nil _ _ _,.refl _,.refl _,.refl _,.refl _,.nil _ _ _,trivial⟩,e1,e2⟩
end
end Go.Proofs.YtoepfmhnapedoaaGreatDoor
namespace Go.Proofs.YtoepfmhnapedoaaGreatDoor
open Aml Go Rn Lat Grs
theorem MI.Qh{S S':St}{g:MG}{N M:Nat}{c:Cf}{μ:bq}(h:MI S g N c μ)(hNM:N≤M)(own':Nat→Ow)(ls':List tC)(hlen:ls'.length=μ.l.length)(hb:∀i v,i∉g.ls→lk S.box i=some v→lk S'.box i=some v)(ha:S'.acc=S.acc)
 (ho:∀i,(∀x,¬(g.own i).own x)→own' i=g.own i) (hlb:∀(x:Nat) bx l,g.ls[x]? =some bx→ls'[x]? =some l→L7 S' own' M x bx l) (hlv:∀i,own' i≠ .no→g.own i≠ .no):MI S' ⟨g.m,g.ls,g.θ,g.sn,own'⟩ M c ⟨ls',μ.r,μ.sn⟩ where
 md:=hb _ _ (Xo.1 h.nd).1 h.md
 up:=h.up
 len:=h.len.trans hlen.symm
 nd:=h.nd
 yE:=h.yE
 lb:=hlb
 tb:=h.tb.mono (fun i v q=>hb i v fun r=>h.yE i q (Xc _ r)) fun i v _ q=>by rw[ha];exact q
 uf:=fun i q=>(ho i fun x=>by rw[h.uf i q];exact id).trans (h.uf i q)
 Bv:=tO h.Bv hNM (fun i e=>(ho i fun x=>by rw[e];exact id).trans e) (fun i v _ q=>by rw[ha];exact q) fun v q=>by rw[ha];exact q
 lS:=(ho _ fun x=>by rw[h.lS];exact id).trans h.lS
 lx:=fun i q=>by rw[ha];exact h.lx i (hlv i q)
section
variable {w0:W0} {S:St} {g:MG} {N:Nat} {c:Cf} {μ:bq} {o:bp} {full:Bool}
def S9(μ:bq)(o:bp)(full:Bool):Prop:=(0≤o.level∧o.level<μ.l.length)∧0<o.aC∧(aO μ o.level).has=o.aC∧full=false
theorem rG{x:Nat}{l:tC}(hl:μ.l[x]? =some l):(bL μ o full).l[x]? =some {l with has:=0,F:=if(x:Int)=o.level∧0<o.aC∧l.has=o.aC∧full=false then l.D else l.F}:=by
 have hlt:=(W6.1 hl).1;unfold bL;simp only[Xd,X3 hlt,XB];rw[bh (x:=(x:Int)) (by simpa using hl) (by omega)]
theorem LA(hI:MI S g N c μ)(hM:iN N c μ)(hN:N≤10000)(hc:S9 μ o full):aa Tryz.prog w0 36 [bz g.m,AU o,dB full] S (fun d S'=>∃g',MI S' g' (N+1) c (bL μ o full)∧gF S S' g g'):=by
 have hmd:=hI.md;have hlen:=hI.len;have hnl:=hM.n;have hlsnd:=(Xo.1 hI.nd).2;have hmls:=(Xo.1 hI.nd).1;refine mv [2] mx Tryz.func36 rfl rfl (by kernel_rfl) ?_;simp(maxDischargeDepth:=12) (maxSteps:=1000000) -implicitDefEqProofs only[Tryz.ntmps36,go_sem,Nat.reduceAdd,Nat.reduceSub,Nat.reduceMul,Nat.reduceLeDiff,Nat.reduceEqDiff,Nat.reduceGT,Nat.reduceBEq,reduceCtorEq,↓reduceIte,Int.reduceToNat,Int.reduceLE,Int.reduceLT,Int.reduceNe,Int.reduceEq];intro b4;have hm4:(b4.n=g.m)=False:=eq_false fun e=>by have:=ak b4;rw[e,hmd]at this;cases this
 have hH:Has S ⟨(b4.n,[dI o.kind,dI o.level,dI o.aC,dI o.snap,dS (tx o.bucket),dS (tx o.key),dS (tx o.value),dI o.label,dI o.dQ,dI o.n,.sl 1 false (aA o.ba)])::S.box,S.acc⟩:=⟨fun b x q=>ai (ak b4) q,fun _ _ q=>q⟩;have h4l:b4.n∉g.bx:=fun q=>hI.lL q (ak b4);have h4s:b4.n∉g.ls:=fun q=>h4l (by simp[MG.bx,q]);refine ao (ofM w0 (hH.box _ _ hmd) o.level) ?_;obtain⟨⟨hp,hlv0⟩,hses,hhas,hfull⟩:=hc;have hx0:g.ls[o.level.toNat]? =some (g.ls[o.level.toNat]'(by omega)):=W5 _;generalize g.ls[o.level.toNat]'(by omega)=bx0 at hx0;obtain⟨l0,hl0,b0,ids0,r0,dr0,f1,f2,f3,f4,f5,f6⟩:=hI.ri hx0;have el0:=bh hl0 hp;rw[el0]at hhas;obtain⟨d0,idd0,rfl,f7,f8⟩:=f6 (by rw[hhas];omega);have hat:yU g.ls o.level=some bx0:=by unfold yU;rw[if_pos hp,hx0]
 have h40:(b4.n=bx0)=False:=eq_false fun e=>by have:=ak b4;rw[e,f1]at this;cases this
 have h0m:(bx0=g.m)=False:=eq_false fun e=>hmls (by rw[←e];exact W7 hx0);have h0s:(o.aC>0)=True:=eq_true hses;have hhas':(l0.has=o.aC)=True:=eq_true hhas;rw[hat];unfold vD;simp(maxDischargeDepth:=12) (maxSteps:=1000000) -implicitDefEqProofs only[go_sem,Nat.reduceAdd,Nat.reduceSub,Nat.reduceMul,Nat.reduceLeDiff,Nat.reduceEqDiff,Nat.reduceGT,Nat.reduceBEq,reduceCtorEq,↓reduceIte,Int.reduceToNat,Int.reduceLE,Int.reduceLT,Int.reduceNe,Int.reduceEq];refine xN (σ:=Unit) [] [0,2,4,6,32] (fun _=>[(32,dB true)]) (fun _=>⟨(b4.n,[dI o.kind,dI o.level,dI o.aC,dI o.snap,dS (tx o.bucket),dS (tx o.key),dS (tx o.value),dI o.label,dI o.dQ,dI o.n,.sl 1 false (aA o.ba)])::S.box,S.acc⟩) (fun _=>True) mx (by kernel_rfl) ?_ ?_
 ·simp(maxDischargeDepth:=12) (maxSteps:=1000000) -implicitDefEqProofs only[go_sem,Nat.reduceAdd,Nat.reduceSub,Nat.reduceMul,Nat.reduceLeDiff,Nat.reduceEqDiff,Nat.reduceGT,Nat.reduceBEq,reduceCtorEq,↓reduceIte,Int.reduceToNat,Int.reduceLE,Int.reduceLT,Int.reduceNe,Int.reduceEq,f1,h40,h0s,hhas',hfull];exact⟨(),trivial⟩
 rintro _ _;simp(maxDischargeDepth:=12) (maxSteps:=1000000) -implicitDefEqProofs only[go_sem,Nat.reduceAdd,Nat.reduceSub,Nat.reduceMul,Nat.reduceLeDiff,Nat.reduceEqDiff,Nat.reduceGT,Nat.reduceBEq,reduceCtorEq,↓reduceIte,Int.reduceToNat,Int.reduceLE,Int.reduceLT,Int.reduceNe,Int.reduceEq,f1,h40,hmd,hm4,h0m];obtain⟨B1,hB1d⟩:∃B1,B1=(b4.n,[dI o.kind,dI o.level,dI o.aC,dI o.snap,dS (tx o.bucket),dS (tx o.key),dS (tx o.value),dI o.label,dI o.dQ,dI o.n,.sl 1 false (aA o.ba)])::up S.box bx0 [.mp d0,.acc r0 l0.au.length,dI l0.has,.mp d0]:=⟨_,rfl⟩;have own1d:∃own1:Nat→Ow,own1=yV o.level.toNat g.own:=⟨_,rfl⟩;obtain⟨own1,ho1⟩:=own1d
 have hB1n:∀b,¬b4.n=b→¬bx0=b→lk B1 b=lk S.box b:=fun b q1 q2=>by
  rw[hB1d];simp only[lk];rw[if_neg q1,ab q2]
 have hB10:lk B1 bx0=some (lK d0 (.acc r0 l0.au.length) l0.has (.mp d0)):=by
  rw[hB1d];simp only[lk];rw[if_neg (by rw[h40];exact id)];exact cE f1
 have hb4:lk B1 b4.n=some [dI o.kind,dI o.level,dI o.aC,dI o.snap,dS (tx o.bucket),dS (tx o.key),dS (tx o.value),dI o.label,dI o.dQ,dI o.n,.sl 1 false (aA o.ba)]:=by rw[hB1d];simp[lk]
 have hold:∀i v,i∉g.ls→lk S.box i=some v→lk B1 i=some v:=fun i v q1 q2=>(hB1n i (fun e=>by rw[←e,ak b4]at q2;cases q2) (fun e=>q1 (by rw[←e];exact W7 hx0))).trans q2
 have hlab:∀(i:Nat) bx,g.ls[i]? =some bx→∃mb au has dr,lk B1 bx=some (lK mb au has dr):=fun i bx hx=>by
  by_cases e:bx0=bx
  ·exact⟨_,_,_,_,by rw[←e];exact hB10⟩
  ·obtain⟨l,hl,b,ids,r,dr,h1,_⟩:=hI.ri hx;exact⟨_,_,_,_,(hB1n bx (fun q=>h4s (by rw[q];exact W7 hx)) e).trans h1⟩
 have hown:∀i,(∀x,¬(g.own i).own x)→own1 i=g.own i:=fun i q=>by rw[ho1];exact gL fun e=>q o.level.toNat (by rw[e];exact rfl)
 have hlv:∀i,own1 i≠ .no→g.own i≠ .no:=fun i q=>tN.1 (by rw[←ho1];exact q);refine fc [] [0,43,44,45] (σ:=Nat×List (Nat×List DV)) (fun s=>[(44,dI μ.l.length),(45,dI s.1)]) (fun s=>⟨s.2,S.acc⟩) (fun s=>s.1≤μ.l.length∧(∀b,b∉g.ls.take s.1→lk s.2 b=lk B1 b)∧∀(j:Nat) b mb au has dr,j<s.1→g.ls[j]? =some b→lk B1 b=some (lK mb au has dr)→lk s.2 b=some (lK mb au 0 dr)) (fun s=>μ.l.length-s.1) (0,B1) mx (by kernel_rfl) ⟨⟨Xl _,fun b _=>rfl,fun j b mb au has dr h=>absurd h (Nat.not_lt_zero _)⟩,?_⟩ ?_
 ·rw[hB1d];simp(maxDischargeDepth:=12) (maxSteps:=1000000) -implicitDefEqProofs only[go_sem,Nat.reduceAdd,Nat.reduceSub,Nat.reduceMul,Nat.reduceLeDiff,Nat.reduceEqDiff,Nat.reduceGT,Nat.reduceBEq,reduceCtorEq,↓reduceIte,Int.reduceToNat,Int.reduceLE,Int.reduceLT,Int.reduceNe,Int.reduceEq,hlen]
 ·rintro⟨i,B⟩ ⟨hi,hB1,hB2⟩;simp only at hi hB1 hB2;by_cases hil:i<μ.l.length
  ·have e1:IntKind.i64.wrap ((i:Int)+1)=((i+1:Nat):Int):=aI (by omega);have hx:g.ls[i]? =some (g.ls[i]'(by omega)):=W5 _;generalize g.ls[i]'(by omega)=bx at hx;obtain⟨mb,au,has,dr,h1⟩:=hlab i bx hx
   have hnt:bx∉g.ls.take i:=fun q=>by
    obtain⟨j,hj⟩:=XI.1 q;rw[XU]at hj;split at hj
    ·rename_i hji;have:=(List.getElem?_inj (W6.1 hx).1 hlsnd).1 (hx.trans hj.symm);omega
    ·cases hj
   have h1B:lk B bx=some (lK mb au has dr):=(hB1 bx hnt).trans h1;simp(maxDischargeDepth:=12) (maxSteps:=1000000) -implicitDefEqProofs only[go_sem,Nat.reduceAdd,Nat.reduceSub,Nat.reduceMul,Nat.reduceLeDiff,Nat.reduceEqDiff,Nat.reduceGT,Nat.reduceBEq,reduceCtorEq,↓reduceIte,Int.reduceToNat,Int.reduceLE,Int.reduceLT,Int.reduceNe,Int.reduceEq,hx,h1B,e1];refine⟨fun _=>⟨by omega,(i+1,up B bx [.mp mb,au,dI 0,dr]),⟨by simp only;omega,fun b hb=>?_,fun j b mb' au' has' dr' hj hjb hb=>?_⟩,by simp only;omega,rfl,.refl _⟩,fun h=>absurd hil h⟩
   ·have hb:b∉g.ls.take (i+1):=hb;rw[XZ,hx]at hb;simp only[YQ,Xh,Xg,not_or]at hb;show lk (up _ _ _) b=_;rw[ab (Yd hb.2)];exact hB1 b hb.1
   ·have hj:j<i+1:=hj;show lk (up _ _ _) b=_;by_cases e:bx=b
    ·subst e;rw[h1]at hb;cases hb;exact cE h1B
    ·rw[ab e];refine hB2 j b mb' au' has' dr' ?_ hjb hb;rcases XH j i with q|q
     ·exact q
     ·have:j=i:=by omega
      rw[this,hx]at hjb;cases hjb;exact absurd rfl e
  ·have hie:i=μ.l.length:=by omega
   subst hie;have htk:g.ls.take μ.l.length=g.ls:=XF (by omega);rw[htk]at hB1;have hBo:∀i v,i∉g.ls→lk S.box i=some v→lk B i=some v:=fun i v q1 q2=>(hB1 i q1).trans (hold i v q1 q2);have h4B:lk B b4.n=some [dI o.kind,dI o.level,dI o.aC,dI o.snap,dS (tx o.bucket),dS (tx o.key),dS (tx o.value),dI o.label,dI o.dQ,dI o.n,.sl 1 false (aA o.ba)]:=(hB1 _ h4s).trans hb4
   have k1:MI ⟨B,S.acc⟩ ⟨g.m,g.ls,g.θ,g.sn,own1⟩ (N+1) c ⟨(bL μ o full).l,μ.r,μ.sn⟩:=hI.Qh (XA N) own1 _ (by unfold bL;simp) hBo rfl hown (fun x bx l' hx hl'=>by
    obtain⟨l,hl,b,ids,r,dr,h1,h2,h3,h4,h5,h6⟩:=hI.ri hx;rw[rG hl]at hl';cases hl';have hxl:x<μ.l.length:=(W6.1 hl).1;have hox:(x:Int)=o.level↔x=o.level.toNat:=by omega
    by_cases e:x=o.level.toNat
    ·subst e;rw[hx0]at hx;cases hx;rw[hl0]at hl;cases hl;rw[if_pos ⟨hox.2 rfl,hses,hhas,hfull⟩];exact⟨d0,idd0,r0,.mp d0,hB2 _ _ _ _ _ _ hxl hx0 hB10,jd (f7.le (XA N)) rfl,⟨by rw[ho1];exact o5 f8.1,fun n i q=>by rw[ho1];exact o5 (f8.2 n i q)⟩,f4,by rw[ho1];exact(gL (by rw[f5];simp)).trans f5,fun q=>absurd rfl q⟩
    ·rw[if_neg (fun q=>e (hox.1 q.1))];have hne:¬bx0=bx:=fun q=>e ((List.getElem?_inj (W6.1 hx).1 hlsnd).1 (by rw[hx,hx0,q]));have h1':=(hB1n bx (fun q=>h4s (by rw[q];exact W7 hx)) hne).trans h1;exact⟨b,ids,r,dr,hB2 _ _ _ _ _ _ hxl hx h1',jd (h2.le (XA N)) rfl,⟨by rw[ho1];exact(gL (by rw[h3.1];simp)).trans h3.1,fun n i q=>by rw[ho1];exact(gL (by rw[h3.2 n i q];simp)).trans (h3.2 n i q)⟩,h4,by rw[ho1];exact(gL (by rw[h5];simp)).trans h5,fun q=>absurd rfl q⟩) hlv
   have k2:gF S ⟨B,S.acc⟩ g ⟨g.m,g.ls,g.θ,g.sn,own1⟩:=⟨rfl,fun i v q1 q2=>hBo i v (fun q=>q1 (by simp[MG.bx,q])) q2,fun i v _ q=>q,fun i q=> .inl q,fun i q=> .inl (hlv i q)⟩;have hmdB:lk B g.m=some (Dm c g.ls g.θ.t g.sn):=k1.md;simp(maxDischargeDepth:=12) (maxSteps:=1000000) -implicitDefEqProofs only[go_sem,Nat.reduceAdd,Nat.reduceSub,Nat.reduceMul,Nat.reduceLeDiff,Nat.reduceEqDiff,Nat.reduceGT,Nat.reduceBEq,reduceCtorEq,↓reduceIte,Int.reduceToNat,Int.reduceLE,Int.reduceLT,Int.reduceNe,Int.reduceEq,hmdB];refine⟨fun h=>absurd h hil,fun _=>?_⟩;refine an (EG w0 k1.tb) ?_;rintro _ T ⟨θ',hT,hF⟩;obtain⟨own2,k3,k4,k5,k6⟩:=k1.ON (Xa _) hT hF;have hmdT:=k3.md;obtain⟨es,cl,s1,s2⟩:=k3.Bv;simp only at hmdT s1;simp(maxDischargeDepth:=12) (maxSteps:=1000000) -implicitDefEqProofs only[go_sem,Nat.reduceAdd,Nat.reduceSub,Nat.reduceMul,Nat.reduceLeDiff,Nat.reduceEqDiff,Nat.reduceGT,Nat.reduceBEq,reduceCtorEq,↓reduceIte,Int.reduceToNat,Int.reduceLE,Int.reduceLT,Int.reduceNe,Int.reduceEq,hmdT,s1]
   have k7:MI ⟨T.box,up T.acc g.sn (.xo (.mp (.st [.i64,.i64,.i64]) [] cl))⟩ ⟨g.m,g.ls,θ',g.sn,own2⟩ (N+1) c (bL μ o full):=k3.RO (Xa _) own2 (fun _ _ _=>none) (fun i v _ q=>q) (fun _ _=>rfl) (fun i v q1 q2 q3=>by
    show lk (up _ _ _) i=_;rw[ab (fun e=>q2 (by rw[←e];exact k3.lS))];exact q3) ⟨[],cl,cE s1,fun lv n k=>⟨fun _=>by simp[aJ],fun Fs h=>(by cases h)⟩⟩ fun i q=>gU (k3.lx i q)
   refine⟨_,_,.refl _,.refl _,_,k7,(k2.trans k4).trans ⟨rfl,fun i v _ q=>q,fun i v q1 q2=>?_,fun i q=> .inl q,fun i q=> .inl q⟩⟩;show lk (up _ _ _) i=_;rw[ab (fun e=>by rw[←e]at q1;have:=k3.lS.symm.trans q1;cases this)];exact q2
theorem L4(hI:MI S g N c μ)(hM:iN N c μ)(hN:N≤10000)(hc:¬S9 μ o full):aa Tryz.prog w0 36 [bz g.m,AU o,dB full] S (fun d S'=>∃g',MI S' g' (N+1) c (bL μ o full)∧gF S S' g g'):=by
 have hmd:=hI.md;have hlen:=hI.len;have hnl:=hM.n;have hlsnd:=(Xo.1 hI.nd).2;have hmls:=(Xo.1 hI.nd).1;refine mv [2] mx Tryz.func36 rfl rfl (by kernel_rfl) ?_;simp(maxDischargeDepth:=12) (maxSteps:=1000000) -implicitDefEqProofs only[Tryz.ntmps36,go_sem,Nat.reduceAdd,Nat.reduceSub,Nat.reduceMul,Nat.reduceLeDiff,Nat.reduceEqDiff,Nat.reduceGT,Nat.reduceBEq,reduceCtorEq,↓reduceIte,Int.reduceToNat,Int.reduceLE,Int.reduceLT,Int.reduceNe,Int.reduceEq];intro b4;have hm4:(b4.n=g.m)=False:=eq_false fun e=>by have:=ak b4;rw[e,hmd]at this;cases this
 have hH:Has S ⟨(b4.n,[dI o.kind,dI o.level,dI o.aC,dI o.snap,dS (tx o.bucket),dS (tx o.key),dS (tx o.value),dI o.label,dI o.dQ,dI o.n,.sl 1 false (aA o.ba)])::S.box,S.acc⟩:=⟨fun b x q=>ai (ak b4) q,fun _ _ q=>q⟩;have h4l:b4.n∉g.bx:=fun q=>hI.lL q (ak b4);have h4s:b4.n∉g.ls:=fun q=>h4l (by simp[MG.bx,q]);refine ao (ofM w0 (hH.box _ _ hmd) o.level) ?_;refine xN (σ:=Unit) [] [0,2,4,6,32] (fun _=>[(32,dB false)]) (fun _=>⟨(b4.n,[dI o.kind,dI o.level,dI o.aC,dI o.snap,dS (tx o.bucket),dS (tx o.key),dS (tx o.value),dI o.label,dI o.dQ,dI o.n,.sl 1 false (aA o.ba)])::S.box,S.acc⟩) (fun _=>True) mx (by kernel_rfl) ?_ ?_
 ·cases hat:yU g.ls o.level with
  |none=>
   unfold vD;simp(maxDischargeDepth:=12) (maxSteps:=1000000) -implicitDefEqProofs only[go_sem,Nat.reduceAdd,Nat.reduceSub,Nat.reduceMul,Nat.reduceLeDiff,Nat.reduceEqDiff,Nat.reduceGT,Nat.reduceBEq,reduceCtorEq,↓reduceIte,Int.reduceToNat,Int.reduceLE,Int.reduceLT,Int.reduceNe,Int.reduceEq];exact⟨(),trivial⟩
  |some bx0=>
   have hp:0≤o.level:=by
    unfold yU at hat;split at hat
    ·assumption
    ·cases hat
   have hx0:g.ls[o.level.toNat]? =some bx0:=by unfold yU at hat;rw[if_pos hp]at hat;exact hat
   have hlt0:=(W6.1 hx0).1;obtain⟨l0,hl0,b0,ids0,r0,dr0,f1,f2,f3,f4,f5,f6⟩:=hI.ri hx0;have el0:=bh hl0 hp;have h40:(b4.n=bx0)=False:=eq_false fun e=>by have:=ak b4;rw[e,f1]at this;cases this
   unfold vD;by_cases hses:o.aC>0
   ·have h0s:(o.aC>0)=True:=eq_true hses;by_cases hhas:l0.has=o.aC
    ·have hhas':(l0.has=o.aC)=True:=eq_true hhas
     cases full with
     |false=>exact absurd ⟨⟨hp,by omega⟩,hses,by rw[el0];exact hhas,rfl⟩ hc
     |true=>
      simp(maxDischargeDepth:=12) (maxSteps:=1000000) -implicitDefEqProofs only[go_sem,Nat.reduceAdd,Nat.reduceSub,Nat.reduceMul,Nat.reduceLeDiff,Nat.reduceEqDiff,Nat.reduceGT,Nat.reduceBEq,reduceCtorEq,↓reduceIte,Int.reduceToNat,Int.reduceLE,Int.reduceLT,Int.reduceNe,Int.reduceEq,f1,h40,h0s,hhas'];exact⟨(),trivial⟩
    ·have hhas':(l0.has=o.aC)=False:=eq_false hhas;simp(maxDischargeDepth:=12) (maxSteps:=1000000) -implicitDefEqProofs only[go_sem,Nat.reduceAdd,Nat.reduceSub,Nat.reduceMul,Nat.reduceLeDiff,Nat.reduceEqDiff,Nat.reduceGT,Nat.reduceBEq,reduceCtorEq,↓reduceIte,Int.reduceToNat,Int.reduceLE,Int.reduceLT,Int.reduceNe,Int.reduceEq,f1,h40,h0s,hhas'];exact⟨(),trivial⟩
   ·have h0s:(o.aC>0)=False:=eq_false hses;simp(maxDischargeDepth:=12) (maxSteps:=1000000) -implicitDefEqProofs only[go_sem,Nat.reduceAdd,Nat.reduceSub,Nat.reduceMul,Nat.reduceLeDiff,Nat.reduceEqDiff,Nat.reduceGT,Nat.reduceBEq,reduceCtorEq,↓reduceIte,Int.reduceToNat,Int.reduceLE,Int.reduceLT,Int.reduceNe,Int.reduceEq,f1,h40,h0s];exact⟨(),trivial⟩
 rintro _ _;simp(maxDischargeDepth:=12) (maxSteps:=1000000) -implicitDefEqProofs only[go_sem,Nat.reduceAdd,Nat.reduceSub,Nat.reduceMul,Nat.reduceLeDiff,Nat.reduceEqDiff,Nat.reduceGT,Nat.reduceBEq,reduceCtorEq,↓reduceIte,Int.reduceToNat,Int.reduceLE,Int.reduceLT,Int.reduceNe,Int.reduceEq,hmd,hm4];obtain⟨B1,hB1d⟩:∃B1,B1=(b4.n,[dI o.kind,dI o.level,dI o.aC,dI o.snap,dS (tx o.bucket),dS (tx o.key),dS (tx o.value),dI o.label,dI o.dQ,dI o.n,.sl 1 false (aA o.ba)])::S.box:=⟨_,rfl⟩;obtain⟨own1,ho1⟩:∃own1:Nat→Ow,own1=g.own:=⟨_,rfl⟩
 have hB1n:∀b,¬b4.n=b→lk B1 b=lk S.box b:=fun b q1=>by
  rw[hB1d];simp only[lk];rw[if_neg q1]
 have hb4:lk B1 b4.n=some [dI o.kind,dI o.level,dI o.aC,dI o.snap,dS (tx o.bucket),dS (tx o.key),dS (tx o.value),dI o.label,dI o.dQ,dI o.n,.sl 1 false (aA o.ba)]:=by rw[hB1d];simp[lk]
 have hold:∀i v,i∉g.ls→lk S.box i=some v→lk B1 i=some v:=fun i v q1 q2=>(hB1n i (fun e=>by rw[←e,ak b4]at q2;cases q2)).trans q2
 have hlab:∀(i:Nat) bx,g.ls[i]? =some bx→∃mb au has dr,lk B1 bx=some (lK mb au has dr):=fun i bx hx=>by
  obtain⟨l,hl,b,ids,r,dr,h1,_⟩:=hI.ri hx;exact⟨_,_,_,_,(hB1n bx (fun q=>h4s (by rw[q];exact W7 hx))).trans h1⟩
 have hown:∀i,(∀x,¬(g.own i).own x)→own1 i=g.own i:=fun i q=>by rw[ho1]
 have hlv:∀i,own1 i≠ .no→g.own i≠ .no:=fun i q=>by rw[←ho1];exact q
 refine fc [] [0,43,44,45] (σ:=Nat×List (Nat×List DV)) (fun s=>[(44,dI μ.l.length),(45,dI s.1)]) (fun s=>⟨s.2,S.acc⟩) (fun s=>s.1≤μ.l.length∧(∀b,b∉g.ls.take s.1→lk s.2 b=lk B1 b)∧∀(j:Nat) b mb au has dr,j<s.1→g.ls[j]? =some b→lk B1 b=some (lK mb au has dr)→lk s.2 b=some (lK mb au 0 dr)) (fun s=>μ.l.length-s.1) (0,B1) mx (by kernel_rfl) ⟨⟨Xl _,fun b _=>rfl,fun j b mb au has dr h=>absurd h (Nat.not_lt_zero _)⟩,?_⟩ ?_
 ·rw[hB1d];simp(maxDischargeDepth:=12) (maxSteps:=1000000) -implicitDefEqProofs only[go_sem,Nat.reduceAdd,Nat.reduceSub,Nat.reduceMul,Nat.reduceLeDiff,Nat.reduceEqDiff,Nat.reduceGT,Nat.reduceBEq,reduceCtorEq,↓reduceIte,Int.reduceToNat,Int.reduceLE,Int.reduceLT,Int.reduceNe,Int.reduceEq,hlen]
 ·rintro⟨i,B⟩ ⟨hi,hB1,hB2⟩;simp only at hi hB1 hB2;by_cases hil:i<μ.l.length
  ·have e1:IntKind.i64.wrap ((i:Int)+1)=((i+1:Nat):Int):=aI (by omega);have hx:g.ls[i]? =some (g.ls[i]'(by omega)):=W5 _;generalize g.ls[i]'(by omega)=bx at hx;obtain⟨mb,au,has,dr,h1⟩:=hlab i bx hx
   have hnt:bx∉g.ls.take i:=fun q=>by
    obtain⟨j,hj⟩:=XI.1 q;rw[XU]at hj;split at hj
    ·rename_i hji;have:=(List.getElem?_inj (W6.1 hx).1 hlsnd).1 (hx.trans hj.symm);omega
    ·cases hj
   have h1B:lk B bx=some (lK mb au has dr):=(hB1 bx hnt).trans h1;simp(maxDischargeDepth:=12) (maxSteps:=1000000) -implicitDefEqProofs only[go_sem,Nat.reduceAdd,Nat.reduceSub,Nat.reduceMul,Nat.reduceLeDiff,Nat.reduceEqDiff,Nat.reduceGT,Nat.reduceBEq,reduceCtorEq,↓reduceIte,Int.reduceToNat,Int.reduceLE,Int.reduceLT,Int.reduceNe,Int.reduceEq,hx,h1B,e1];refine⟨fun _=>⟨by omega,(i+1,up B bx [.mp mb,au,dI 0,dr]),⟨by simp only;omega,fun b hb=>?_,fun j b mb' au' has' dr' hj hjb hb=>?_⟩,by simp only;omega,rfl,.refl _⟩,fun h=>absurd hil h⟩
   ·have hb:b∉g.ls.take (i+1):=hb;rw[XZ,hx]at hb;simp only[YQ,Xh,Xg,not_or]at hb;show lk (up _ _ _) b=_;rw[ab (Yd hb.2)];exact hB1 b hb.1
   ·have hj:j<i+1:=hj;show lk (up _ _ _) b=_;by_cases e:bx=b
    ·subst e;rw[h1]at hb;cases hb;exact cE h1B
    ·rw[ab e];refine hB2 j b mb' au' has' dr' ?_ hjb hb;rcases XH j i with q|q
     ·exact q
     ·have:j=i:=by omega
      rw[this,hx]at hjb;cases hjb;exact absurd rfl e
  ·have hie:i=μ.l.length:=by omega
   subst hie;have htk:g.ls.take μ.l.length=g.ls:=XF (by omega);rw[htk]at hB1;have hBo:∀i v,i∉g.ls→lk S.box i=some v→lk B i=some v:=fun i v q1 q2=>(hB1 i q1).trans (hold i v q1 q2);have h4B:lk B b4.n=some [dI o.kind,dI o.level,dI o.aC,dI o.snap,dS (tx o.bucket),dS (tx o.key),dS (tx o.value),dI o.label,dI o.dQ,dI o.n,.sl 1 false (aA o.ba)]:=(hB1 _ h4s).trans hb4
   have k1:MI ⟨B,S.acc⟩ ⟨g.m,g.ls,g.θ,g.sn,own1⟩ (N+1) c ⟨(bL μ o full).l,μ.r,μ.sn⟩:=hI.Qh (XA N) own1 _ (by unfold bL;simp) hBo rfl hown (fun x bx l' hx hl'=>by
    obtain⟨l,hl,b,ids,r,dr,h1,h2,h3,h4,h5,h6⟩:=hI.ri hx;rw[rG hl]at hl';cases hl';have hxl:x<μ.l.length:=(W6.1 hl).1;have hcn:¬((x:Int)=o.level∧0<o.aC∧l.has=o.aC∧full=false):=fun q=>hc ⟨⟨by omega,by omega⟩,q.2.1,by rw[←q.1,bh (x:=(x:Int)) (by simpa using hl) (by omega)];exact q.2.2.1,q.2.2.2⟩;rw[if_neg hcn];have h1':=(hB1n bx (fun q=>h4s (by rw[q];exact W7 hx))).trans h1;exact⟨b,ids,r,dr,hB2 _ _ _ _ _ _ hxl hx h1',jd (h2.le (XA N)) rfl,by rw[ho1];exact h3,h4,by rw[ho1];exact h5,fun q=>absurd rfl q⟩) hlv
   have k2:gF S ⟨B,S.acc⟩ g ⟨g.m,g.ls,g.θ,g.sn,own1⟩:=⟨rfl,fun i v q1 q2=>hBo i v (fun q=>q1 (by simp[MG.bx,q])) q2,fun i v _ q=>q,fun i q=> .inl q,fun i q=> .inl (hlv i q)⟩;have hmdB:lk B g.m=some (Dm c g.ls g.θ.t g.sn):=k1.md;simp(maxDischargeDepth:=12) (maxSteps:=1000000) -implicitDefEqProofs only[go_sem,Nat.reduceAdd,Nat.reduceSub,Nat.reduceMul,Nat.reduceLeDiff,Nat.reduceEqDiff,Nat.reduceGT,Nat.reduceBEq,reduceCtorEq,↓reduceIte,Int.reduceToNat,Int.reduceLE,Int.reduceLT,Int.reduceNe,Int.reduceEq,hmdB];refine⟨fun h=>absurd h hil,fun _=>?_⟩;refine an (EG w0 k1.tb) ?_;rintro _ T ⟨θ',hT,hF⟩;obtain⟨own2,k3,k4,k5,k6⟩:=k1.ON (Xa _) hT hF;have hmdT:=k3.md;obtain⟨es,cl,s1,s2⟩:=k3.Bv;simp only at hmdT s1;simp(maxDischargeDepth:=12) (maxSteps:=1000000) -implicitDefEqProofs only[go_sem,Nat.reduceAdd,Nat.reduceSub,Nat.reduceMul,Nat.reduceLeDiff,Nat.reduceEqDiff,Nat.reduceGT,Nat.reduceBEq,reduceCtorEq,↓reduceIte,Int.reduceToNat,Int.reduceLE,Int.reduceLT,Int.reduceNe,Int.reduceEq,hmdT,s1]
   have k7:MI ⟨T.box,up T.acc g.sn (.xo (.mp (.st [.i64,.i64,.i64]) [] cl))⟩ ⟨g.m,g.ls,θ',g.sn,own2⟩ (N+1) c (bL μ o full):=k3.RO (Xa _) own2 (fun _ _ _=>none) (fun i v _ q=>q) (fun _ _=>rfl) (fun i v q1 q2 q3=>by
    show lk (up _ _ _) i=_;rw[ab (fun e=>q2 (by rw[←e];exact k3.lS))];exact q3) ⟨[],cl,cE s1,fun lv n k=>⟨fun _=>by simp[aJ],fun Fs h=>(by cases h)⟩⟩ fun i q=>gU (k3.lx i q)
   refine⟨_,_,.refl _,.refl _,_,k7,(k2.trans k4).trans ⟨rfl,fun i v _ q=>q,fun i v q1 q2=>?_,fun i q=> .inl q,fun i q=> .inl q⟩⟩;show lk (up _ _ _) i=_;rw[ab (fun e=>by rw[←e]at q1;have:=k3.lS.symm.trans q1;cases this)];exact q2
theorem Ns(hI:MI S g N c μ)(hM:iN N c μ)(hN:N≤10000):aa Tryz.prog w0 36 [bz g.m,AU o,dB full] S (fun d S'=>∃g',MI S' g' (N+1) c (bL μ o full)∧gF S S' g g'):=by
 by_cases hc:S9 μ o full
 ·exact LA hI hM hN hc
 ·exact L4 hI hM hN hc
end
end Go.Proofs.YtoepfmhnapedoaaGreatDoor
namespace Go.Proofs.YtoepfmhnapedoaaGreatDoor
open Aml Go Rn Lat Grs
def rE(k:Int):FuncId:=if k=1 then 69 else if k=2 then 70 else if k=3 then 71 else if k=4 then 72 else if k=5 then 73 else if k=6 then 74 else
 if k=7 then 75 else if k=8 then 76 else if k=9 then 77 else if k=10 then 78 else if k=11 then 79 else if k=12 then 80 else
 if k=13 then 81 else if k=14 then 82 else 83
theorem kinds{P:Int→Prop}{k:Int}(h0:1≤k)(h1:k≤15)(p1:P 1)(p2:P 2)(p3:P 3)(p4:P 4)(p5:P 5)(p6:P 6)(p7:P 7)(p8:P 8)(p9:P 9)(p10:P 10)(p11:P 11)(p12:P 12)(p13:P 13)(p14:P 14)(p15:P 15):P k:=by
 obtain rfl|rfl|rfl|rfl|rfl|rfl|rfl|rfl|rfl|rfl|rfl|rfl|rfl|rfl|rfl:k=1∨k=2∨k=3∨k=4∨k=5∨k=6∨k=7∨k=8∨k=9∨k=10∨k=11∨k=12∨k=13∨k=14∨k=15:=by omega
 all_goals assumption
theorem Ht{k:Int}(h0:1≤k)(h1:k≤15):okF Tryz.prog (rE k)=true:=
 kinds (P:=fun k=>okF Tryz.prog (rE k)=true) h0 h1 (by kernel_rfl) (by kernel_rfl) (by kernel_rfl) (by kernel_rfl) (by kernel_rfl) (by kernel_rfl) (by kernel_rfl) (by kernel_rfl) (by kernel_rfl) (by kernel_rfl) (by kernel_rfl) (by kernel_rfl) (by kernel_rfl) (by kernel_rfl) (by kernel_rfl)
noncomputable def vi:List (Value×DV×Nat)→Nat→List (Int×FuncId)→List (Value×DV×Nat)×Nat
 |es,cl,[]=>(es,cl)
 |es,cl,(k,f)::r=>vi (cX es cl (.int .i64 k) (.v (.func (.func f) #[] #[]))) (eV es cl (.int .i64 k)) r
theorem rB:∀(L:List (Int×FuncId)) (es:List (Value×DV×Nat)) (cl:Nat) (k:Int),(L.map (·.1)).Nodup→aJ (vi es cl L).1 (.int .i64 k)=(match L.find? fun p=>decide (p.1=k)with
 |some p=>some (.v (.func (.func p.2) #[] #[]))
 |none=>aJ es (.int .i64 k))
 |[],es,cl,k,_=>rfl
 |(j,f)::r,es,cl,k,hn=>by
  rw[Xy,Xo]at hn;unfold vi;rw[rB r _ _ k hn.2,List.find?_cons];by_cases e:j=k
  ·subst e;have:r.find? (fun p=>decide (p.1=j))=none:=Ze.2 fun p hp q=>hn.1 (Xk.2 ⟨p,hp,of_decide_eq_true q⟩);rw[this];simp[aY]
  ·have hne:Value.int .i64 k≠Value.int .i64 j:=fun q=>e (Value.int.inj q).2.symm;simp only[e,decide_false]
   cases r.find? (fun p=>decide (p.1=k))with
   |some p=>rfl
   |none=>exact bX _ _ hne _
def vV:List (Int×FuncId):=[(1,69),(2,70),(3,71),(4,72),(5,73),(6,74),(7,75),(8,76),(9,77),(10,78),(11,79),(12,80),(13,81),(14,82),(15,83)]
theorem Ly(w0:W0)(S:St):aa Tryz.prog w0 39 [] S (fun d S'=>∃(l:FN S.acc) (es:List (Value×DV×Nat)) (cl:Nat),d= .mp l.n∧S'=⟨S.box,(l.n,.xo (.mp (.int .i64) es cl))::S.acc⟩∧∀k,1≤k→k≤15→aJ es (.int .i64 k)=some (.v (.func (.func (rE k)) #[] #[]))):=by
 refine kj [] mx Tryz.func39 rfl rfl (by kernel_rfl) ?_;simp(maxDischargeDepth:=12) (maxSteps:=1000000) -implicitDefEqProofs only[Tryz.ntmps39,go_sem,Nat.reduceAdd,Nat.reduceSub,Nat.reduceMul,Nat.reduceLeDiff,Nat.reduceEqDiff,Nat.reduceGT,Nat.reduceBEq,reduceCtorEq,↓reduceIte,Int.reduceToNat,Int.reduceLE,Int.reduceLT,Int.reduceNe,Int.reduceEq];intro l;refine⟨l,(vi [] 0 vV).1,(vi [] 0 vV).2,rfl,rfl,fun k h0 h1=>?_⟩;rw[rB vV [] 0 k (by unfold vV;decide)]
 exact kinds (P:=fun k=>(match vV.find? fun p=>decide (p.1=k)with
  |some p=>some (DV.v (.func (.func p.2) #[] #[]))
  |none=>aJ [] (.int .i64 k))=some (.v (.func (.func (rE k)) #[] #[]))) h0 h1 rfl rfl rfl rfl rfl rfl rfl rfl rfl rfl rfl rfl rfl rfl rfl
theorem Vw{w0:W0}{S:St}{g:MG}{N:Nat}{c:Cf}{μ:bq}{w own:Nat}{o:bp}{full:Bool}(hgC:kW w0)(hI:MI S g N c μ)(hM:iN N c μ)(hgr:c.gr.length≤1048576)(hN:N≤10000)(hw:lY S g w own o full)(h0:1≤o.kind)(h1:o.kind≤15)(hq:∀e,bC eH c μ o full= .inl e→wG w0 S g N c μ e):
 aa Tryz.prog w0 (rE o.kind) [bz w] S (kG S g (N+1) c (bC eH c μ o full)):=by
 unfold rE bC at*;obtain h|h|h|h|h|h|h|h|h|h|h|h|h|h|h:o.kind=1∨o.kind=2∨o.kind=3∨o.kind=4∨o.kind=5∨o.kind=6∨o.kind=7∨o.kind=8∨o.kind=9∨o.kind=10∨o.kind=11∨o.kind=12∨o.kind=13∨o.kind=14∨o.kind=15:=by omega
 all_goals simp only[h,reduceIte,Int.reduceEq]at hq ⊢
 ·exact Mt hI hw
 ·exact LR hI (by omega) hw hq
 ·exact JZ hI hw hq
 ·exact Bp hI hw hq
 ·exact Rh hI hw hq
 ·exact Pt hI hw hq
 ·exact Sk hI hw hq
 ·exact J0 hI hw hq
 ·exact Su hI hM hN hw hq
 ·exact QI hI hM hN hw hq
 ·exact QR hI hM hN hw
 ·exact Iu hI hw hq
 ·exact Oj hI hw hq
 ·exact NN hI hM hN hw hq
 ·exact PB hgC hI hM hgr hN hw hq
end Go.Proofs.YtoepfmhnapedoaaGreatDoor
