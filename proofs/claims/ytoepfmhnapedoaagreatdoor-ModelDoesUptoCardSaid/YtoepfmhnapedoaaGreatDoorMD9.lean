/-
  Part 9 of the proof that the last text ends: from 'Count, Audit, Snap, Unsnap' to 'Which call does a kind'. By an AI agent.
-/
import Derived.Test.YtoepfmhnapedoaaGreatDoorMD8
import Derived.Test.YtoepfmhnapedoaaGreatDoorMD5
set_option linter.unusedVariables false
set_option linter.unusedSimpArgs false
set_option maxRecDepth 100000
set_option maxHeartbeats 16000000
namespace Go.Proofs.YtoepfmhnapedoaaGreatDoor
open Aml Go Rn Lat Grs
section
variable {w0:W0} {S:St} {g:MG} {N:Nat} {c:Cf} {μ:bM} {w own:Nat} {o:aV} {full:Bool}
theorem Ry(hI:MI S g N c μ)(hw:oL S g w own o full)(hq:∀e,ia c μ o= .inl e→AD w0 S g N c μ e):ab Tryz.prog w0 81 [bC w] S (mX S g (N+1) c (ia c μ o)):=by
 refine(TE w0 hw.k hI.md hI.up fun h=>(hq 31 (by unfold ia;exact if_pos h)).er hI).mono ?_;rintro _ _ ⟨h,rfl,rfl⟩;exact⟨dP 0,μ,g,by unfold ia;exact if_neg (by rw[h];simp),jJ,hI.le (abp N),.refl _ _⟩
theorem kZ{up:List Nat}{x y:Int}(h:gM up x y=true):0≤x∧x.toNat<up.length:=by
 unfold gM dW at h;simp only[aak,decide_eq_true_eq]at h;exact⟨h.1.1,h.2.1.1.2⟩
theorem wz(R:List Cs):Wk (.agg [dI 0,dI 0,.sl 0 true [],dI 0,dI 0,dI 0,dI 0,.sl 6 false (R.map uA)]) (uM ⟨0,0,[],R⟩):= .agg ⟨.refl _,.refl _,.nil _ _ _,.refl _,.refl _,.refl _,.refl _,.refl _,trivial⟩
theorem Rp(hI:MI S g N c μ)(hM:ij N c μ)(hN:N≤10000)(hw:oL S g w own o full)(hq:∀e,gy c μ o= .inl e→AD w0 S g N c μ e):ab Tryz.prog w0 82 [bC w] S (mX S g (N+1) c (gy c μ o)):=by
 have hwk:=hw.k;have hmd:=hI.md;refine mh [] mx Tryz.func82 rfl rfl (by kernel_rfl) ?_;refine @aa _ (ah @Tryz.ntmps82 ?_);intro b2;have hw2:(b2.n=w)=False:=eq_false fun e=>by have:=ao b2;rw[e,hwk]at this;cases this
 have hm2:(b2.n=g.m)=False:=eq_false fun e=>by have:=ao b2;rw[e,hmd]at this;cases this
 have hH:Has S ⟨(b2.n,[dI 0,dI 0,.sl 0 true [],dI 0,dI 0,dI 0,dI 0,.sl 0 true []])::S.box,S.acc⟩:=⟨fun b x q=>ai (ao b2) q,fun _ _ q=>q⟩;refine @aa _ (cK @hwk @hw2 ?_);refine aq (qn w0 (hH.box _ _ hwk) (hH.box _ _ hmd) hI.up o.label) ?_
 cases hle:gM c.up o.label o.level with
 |false=>
  refine @aa _ (av ?_);refine aw (aI w0 false 31 _ fun _=>((hq 31 (by unfold gy;exact if_pos hle)).er hI).to hH) ?_;rintro _ _ ⟨q,_⟩;cases q
 |true=>
  obtain⟨hp,hlt⟩:=kZ hle;have hlen:=hI.len;have hnl:=hM.nl;have hbx:g.ls[o.label.toNat]? =some (g.ls[o.label.toNat]'(by omega)):=aac _;generalize g.ls[o.label.toNat]'(by omega)=bx at hbx;obtain⟨l,hl,b,ids,r,dr,h1,h2,h3,h4,h5,h6⟩:=hI.uQ hbx;have el:=bB hl hp;have hx2:(b2.n=bx)=False:=eq_false fun e=>by have:=ao b2;rw[e,h1]at this;cases this
  have hau:=hM.au l (aaf hl);refine @aa _ (av ?_);refine aw (aI w0 true 31 _ fun h=>by cases h) ?_;rintro _ _ ⟨_,rfl,rfl⟩
  have key:∀z y:Int,(z=if(l.au.length:Int)<(if o.n<0 then 0 else o.n)then(l.au.length:Int)else(if o.n<0 then 0 else o.n))→(y=if 50<((l.au.length-z.toNat:Nat):Int)then 50 else((l.au.length-z.toNat:Nat):Int))→0≤z∧z≤(l.au.length:Int)∧0≤y∧y≤((l.au.length-z.toNat:Nat):Int)∧(l.au.drop z.toNat).take y.toNat=(l.au.drop o.n.toNat).take 50∧((l.au.drop o.n.toNat).take 50).length≤1048576:=by
   intro z y hz hy;have hz':z.toNat=min o.n.toNat l.au.length:=by rw[hz];split <;>split at* <;>omega
   have hzb:0≤z∧z≤(l.au.length:Int):=by rw[hz];constructor <;>split <;>split at* <;>omega
   have hy':y.toNat=min 50 (l.au.length-z.toNat):=by rw[hy];split <;>omega
   have hyb:0≤y∧y≤((l.au.length-z.toNat:Nat):Int):=by rw[hy];constructor <;>split <;>omega
   refine⟨hzb.1,hzb.2,hyb.1,hyb.2,?_,by rw[ab2];omega⟩
   have e1:l.au.drop z.toNat=l.au.drop o.n.toNat:=by
    rw[hz'];by_cases q:o.n.toNat≤l.au.length
    ·rw[adA q]
    ·rw[Nat.min_eq_right (by omega),List.drop_of_length_le (aar _),List.drop_of_length_le (by omega)]
   have e2:(l.au.drop o.n.toNat).length=l.au.length-z.toNat:=by rw[←e1,acq]
   rw[e1,hy',←e2,←List.take_take,List.take_length]
  have hg:gy c μ o= .inr (⟨0,0,[],(l.au.drop o.n.toNat).take 50⟩,μ):=by unfold gy;rw[if_neg (by rw[hle];simp),el]
  rcases h4 with h4|h4
  ·have e6:μ.l.set o.label.toNat l=μ.l:=by
    refine acy fun i=>?_;by_cases q:o.label.toNat=i
    ·subst q;rw[abZ (aad.1 hl).1,hl]
    ·rw[ab5 q]
   have hne:∀i,g.own i≠ .au o.label.toNat→¬r=i:=fun i q e=>q (by rw[←e];exact h5);have hk:∀i v,g.own i≠ .au o.label.toNat→lk S.acc i=some v→lk (up S.acc r (Ob.tl 6 (l.au.map uA))) i=some v:=fun i v q1 q2=>by rw[ae (hne i q1)];exact q2
   have k1:=hI.D7 (S':=⟨S.box,up S.acc r (Ob.tl 6 (l.au.map uA))⟩) (abp N) hbx g.own l (fun i v _ q=>q) (fun _ _ _=>rfl) (fun i v q1 q2 q=>hk i v (fun e=>q2 (by rw[e];exact rfl)) q) ⟨b,ids,r,dr,h1,(kM h2 h3 fun i v e q=>hk i v (by rw[e];simp) q).le (abp N),h3,.inr (bd h4),h5,fun q=>by
    obtain⟨d,idd,q1,q2,q3⟩:=h6 q;exact⟨d,idd,q1,(kM q2 q3 fun i v e q=>hk i v (by rw[e];simp) q).le (abp N),q3⟩⟩ fun i q=>jy (hI.mU i q)
   rw[e6]at k1;have k2:iO S ⟨S.box,up S.acc r (Ob.tl 6 (l.au.map uA))⟩ g g:=⟨rfl,fun i v _ q=>q,fun i v q1 q2=>hk i v (by rw[q1];simp) q2,fun i q=> .inl q,fun i q=> .inl q⟩;refine @aa _ (bz @hwk @hw2 @hmd @hm2 @hbx @h1 @hx2 @h4 ?_);generalize hz:(if(l.au.length:Int)<(if o.n<0 then 0 else o.n)then(l.au.length:Int)else(if o.n<0 then 0 else o.n))=z;generalize hy:(if 50<((l.au.length-z.toNat:Nat):Int)then(50:Int)else((l.au.length-z.toNat:Nat):Int))=y;obtain⟨z1,z2,z3,z4,z5,z6⟩:=key z y hz.symm hy.symm;rw[z5];refine⟨hp,by omega,z1,z2,z3,z4,aq (DA w0 _ _ z6) ?_⟩;refine @aa _ (av ?_);exact⟨_,_,.refl _,.aN (.refl _),_,μ,g,hg,wz _,k1,k2⟩
  ·refine @aa _ (bz @hwk @hw2 @hmd @hm2 @hbx @h1 @hx2 @h4 ?_);generalize hz:(if(l.au.length:Int)<(if o.n<0 then 0 else o.n)then(l.au.length:Int)else(if o.n<0 then 0 else o.n))=z;generalize hy:(if 50<((l.au.length-z.toNat:Nat):Int)then(50:Int)else((l.au.length-z.toNat:Nat):Int))=y;obtain⟨z1,z2,z3,z4,z5,z6⟩:=key z y hz.symm hy.symm;rw[z5];refine⟨hp,by omega,z1,z2,z3,z4,aq (DA w0 _ _ z6) ?_⟩;refine @aa _ (av ?_);exact⟨_,_,.refl _,.aN (.refl _),_,μ,g,hg,wz _,hI.le (abp N),.refl _ _⟩
end
end Go.Proofs.YtoepfmhnapedoaaGreatDoor
namespace Go.Proofs.YtoepfmhnapedoaaGreatDoor
open Aml Go Rn Lat Grs
section
variable {w0:W0} {S:St} {g:MG} {N:Nat} {c:Cf} {μ:bM} {w own:Nat} {o:aV} {full:Bool}
theorem HE{r:List RH}{lv n x:Int}(h:(oA r lv n x).2=false):(oA r lv n x).1=r:=by
 unfold oA at h ⊢;split <;>rename_i q
 ·simp only[q]at h ⊢;split <;>rename_i q2
  ·rfl
  ·rw[if_neg q2]at h;cases h
 ·rfl
theorem MI.Yi{S S':St}{g:MG}{N M:Nat}{c:Cf}{μ:bM}(h:MI S g N c μ)(hNM:N≤M)(own':Nat→Ow)(sn':Int→Int→Int→Option (List eZ))(hb:∀i v,i∈g.bx→lk S.box i=some v→lk S'.box i=some v)
 (ho:∀i,g.own i≠ .no→own' i=g.own i) (ha:∀i v,g.own i≠ .no→g.own i≠ .sm→lk S.acc i=some v→lk S'.acc i=some v) (hs:Yb S' own' M g.sn sn') (hlv:∀i,own' i≠ .no→lk S'.acc i≠none):MI S' ⟨g.m,g.ls,g.θ,g.sn,own'⟩ M c ⟨μ.l,μ.r,sn'⟩ where
 md:=hb _ _ (by simp[MG.bx]) h.md
 up:=h.up
 len:=h.len
 nd:=h.nd
 Cg:=h.Cg
 lb:=fun x bx l h1 h2=>wM (h.lb x bx l h1 h2) hNM (fun v q=>hb bx v (by have:=aaf h1;simp[MG.bx,this]) q) (fun i q=>ho i fun e=>by rw[e]at q;exact q) fun i v q=>ha i v (fun e=>by rw[e]at q;exact q) fun e=>by rw[e]at q;exact q
 tb:=h.tb.mono (fun i v q=>hb i v (by simp[MG.bx,q])) fun i v q=>ha i v (by rw[h.xQ i q];simp) (by rw[h.xQ i q];simp)
 xQ:=fun i q=>(ho i (by rw[h.xQ i q];simp)).trans (h.xQ i q)
 Fy:=hs
 oO:=(ho _ (by rw[h.oO];simp)).trans h.oO
 mU:=hlv
theorem Nq(hI:MI S g N c μ)(hw:oL S g w own o full)(hq:∀e,eJ μ o= .inl e→AD w0 S g N c μ e):ab Tryz.prog w0 80 [bC w] S (mX S g (N+1) c (eJ μ o)):=by
 have hwk:=hw.k;have hmd:=hI.md;refine mh [1,2] mx Tryz.func80 rfl rfl (by kernel_rfl) ?_;refine @aa _ (ah @Tryz.ntmps80 ?_);intro b2;have hw2:(b2.n=w)=False:=eq_false fun e=>by have:=ao b2;rw[e,hwk]at this;cases this
 have hm2:(b2.n=g.m)=False:=eq_false fun e=>by have:=ao b2;rw[e,hmd]at this;cases this
 have hH:Has S ⟨(b2.n,[dI 0,dI 0,.sl 0 true [],dI 0,dI 0,dI 0,dI 0,.sl 0 true []])::S.box,S.acc⟩:=⟨fun b x q=>ai (ao b2) q,fun _ _ q=>q⟩;refine Y.jZ [] [14,15] [0,1,2,7,9,10,11,12,3,4,5,6,8,13,14,15] mx (by kernel_rfl) ?_;refine @aa _ (aZ @hwk @hw2 @hmd @hm2 ?_);refine Y.nS (fun T hT=>fL _ (hT.box _ _ (hH.box _ _ hwk))) ?_;refine @aa _ (aZ @hwk @hw2 @hmd @hm2 ?_);have hIb:=hI.has hH;refine aw (MY w0 hIb.tb o.level o.az o.snap) ?_;rintro _ T ⟨rfl,hT,hF⟩;obtain⟨own',k1,k2,k3,k4⟩:=hIb.UE (abp N) hT hF;have wθ:w∉g.θ.bx:=fun q=>hw.f (by unfold MG.bx;exact ac0 _ q);have mθ:g.m∉g.θ.bx:=fun q=>hI.Cg _ q (aaQ ..);have bθ:b2.n∉g.θ.bx:=fun q=>hI.tb.ny _ q (ao b2);have t1:lk T.box w=some (uD g.m own o full):=hF.box _ _ wθ (hH.box _ _ hwk);have t2:lk T.box g.m=some (HL c g.ls g.θ.t g.sn):=hF.box _ _ mθ (hH.box _ _ hmd);have t3:lk T.box b2.n=some [dI 0,dI 0,.sl 0 true [],dI 0,dI 0,dI 0,dI 0,.sl 0 true []]:=hF.box _ _ bθ (by simp[lk]);have hfr:iO S T g ⟨g.m,g.ls,g.θ,g.sn,own'⟩:=(iO.has hH).trans k2
 cases hun:(oA μ.r o.level o.az o.snap).2 with
 |false=>
  have e1:=HE hun;rw[e1]at k1;refine @aa _ (av ?_);refine aw (aI w0 false 39 _ fun _ U hU=>?_) ?_
  ·exact hq 39 (by unfold eJ;exact if_pos hun) U _ (k1.has hU) (hfr.trans (.has hU))
  rintro _ _ ⟨q,_⟩;cases q
 |true=>
  refine @aa _ (av ?_);refine aw (aI w0 true 39 _ fun h=>by cases h) ?_;rintro _ U ⟨_,rfl,hU⟩;obtain rfl:=hU.symm;refine @aa _ (av ?_);refine Y.jZ [] [15] [0,1,2,7,9,10,11,12,3,4,5,6,8,13,14,15] mx (by kernel_rfl) ?_;refine @aa _ (cL @t1 @t2 @t3 ?_);refine Y.nS (fun U hU=>fL _ (hU.box _ _ t1)) ?_;obtain⟨es,cl,s1,s2⟩:=k1.Fy;simp only at s1;refine @aa _ (aZ @t1 @t2 @t3 @s1 ?_);have hb2:b2.n∉g.bx:=fun q=>hI.ny q (ao b2);refine⟨_,_,.refl _,.refl _,dP 0,_,_,by unfold eJ;rw[if_neg (by rw[hun];simp)],jJ,k1.Yi (aar _) own' _ ?_ (fun _ _=>rfl) ?_ ?_ ?_,rfl,?_,?_,hfr.nb,hfr.na⟩
  ·intro i v q1 q2;show lk (up _ _ _) i=_;rw[ae (fun e=>hb2 (by rw[e];exact q1))];exact q2
  ·intro i v q1 q2 q3;show lk (up _ _ _) i=_;rw[ae (fun e=>q2 (by rw[←e];exact k1.oO))];exact q3
  ·refine⟨_,cl,bd s1,fun lv n k=>?_⟩;unfold tT;by_cases e:lv=o.level∧n=o.az∧k=o.snap
   ·rw[if_pos e,e.1,e.2.1,e.2.2];exact⟨fun _=>eC _ _,fun Fs h=>by cases h⟩
   ·rw[if_neg e];have hne:L7 lv n k≠L7 o.level o.az o.snap:=fun q=>e (C9 q);refine⟨fun h=>(eX _ hne).trans ((s2 lv n k).1 h),fun Fs h=>?_⟩;obtain⟨bs,q1,q2⟩:=(s2 lv n k).2 Fs h;refine⟨bs,(eX _ hne).trans q1,BJ q2 (aar _) (fun _ e=>e) fun i v e q=>?_⟩;show lk (up _ _ _) i=_;rw[ae (fun r=>by rw[←r]at e;have:=k1.oO.symm.trans e;cases this)];exact q
  ·intro i q;exact jy (k1.mU i q)
  ·intro i v q1 q2;show lk (up _ _ _) i=_;rw[ae (fun e=>by rw[←e,ao b2]at q2;cases q2)];exact hfr.box i v q1 q2
  ·intro i v q1 q2;show lk (up _ _ _) i=_;rw[ae (fun e=>by rw[←e,hI.oO]at q1;cases q1)];exact hfr.acc i v q1 q2
structure SnL(T0:St)(N:Nat)(Fs:List eZ)(lo:Nat)(i:Nat)(A:List (Nat×Ob))(bs:List Nat):Prop where
 old:∀j x,lk T0.acc j=some x→lk A j=some x
 row:lk A lo=some (.arr 1 (bs.map DV.mp))
 len:bs.length=i
 el:∀(j:Nat) b F,bs[j]? =some b→Fs[j]? =some F→∃ids,BM ⟨T0.box,A⟩ b N ids F∧(lk T0.acc b=none∧b≠lo)∧∀n k,ids n=some k→lk T0.acc k=none∧k≠lo
theorem V3(hI:MI S g N c μ)(hM:ij N c μ)(hN:N≤10000)(hw:oL S g w own o full):ab Tryz.prog w0 79 [bC w] S (mX S g (N+1) c (nG μ o)):=by
 have hwk:=hw.k;have hmd:=hI.md;have hnl:=hM.n;refine mh [1,8] mx Tryz.func79 rfl rfl (by kernel_rfl) ?_;refine @aa _ (ah @Tryz.ntmps79 ?_);intro b2;have hw2:(b2.n=w)=False:=eq_false fun e=>by have:=ao b2;rw[e,hwk]at this;cases this
 have hm2:(b2.n=g.m)=False:=eq_false fun e=>by have:=ao b2;rw[e,hmd]at this;cases this
 have hH:Has S ⟨(b2.n,[dI 0,dI 0,.sl 0 true [],dI 0,dI 0,dI 0,dI 0,.sl 0 true []])::S.box,S.acc⟩:=⟨fun b x q=>ai (ao b2) q,fun _ _ q=>q⟩;refine Y.jZ [] [9] [0,1,2,7,3,4,5,6,8,9,10] mx (by kernel_rfl) ?_;refine @aa _ (aZ @hwk @hw2 @hmd @hm2 ?_);refine Y.nS (fun T hT=>fL _ (hT.box _ _ (hH.box _ _ hwk))) ?_;refine @aa _ (aZ @hwk @hw2 @hmd @hm2 ?_);have hIb:=hI.has hH;refine aw (U1 w0 hIb.tb hM.la (by omega) o.level o.az) ?_;rintro _ T ⟨rfl,hT,hF⟩;obtain⟨own',k1,k2,k3,k4⟩:=hIb.UE (abp N) hT hF;have wθ:w∉g.θ.bx:=fun q=>hw.f (by unfold MG.bx;exact ac0 _ q);have mθ:g.m∉g.θ.bx:=fun q=>hI.Cg _ q (aaQ ..);have bθ:b2.n∉g.θ.bx:=fun q=>hI.tb.ny _ q (ao b2);have t1:lk T.box w=some (uD g.m own o full):=hF.box _ _ wθ (hH.box _ _ hwk);have t2:lk T.box g.m=some (HL c g.ls g.θ.t g.sn):=hF.box _ _ mθ (hH.box _ _ hmd);have t3:lk T.box b2.n=some [dI 0,dI 0,.sl 0 true [],dI 0,dI 0,dI 0,dI 0,.sl 0 true []]:=hF.box _ _ bθ (by simp[lk]);have hfr:iO S T g ⟨g.m,g.ls,g.θ,g.sn,own'⟩:=(iO.has hH).trans k2;have hlen:=hI.len;generalize hsn:(oz μ.r o.level o.az).2=n at*;generalize hsr:(oz μ.r o.level o.az).1=r' at*;refine @aa _ (cK @t1 @t2 ?_);refine jr 4 1 rfl (by omega) fun lo=>?_;have hlo:=ao lo;have hloA:∀j x,lk T.acc j=some x→j≠lo.n:=fun j x h e=>by rw[e,hlo]at h;cases h
 refine fZ [] [0,2,3,4,23,24,25] (σ:=Nat×List (Nat×Ob)×List Nat) (fun s=>[(4,.acc lo.n s.1),(24,dI μ.l.length),(25,dI s.1)]) (fun s=>⟨T.box,s.2.1⟩) (fun s=>s.1≤μ.l.length∧SnL T (N+1) (μ.l.map uy.F) lo.n s.1 s.2.1 s.2.2) (fun s=>μ.l.length-s.1) (0,(lo.n,.arr 1 [])::T.acc,[]) mx (by kernel_rfl) ⟨⟨aa6 _,?_⟩,?_⟩ ?_
 ·exact⟨fun j x q=>ai hlo q,by simp[lk],rfl,fun j b F q=>by simp at q⟩
 ·exact @aa _ (ft @hlen)
 ·rintro⟨i,A,bs⟩ ⟨hi,hL⟩;simp only at hi hL;have hrow:=hL.row;have hbl:=hL.len;by_cases hil:i<μ.l.length
  ·have e1:IntKind.i64.wrap ((i:Int)+1)=((i+1:Nat):Int):=aJ (by omega);have hx:g.ls[i]? =some (g.ls[i]'(by omega)):=aac _;generalize g.ls[i]'(by omega)=bx at hx;obtain⟨l,hl,b,ids,r,dr,h1,h2,h3,h4,h5,h6⟩:=k1.uQ hx;simp only at hl;have hB:BM ⟨T.box,A⟩ b N.succ ids l.F:=h2.mono fun j x _ q=>hL.old j x q;refine @aa _ (cL @hx @h1 @e1 ?_);refine⟨fun _=>⟨by omega,?_⟩,fun h=>absurd hil h⟩;refine aw (JY w0 hB (by omega)) ?_;rintro _ U ⟨l',ids',rfl,hB',hbx,hac,hl0,hid⟩;obtain⟨Ub,Ua⟩:=U;simp only at hbx;subst hbx;have hrow':=hac _ _ hrow;have hm8:maxLen=9223372036854775807:=rfl;refine @aa _ (cL @hrow' @e1 @hm8 ?_);have hloa:∀j x,lk A j=some x→j≠lo.n∨j=lo.n:=fun j _ _=>(ac3 _).symm;have hnlo:∀j,lk A j=none→j≠lo.n:=fun j q e=>by rw[e,hrow]at q;cases q
   have hnT:∀j,lk A j=none→lk T.acc j=none:=fun j q=>by
    cases hx:lk T.acc j with
    |none=>rfl
    |some x=>rw[hL.old j x hx]at q;cases q
   refine⟨hbl,by omega,by omega,(i+1,up Ua lo.n (.arr 1 ((bs++[l']).map DV.mp)),bs++[l']),⟨by simp only;omega,⟨fun j x q=>?_,bd hrow',by simp[hbl],fun j b F q1 q2=>?_⟩⟩,by simp only;omega,⟨by rw[hbl];exact .refl _,rfl⟩,?_⟩
   ·rw[ae (abx (hloA j x q))];exact hac j x (hL.old j x q)
   ·rcases abz j bs.length with q3|q3
    ·rw[abE q3]at q1;obtain⟨idj,z1,z2,z3⟩:=hL.el j b F q1 q2;refine⟨idj,z1.mono fun c x hc hx=>?_,z2,z3⟩;have:c≠lo.n:=hc.elim (fun e=>by rw[e];exact z2.2) fun⟨n,hn⟩=>(z3 n c hn).2;show lk (up _ _ _) c=_;rw[ae (abx this)];exact hac c x hx
    ·rw[abl q3]at q1
     have hj:j-bs.length=0:=by
      cases hj:j-bs.length with
      |zero=>rfl
      |succ k=>rw[hj]at q1;simp at q1
     rw[hj]at q1;cases q1;have hji:j=i:=by omega
     rw[hji,aaE,hl]at q2;cases q2;have z1:∀c,(c=l'∨∃n,ids' n=some c)→lk A c=none:=fun c hc=>hc.elim (fun e=>by rw[e];exact hl0) fun⟨n,hn⟩=>hid n c hn;refine⟨ids',hB'.mono fun c x hc hx=>?_,⟨hnT _ hl0,hnlo _ hl0⟩,fun n k hk=>⟨hnT _ (hid n k hk),hnlo _ (hid n k hk)⟩⟩;show lk (up _ _ _) c=_;rw[ae (abx (hnlo c (z1 c hc)))];exact hx
   ·rw[aaZ];exact .refl _
  ·have hie:i=μ.l.length:=by omega
   subst hie;refine @aa _ (cK @t1 @t2 ?_);refine⟨fun h=>absurd h hil,fun _=>?_⟩;refine Y.jZ [] [12] [0,1,2,7,9,11,3,4,5,6,8,10,12] mx (by kernel_rfl) ?_;refine @aa _ (aZ @t1 @t2 @t3 @hrow ?_);refine Y.nS (fun U hU=>fL _ (hU.box _ _ t1)) ?_;obtain⟨es,cl,s1,s2⟩:=k1.Fy;simp only at s1;have s1':=hL.old _ _ s1;have hls:(lo.n=g.sn)=False:=eq_false fun e=>hloA _ _ s1 e.symm;have hls':(g.sn=lo.n)=False:=eq_false fun e=>hloA _ _ s1 e;refine @aa _ (kH @t1 @t2 @t3 @hrow @s1' @hls @hls' ?_);have hb2:b2.n∉g.bx:=fun q=>hI.ny q (ao b2)
   have hE:∃own2:Nat→Ow,(∀i,lk T.acc i=none→i≠lo.n→lk A i≠none→own2 i= .sp)∧(∀i,own' i≠ .no→own2 i=own' i)∧∀i,own2 i≠ .no→own' i≠ .no∨(lk T.acc i=none∧lk A i≠none):=by
    classical
    refine⟨fun i=>if lk T.acc i=none∧i≠lo.n∧lk A i≠none then .sp else own' i,fun i q1 q2 q3=>if_pos ⟨q1,q2,q3⟩,fun i q=>if_neg fun r=>k1.mU i q r.1,fun i q=>?_⟩;simp only at q;split at q
    ·rename_i q2;exact .inr ⟨q2.1,q2.2.2⟩
    ·exact .inl q
   obtain⟨own2,o1,o2,o3⟩:=hE;have hup:∀X Y:Ob,∀i v,i≠lo.n→i≠g.sn→lk A i=some v→lk (up (up A lo.n X) g.sn Y) i=some v:=fun X Y i v q1 q2 q3=>by rw[ae (abx q2),ae (abx q1)];exact q3
   have hsnT:∀i,lk T.acc i=none→i≠g.sn:=fun i q e=>by rw[e,s1]at q;cases q
   refine⟨hbl,_,_,.refl _,.refl _,Fk n,_,_,by unfold nG;rw[hsn,hsr],.agg ⟨.refl _,.refl _,.nil _ _ _,.refl _,.refl _,.refl _,.refl _,.nil _ _ _,trivial⟩,k1.Yi (aar _) own2 _ ?_ o2 ?_ ?_ ?_,rfl,?_,?_,hfr.nb,?_⟩
   ·intro i v q1 q2;show lk (up _ _ _) i=_;rw[ae (fun e=>hb2 (by rw[e];exact q1))];exact q2
   ·intro i v q1 q2 q3;exact hup _ _ i v (hloA i v q3) (fun e=>q2 (by rw[e];exact k1.oO)) (hL.old i v q3)
   ·refine⟨_,_,bd (by rw[ae (by rw[hls];exact id)];exact s1'),fun lv m k=>?_⟩;unfold tT;by_cases e:lv=o.level∧m=o.az∧k=n
    ·rw[if_pos e,e.1,e.2.1,e.2.2];refine⟨fun h=>(by cases h),fun Fs h=>?_⟩;cases h;refine⟨bs,bD _ _ _ _,by rw[hbl,abI],fun j b F q1 q2=>?_⟩;obtain⟨idj,z1,z2,z3⟩:=hL.el j b F q1 q2;refine⟨idj,z1.mono fun c x hc hx=>?_,o1 b z2.1 z2.2 z1.lk,fun m' k' hk=>o1 k' (z3 m' k' hk).1 (z3 m' k' hk).2 ?_⟩
     ·have:lk T.acc c=none∧c≠lo.n:=hc.elim (fun e=>by rw[e];exact z2) fun⟨n,hn⟩=>z3 n c hn;exact hup _ _ c x this.2 (hsnT c this.1) hx
     ·obtain⟨f,hf⟩:=jK z1 hk;exact(z1.low m' k' f hk hf).lk
    ·rw[if_neg e];have hne:L7 lv m k≠L7 o.level o.az n:=fun q=>e (C9 q);refine⟨fun h=>(cM _ _ hne _).trans ((s2 lv m k).1 h),fun Fs h=>?_⟩;obtain⟨bs',q1,q2⟩:=(s2 lv m k).2 Fs h;refine⟨bs',(cM _ _ hne _).trans q1,BJ q2 (aar _) (fun i e=>(o2 i (by intro r;have:=e.symm.trans r;cases this)).trans e) fun i v e q=>?_⟩;exact hup _ _ i v (hloA i v q) (fun r=>by rw[r]at e;have:=k1.oO.symm.trans e;cases this) (hL.old i v q)
   ·intro i q;rcases o3 i q with r|⟨_,r⟩
    ·obtain⟨x,hx⟩:=bF (k1.mU i r);exact gE (gE (by rw[hL.old i x hx];simp))
    ·exact gE (gE r)
   ·intro i v q1 q2;show lk (up _ _ _) i=_;rw[ae (fun e=>by rw[←e,ao b2]at q2;cases q2)];exact hfr.box i v q1 q2
   ·intro i v q1 q2;have q3:=hfr.acc i v q1 q2;exact hup _ _ i v (hloA i v q3) (fun e=>by rw[e,hI.oO]at q1;cases q1) (hL.old i v q3)
   ·intro i q;rcases o3 i q with r|⟨r,_⟩
    ·exact hfr.na i r
    ·refine(ac3 (g.own i≠ .no)).imp id fun q1=>?_
     cases hx:lk S.acc i with
     |none=>rfl
     |some v=>rw[hfr.acc i v (abe.1 q1) hx]at r;cases r
end
end Go.Proofs.YtoepfmhnapedoaaGreatDoor
namespace Go.Proofs.YtoepfmhnapedoaaGreatDoor
open Aml Go
def QS(a b:ByteArray):Bool:=Op.bytesLess a.data.toList b.data.toList||decide (a.data.toList=b.data.toList)
def xx(a b:ByteArray):Bool:=Op.bytesLess a.data.toList b.data.toList
def eqS(a b:ByteArray):Bool:=decide (a.data.toList=b.data.toList)
@[go_sem] theorem aaH (a b:ByteArray) (K:DV→Prop):gO .gtr a b K=K (.v (.bool (!QS a b))):=rfl
@[go_sem] theorem aae (a b:ByteArray) (K:DV→Prop):gO .geq a b K=K (.v (.bool (!xx a b))):=rfl
def need(z:Int):Nat:=if 16<z∧z≤400 then((z+118)/119).toNat else 0
def Bd(l:List Int):Prop:=l.length≤1048576∧∀x,x∈l→0≤x∧x≤1048576
theorem G3:∀(l:List Int),(∀x,x∈l→0≤x∧x≤1048576)→0≤l.sum∧l.sum≤1048576*l.length
 |[],_=>by simp
 |a::l,h=>by
  have h1:=G3 l fun x hx=>h x (aat _ hx);have h2:=h a aaQ;simp only[ac6,aaW];omega
theorem Bd.take{l:List Int}(h:Bd l)(k:Nat):Bd (l.take k):=⟨by rw[ab2];have:=h.1;omega,fun x hx=>h.2 x (acC hx)⟩
theorem Bd.drop{l:List Int}(h:Bd l)(k:Nat):Bd (l.drop k):=⟨by rw[acq];have:=h.1;omega,fun x hx=>h.2 x (acb hx)⟩
theorem Bd.sum{l:List Int}(h:Bd l):0≤l.sum∧l.sum≤1099511627776:=by
 have:=G3 l h.2;have:=h.1;omega
def PJ(l:List Int)(at_:Nat):Int:=if(l.take at_).sum>(l.drop at_).sum then(l.take at_).sum else(l.drop at_).sum
def Yu(l:List Int):Nat→Nat
 |0=>1
 |j+1=>if PJ l (j+2)<PJ l (Yu l j)then j+2 else Yu l j
def atR(l:List Int):Nat:=if l.sum≤122∨l.length<2 then 0 else Yu l (l.length-2)
def ZH(l:List Int):Bool:=decide (l.sum<30)
mutual
inductive N where
 |mk (Sz:Int) (leaf:Bool) (l:List C)
inductive C where
 |mk (key data:ByteArray) (vL:List Int) (nz:List N)
end
def N.Sz:N→Int| .mk p _ _=>p
def N.leaf:N→Bool| .mk _ b _=>b
def N.l:N→List C| .mk _ _ l=>l
def C.key:C→ByteArray| .mk k _ _ _=>k
def C.data:C→ByteArray| .mk _ d _ _=>d
def C.vL:C→List Int| .mk _ _ p _=>p
def C.nz:C→List N| .mk _ _ _ k=>k
mutual
def dN:N→DV
 | .mk p b l=> .agg [dI p,dB b,.sl 4 false (dCs l)]
def dC:C→DV
 | .mk k d ps nz=> .agg [dS k,dS d,.sl 1 false (ps.map dI),.sl 3 false (dNs nz)]
def dCs:List C→List DV
 |[]=>[]
 |c::l=>dC c::dCs l
def dNs:List N→List DV
 |[]=>[]
 |n::l=>dN n::dNs l
end
mutual
def okN:N→Prop
 | .mk _ b l=>(b=false→l≠[])∧W3 l b
def rT:C→Bool→Prop
 | .mk _ _ _ nz,b=>b=false→nz.length=1∧U2 nz
def W3:List C→Bool→Prop
 |[],_=>True
 |c::l,b=>rT c b∧W3 l b
def U2:List N→Prop
 |[]=>True
 |n::l=>okN n∧U2 l
end
mutual
def Zc:N→Nat
 | .mk _ _ l=>Qg l
def YF:C→Nat
 | .mk _ _ _ nz=>1+P1 nz
def Qg:List C→Nat
 |[]=>0
 |c::l=>YF c+Qg l
def P1:List N→Nat
 |[]=>0
 |n::l=>Zc n+P1 l
end
mutual
def YA:N→Nat
 | .mk _ b l=>if b then 0 else 1+Ql l
def YB:C→Nat
 | .mk _ _ _ nz=>P6 nz
def Ql:List C→Nat
 |[]=>0
 |c::l=>max (YB c) (Ql l)
def P6:List N→Nat
 |[]=>0
 |n::l=>max (YA n) (P6 l)
end
mutual
def smN:N→Prop
 | .mk _ _ l=>V6 l
def smC:C→Prop
 | .mk k d ps nz=>k.size≤16∧d.size≤400∧ps.length≤4∧VV nz
def V6:List C→Prop
 |[]=>True
 |c::l=>smC c∧V6 l
def VV:List N→Prop
 |[]=>True
 |n::l=>smN n∧VV l
end
def P0(b:Bool)(c:C):Int:=if b then(if(need c.data.size:Int)>0∨(c.data.size:Int)>400 then 7+c.key.size else 3+c.key.size+c.data.size)else 4+c.key.size
def oa(n:N):List Int:=n.l.map (P0 n.leaf)
def Q6(l:List C)(key:ByteArray):Nat→Nat
 |0=>0
 |i+1=>match l[i+1]? with
  |some c=>if QS c.key key then i+1 else Q6 l key i
  |none=>Q6 l key i
def XT(l:List C)(key:ByteArray):Nat:=Q6 l key (l.length-1)
def xY(l:List C)(i:Nat)(some_:List C):List C:=l.take i++some_++l.drop (i+1)
def Mk:ByteArray:=ByteArray.empty
def za(key:ByteArray)(nz:N):C:= .mk key Mk [] [nz]
def Je(key:ByteArray):List C→List C
 |[]=>[]
 |c::l=> .mk key c.data c.vL c.nz::l
def keyOf:List C→ByteArray
 |[]=>Mk
 |c::_=>c.key
def Dl(n nz:N)(k:Nat)(key:ByteArray):N×Bool:=
 let i:=atR (oa nz)
 if i=0 then(n,false)else
 let r:=nz.l.drop i
 (.mk 0 false (xY n.l k [za key (.mk 0 nz.leaf (nz.l.take i)),za (keyOf r) (.mk 0 nz.leaf (if nz.leaf then r else Je Mk r))]),true)
def O6(c:C):N:=c.nz.headD (.mk 0 true [])
def cellAt(l:List C)(k:Nat):C:=l.getD k (.mk Mk Mk [] [])
def V7(a b:N)(key:ByteArray):N:= .mk 0 a.leaf (a.l++if b.leaf then b.l else Je key b.l)
def Qv(n:N)(k:Nat):N:=
 let c:=cellAt n.l k
 let p:=Dl n (O6 c) k c.key
 if p.2 then p.1 else
 if !ZH (oa (O6 c))||decide (n.l.length<2)then n else
 let j:=if k+1<n.l.length then k else k-1
 let both:=V7 (O6 (cellAt n.l j)) (O6 (cellAt n.l (j+1))) (cellAt n.l (j+1)).key
 (Dl (.mk 0 false (xY (xY n.l (j+1) []) j [za (cellAt n.l j).key both])) both j (cellAt n.l j).key).1
structure acf(n:N):Prop where
 len:n.l.length≤524288
 nz:∀c,c∈n.l→∃k,c.nz=[k]∧smN k∧k.l.length≤524288
 key:∀c,c∈n.l→c.key.size≤16
def V4:N→N
 | .mk p false [.mk ck cd cp (k::r)]=>V4 k
 |n=>if atR (oa n)=0 then n else Qv (.mk 0 false [za Mk n]) 0
termination_by n=>SizeOf.sizeOf n
decreasing_by simp;omega
def Zr(l:List C)(key:ByteArray):Nat:=(l.takeWhile fun c=>xx c.key key).length
def NF(l:List C)(key val:ByteArray):List C:=
 let i:=Zr l key
 match l[i]? with
 |some c=>if eqS c.key key then xY l i [.mk key val [] []]else l.take i++[.mk key val [] []]++l.drop i
 |none=>l.take i++[.mk key val [] []]++l.drop i
def Wg(key val:ByteArray):N→N
 | .mk p true l=> .mk 0 true (NF l key val)
 | .mk p false l=>match h:l[XT l key]? with
  |some (.mk ck cd cp (k::r))=>Qv (.mk 0 false (xY l (XT l key) [za ck (Wg key val k)])) (XT l key)
  |_=> .mk 0 true []
termination_by n=>SizeOf.sizeOf n
decreasing_by
 have h1:=List.sizeOf_lt_of_mem (aaf h);simp at h1 ⊢;omega
def Put(key val:ByteArray)(n:N):N:=V4 (Wg key val n)
theorem u7:∀(a:List UInt8),Op.bytesLess a a=false
 |[]=>rfl
 |x::a=>by simp[Op.bytesLess,u7 a]
theorem Ax:∀{a b c:List UInt8},Op.bytesLess a b=true→Op.bytesLess b c=true→Op.bytesLess a c=true
 |[],[],_,h,_=>by simp[Op.bytesLess]at h
 |[],_::_,[],_,h=>by simp[Op.bytesLess]at h
 |[],_::_,_::_,_,_=>by simp[Op.bytesLess]
 |_::_,[],_,h,_=>by simp[Op.bytesLess]at h
 |_::_,_::_,[],_,h=>by simp[Op.bytesLess]at h
 |x::a,y::b,z::c,h1,h2=>by
  simp only[Op.bytesLess,acx,decide_eq_true_eq,aak,beq_iff_eq]at h1 h2 ⊢;rcases h1 with h1|⟨rfl,h1⟩
  ·rcases h2 with h2|⟨rfl,h2⟩
   ·exact .inl (UInt8.lt_trans h1 h2)
   ·exact .inl h1
  ·rcases h2 with h2|⟨rfl,h2⟩
   ·exact .inl h2
   ·exact .inr ⟨rfl,Ax h1 h2⟩
theorem IH:∀(a b:List UInt8),Op.bytesLess a b=true∨a=b∨Op.bytesLess b a=true
 |[],[]=> .inr (.inl rfl)
 |[],_::_=> .inl (by simp[Op.bytesLess])
 |_::_,[]=> .inr (.inr (by simp[Op.bytesLess]))
 |x::a,y::b=>by
  simp only[Op.bytesLess,acx,decide_eq_true_eq,aak,beq_iff_eq];rcases UInt8.lt_or_lt_of_ne (a:=x) (b:=y)|>fun f=>ac3 (x=y) |>.elim (fun h=>Or.inr h) fun h=>Or.inl (f h)with h|rfl
  ·rcases h with h|h
   ·exact .inl (.inl h)
   ·exact .inr (.inr (.inl h))
  ·rcases IH a b with h|rfl|h
   ·exact .inl (.inr ⟨rfl,h⟩)
   ·exact .inr (.inl rfl)
   ·exact .inr (.inr (.inr ⟨rfl,h⟩))
theorem Iw{a b:ByteArray}(h:a.data.toList=b.data.toList):a=b:=by
 cases a;cases b;simp only[ByteArray.mk.injEq];exact Array.toList_inj.1 h
theorem nO(a:ByteArray):xx a a=false:=u7 _
theorem GP{a b c:ByteArray}(h:xx a b=true)(k:xx b c=true):xx a c=true:=Ax h k
theorem OX(a b:ByteArray):xx a b=true∨a=b∨xx b a=true:=(IH a.data.toList b.data.toList).imp id (Or.imp Iw id)
theorem vu{a b:ByteArray}(h:xx a b=true):xx b a=false:=by
 rw[←ads];intro k;have:=GP h k;rw[nO]at this;cases this
theorem TC{a b:ByteArray}(h:xx a b=true):a≠b:=by rintro rfl;rw[nO]at h;cases h
theorem Tz(a b:ByteArray):QS a b=!xx b a:=by
 unfold QS;rcases OX a b with h|rfl|h
 ·rw[vu h,show Op.bytesLess a.data.toList b.data.toList=true from h];rfl
 ·rw[nO];simp
 ·have h1:=vu h;have h2:¬a.data.toList=b.data.toList:=fun e=>TC h (Iw e).symm;rw[h,show Op.bytesLess a.data.toList b.data.toList=false from h1,decide_eq_false h2];rfl
theorem half{m:Int}(hm:0≤m):∀(l:List Int),(∀x,x∈l→0≤x∧x≤m)→∀u:Int,0≤u→u≤2*l.sum→∃p,p≤l.length∧2*(l.take p).sum≤u+m∧u≤2*(l.take p).sum+m:=by
 intro l
 induction l with
 |nil=>intro _ u h0 h1;exact⟨0,aar _,by simp at *;omega,by simp at *;omega⟩
 |cons a l ih=>
  intro h u h0 h1;obtain⟨a0,am⟩:=h a aaQ;rw[ac6]at h1;by_cases ht:u≤a
  ·exact⟨0,aa6 _,by simp;omega,by simp;omega⟩
  ·by_cases hta:u≤2*a
   ·exact⟨1,by simp,by simp;omega,by simp;omega⟩
   ·obtain⟨p,p1,p2,p3⟩:=ih (fun x hx=>h x (aat _ hx)) (u-2*a) (by omega) (by omega);exact⟨p+1,by simp;omega,by rw[List.take_succ_cons,ac6];omega,by rw[List.take_succ_cons,ac6];omega⟩
mutual
def enN:N→List C
 | .mk _ b l=>Wp b l
def Xw(b:Bool):C→List C
 | .mk k d ps nz=>if b then [.mk k d ps nz]else Yr nz
def Wp(b:Bool):List C→List C
 |[]=>[]
 |c::l=>Xw b c++Wp b l
def Yr:List N→List C
 |[]=>[]
 |n::_=>enN n
end
def ShL(c:C):Prop:=c.key≠Mk∧c.key.size≤16∧c.data.size≤400∧(c.vL≠[]→16<c.data.size)∧c.vL.length≤4∧c.nz=[]
def ShK(c:C):Prop:=c.key.size≤16∧c.data=Mk∧c.vL=[]
def RC(c c':C):Prop:=xx c.key c'.key=true∧∀x,x∈Xw false c→xx x.key c'.key=true
def Yj(l:List C):Prop:=l.Pairwise fun a b=>xx a.key b.key=true
def Fits(n:N):Prop:=30≤(oa n).sum∧(oa n).sum≤122
def DY(G F:N→Prop)(c:C):Prop:=ShK c∧(∀x,x∈Xw false c→QS c.key x.key=true)∧∃k,c.nz=[k]∧G k∧F k
structure Z9(G:N→Prop)(l:List C):Prop where
 k0:keyOf l=Mk
 pw:l.Pairwise RC
 cell:∀c,c∈l→DY G Fits c
def Good:Nat→N→Prop
 |0,n=>n.leaf=true∧Yj n.l∧∀c,c∈n.l→ShL c
 |d+1,n=>n.leaf=false∧n.l≠[]∧Z9 (Good d) n.l
structure Pre(d:Nat)(A:List C)(c:C)(B:List C):Prop where
 k0:keyOf (A++c::B)=Mk
 pw:(A++c::B).Pairwise RC
 ahead:∀x,x∈A→DY (Good d) Fits x
 behind:∀x,x∈B→DY (Good d) Fits x
 own:DY (Good d) (fun k=>(oa k).sum≤167) c
structure JH(d:Nat)(L:List C)(m:N):Prop where
 leaf:m.leaf=false
 Sz:m.Sz=0
 ne:m.l≠[]
 br:Z9 (Good d) m.l
 en:enN m=L.flatMap (Xw false)
 sum:(oa m).sum≤(L.map (P0 false)).sum+20
theorem JH.zE{d:Nat}{L:List C}{m:N}(h:JH d L m):Good (d+1) m:=⟨h.leaf,h.ne,h.br⟩
end Go.Proofs.YtoepfmhnapedoaaGreatDoor
namespace Go.Proofs.YtoepfmhnapedoaaGreatDoor
open Aml Go
end Go.Proofs.YtoepfmhnapedoaaGreatDoor
namespace Go.Proofs.YtoepfmhnapedoaaGreatDoor
open Aml Go
def RA(x:Int):Int:=if x.tmod 2=1 then cZ .xor .u32 (IntKind.u32.wrap (x.tdiv 2)) 3988292384 else IntKind.u32.wrap (x.tdiv 2)
def kA:Nat→Int→Int
 |0,x=>x
 |k+1,x=>RA (kA k x)
def iF(s:ByteArray):List Int:=s.data.toList.map fun c=>(c.toNat:Int)
theorem ye(s:ByteArray):(iF s).length=s.size:=by unfold iF;rw[abI];rfl
def mW(l:List Int)(x:Int):Int:=l.foldl (fun x c=>kA 8 (cZ .xor .u32 x (IntKind.u32.wrap c))) x
def W5(x:Int)(s:ByteArray):Int:=IntKind.u32.wrap (4294967295-mW (iF s) (IntKind.u32.wrap (4294967295-x)))
theorem onR(w0:W0)(x:Int)(s:ByteArray)(S:St)(h:s.size≤1048576):ab Tryz.prog w0 163 [.v (.int .u32 x),dS s] S (fun d S'=>d= .v (.int .u32 (W5 x s))∧S'=S):=by
 refine bI [] mx Tryz.func163 rfl rfl (by kernel_rfl) ?_;refine @aa _ (ah @Tryz.ntmps163 ?_);refine aQ [] s.size [1,5,6] (fun i=>[(5,.v (.int .u32 (mW ((iF s).take i) (IntKind.u32.wrap (4294967295-x))))),(6,dI i)]) (fun _=>S) (fun _=>True) mx (by kernel_rfl) ?_ ?_
 ·refine @aa _ (av ?_);rfl
 ·intro i hi _;refine @aa _ (av ?_);refine⟨fun hlt=>⟨hlt,fun c hc=>?_⟩,fun hge=>by rw[abf (by rw[ye];omega)];rfl⟩
  have hs:(iF s).take (i+1)=(iF s).take i++[(c.toNat:Int)]:=by
   rw[abY];unfold iF;rw[aaE,hc];rfl
  have hX:mW ((iF s).take (i+1)) (IntKind.u32.wrap (4294967295-x))=kA 8 (cZ .xor .u32 (mW ((iF s).take i) (IntKind.u32.wrap (4294967295-x))) (IntKind.u32.wrap (c.toNat:Int))):=by
   rw[hs];unfold mW;rw[ac9];rfl
  rw[hX];generalize cZ .xor .u32 (mW ((iF s).take i) (IntKind.u32.wrap (4294967295-x))) (IntKind.u32.wrap (c.toNat:Int))=X;refine aQ [] 8 [1,5,6,7] (fun j=>[(5,.v (.int .u32 (kA j X))),(7,dI j)]) (fun _=>S) (fun _=>True) mx (by kernel_rfl) ?_ ?_
  ·refine @aa _ (av ?_);rfl
  ·intro j hj _;refine @aa _ (av ?_);have e1:(kA j X).tmod 2=1→kA (j+1) X=cZ .xor .u32 (IntKind.u32.wrap ((kA j X).tdiv 2)) 3988292384:=fun h=>if_pos h;have e2:¬(kA j X).tmod 2=1→kA (j+1) X=IntKind.u32.wrap ((kA j X).tdiv 2):=fun h=>if_neg h;refine⟨fun hlt2=>⟨fun hb=>⟨by omega,(e1 hb).symm,by rw[nJ (by omega) (by omega)];rfl⟩,fun hb=>⟨by omega,(e2 hb).symm,by rw[nJ (by omega) (by omega)];rfl⟩⟩,fun hge=>⟨hlt,by rw[show j=8 by omega],by rw[nJ (by omega) (by omega)];rfl⟩⟩
theorem ofR(w0:W0)(s:ByteArray)(S:St)(h:s.size≤1048576):ab Tryz.prog w0 138 [dS s] S (fun d S'=>d= .v (.int .u32 (W5 0 s))∧S'=S):=by
 refine bI [] mx Tryz.func138 rfl rfl (by kernel_rfl) ?_;refine @aa _ (ah @Tryz.ntmps138 ?_);refine aq (onR w0 0 s _ h) ?_;exact @aa _ bY
@[go_sem] def dV2 (c:C):DV:= .agg [dS c.data,.sl 1 false (c.vL.map dI)]
mutual
def dT:N→DV
 | .mk p b l=> .agg [dI p,dB b,.sl 1 false (l.map fun c=>dS c.key),.sl 2 false ((if b then l else []).map dV2),.sl 5 false (if b then []else VW l)]
def dTC:C→List DV
 | .mk _ _ _ nz=>YV nz
def VW:List C→List DV
 |[]=>[]
 |c::l=>dTC c++VW l
def YV:List N→List DV
 |[]=>[]
 |n::_=>[dT n]
end
end Go.Proofs.YtoepfmhnapedoaaGreatDoor
namespace Go.Proofs.YtoepfmhnapedoaaGreatDoor
open Aml Go
end Go.Proofs.YtoepfmhnapedoaaGreatDoor
namespace Go.Proofs.YtoepfmhnapedoaaGreatDoor
open Aml Go
def fl(rows:List (List DV)):List DV:=rows.flatten
end Go.Proofs.YtoepfmhnapedoaaGreatDoor
namespace Go.Proofs.YtoepfmhnapedoaaGreatDoor
open Aml Go
end Go.Proofs.YtoepfmhnapedoaaGreatDoor
namespace Go.Proofs.YtoepfmhnapedoaaGreatDoor
open Aml Go
def qS:List Int:=[0,498536548,997073096,651767980,1994146192,1802195444,1303535960,1342533948,3988292384,4027552580,3604390888,3412177804,2607071920,2262029012,2685067896,3183342108]
def nB:List Value:=qS.map fun z=> .int .u32 z
def nE(w0:W0):Prop:=qk w0 3 nB
def fB(x:BitVec 32):BitVec 32:=(x >>> 1) ^^^ (if x.getLsbD 0 then 3988292384#32 else 0#32)
theorem TB(x y p:BitVec 32):x ^^^ (y ^^^ p)=y ^^^ (x ^^^ p):=by rw[←adK,BitVec.xor_comm x y,adK]
theorem Rw(x y p:BitVec 32):(x ^^^ p) ^^^ (y ^^^ p)=x ^^^ y:=by
 rw[adK,TB p y p,BitVec.xor_self,BitVec.xor_zero]
theorem Tk(a b:BitVec 32):fB (a ^^^ b)=fB a ^^^ fB b:=by
 unfold fB;rw[BitVec.ushiftRight_xor_distrib,BitVec.getLsbD_xor];cases a.getLsbD 0 <;>cases b.getLsbD 0
 ·simp
 ·simp[adK]
 ·simp only[Bool.xor_false,Bool.true_xor,Bool.not_false,if_true,abQ,if_false,BitVec.xor_zero];rw[adK,adK,BitVec.xor_comm (b >>> 1)]
 ·simp only[bne_self_eq_false,Bool.xor_self,abQ,if_false,if_true,BitVec.xor_zero];exact(Rw _ _ _).symm
def EE(x:BitVec 32):BitVec 32:=fB (fB (fB (fB x)))
theorem N4(a b:BitVec 32):EE (a ^^^ b)=EE a ^^^ EE b:=by unfold EE;simp only[Tk]
theorem rX{x:BitVec 32}(h:x.getLsbD 0=false):fB x=x >>> 1:=by unfold fB;rw[h];simp
theorem JO(x:BitVec 32):x=((x >>> 4) <<< 4) ^^^ (x &&& 15#32):=by
 refine BitVec.eq_of_getLsbD_eq fun i hi=>?_;rw[BitVec.getLsbD_xor,BitVec.getLsbD_shiftLeft,ada,BitVec.getLsbD_and]
 have h15:(15#32:BitVec 32).getLsbD i=decide (i<4):=by
  revert hi
  have:∀j:Fin 32,(15#32:BitVec 32).getLsbD j=decide (j.val<4):=by decide
  exact fun hi=>this ⟨i,hi⟩
 rw[h15];by_cases h4:i<4
 ·simp[h4]
 ·simp[h4,hi,show 4+(i-4)=i by omega]
theorem RM(x:BitVec 32):EE ((x >>> 4) <<< 4)=x >>> 4:=by
 have hb:∀k,k<4→(((x >>> 4) <<< 4) >>> k).getLsbD 0=false:=fun k hk=>by
  rw[ada,BitVec.getLsbD_shiftLeft];simp;intro _ h;omega
 unfold EE;have e0:fB ((x >>> 4) <<< 4)=((x >>> 4) <<< 4) >>> 1:=rX (by have:=hb 0 (by decide);simp at this ⊢);have e1:fB (((x >>> 4) <<< 4) >>> 1)=((x >>> 4) <<< 4) >>> 2:=by rw[rX (hb 1 (by decide)),←BitVec.shiftRight_add]
 have e2:fB (((x >>> 4) <<< 4) >>> 2)=((x >>> 4) <<< 4) >>> 3:=by rw[rX (hb 2 (by decide)),←BitVec.shiftRight_add]
 have e3:fB (((x >>> 4) <<< 4) >>> 3)=((x >>> 4) <<< 4) >>> 4:=by rw[rX (hb 3 (by decide)),←BitVec.shiftRight_add]
 rw[e0,e1,e2,e3];refine BitVec.eq_of_getLsbD_eq fun i hi=>?_;rw[ada,BitVec.getLsbD_shiftLeft,ada,ada];by_cases h:4+i<32
 ·simp[h]
 ·have:x.getLsbD (4+i)=false:=BitVec.getLsbD_of_ge _ _ (by omega);simp[h,this]
def RD(k:Nat):BitVec 32:=BitVec.ofInt 32 (qS.getD k 0)
theorem RY:∀r:Fin 16,EE (BitVec.ofNat 32 r)=RD r:=by decide
theorem Rr(x:BitVec 32):EE x=(x >>> 4) ^^^ RD (x &&& 15#32).toNat:=by
 have h:=JO x
 have hlt:(x &&& 15#32).toNat<16:=by
  rw[BitVec.toNat_and];exact ady Nat.and_le_right (by decide)
 have hr:=RY ⟨_,hlt⟩;simp only at hr;rw[BitVec.ofNat_toNat,BitVec.setWidth_eq]at hr
 conv=>lhs;rw[h]
 rw[N4,RM,hr]
def mO(b:BitVec 32):Int:=(b.toNat:Int)
theorem sD(b:BitVec 32):IntKind.u32.wrap (mO b)=mO b:=by
 have e:IntKind.u32.wrap (mO b)=mO b%4294967296:=rfl;have:=b.isLt;rw[e];unfold mO;omega
theorem xr(b:BitVec 32):BitVec.ofInt IntKind.u32.bits (mO b)=b:=by
 show BitVec.ofInt 32 (b.toNat:Int)=b;rw[adE,BitVec.ofNat_toNat,BitVec.setWidth_eq]
theorem lX(x y:Int):cZ .xor .u32 x y=mO (BitVec.ofInt 32 x ^^^ BitVec.ofInt 32 y):=sD (BitVec.ofInt 32 x ^^^ BitVec.ofInt 32 y)
theorem Ao(x y:Int):cZ .and .u32 x y=mO (BitVec.ofInt 32 x &&& BitVec.ofInt 32 y):=sD (BitVec.ofInt 32 x &&& BitVec.ofInt 32 y)
theorem O3(b:BitVec 32):RA (mO b)=mO (fB b):=by
 have h2:(mO b).tdiv 2=mO (b >>> 1):=by
  unfold mO;rw[BitVec.toNat_ushiftRight,Nat.shiftRight_eq_div_pow,Int.tdiv_eq_ediv_of_nonneg (by omega)];omega
 have h3:(mO b).tmod 2=((b.toNat%2:Nat):Int):=by
  unfold mO;rw[Int.tmod_eq_emod_of_nonneg (by omega)];omega
 have h4:b.getLsbD 0=decide (b.toNat%2=1):=Nat.testBit_zero b.toNat;unfold RA fB;rw[h2,h3,h4,sD];by_cases h:b.toNat%2=1
 ·rw[if_pos (by omega),lX,decide_eq_true h,if_pos rfl];have:BitVec.ofInt 32 (mO (b >>> 1))=b >>> 1:=xr _;rw[this];rfl
 ·rw[if_neg (by omega),decide_eq_false h];simp
theorem yM(b:BitVec 32):kA 8 (mO b)=mO (EE (EE b)):=by
 simp only[kA,O3];rfl
def u5(x:Int):Int:=cZ .xor .u32 (x.fdiv (2^4)) (qS.getD (cZ .and .u32 x 15).toNat 0)
theorem xW(b:BitVec 32):u5 (mO b)=mO (EE b):=by
 unfold u5
 have h1:(mO b).fdiv (2^4)=mO (b >>> 4):=by
  unfold mO;rw[BitVec.toNat_ushiftRight,Nat.shiftRight_eq_div_pow,Int.fdiv_eq_ediv_of_nonneg _ (by decide)];omega
 have h2:cZ .and .u32 (mO b) 15=mO (b &&& 15#32):=by
  rw[Ao];have:BitVec.ofInt 32 (mO b)=b:=xr b;rw[this];rfl
 rw[h1,h2,lX,Rr];have:BitVec.ofInt 32 (mO (b >>> 4))=b >>> 4:=xr _;rw[this];unfold RD mO;rw[acI]
theorem H0(x:Int)(c:Int):kA 8 (cZ .xor .u32 x (IntKind.u32.wrap c))=u5 (u5 (cZ .xor .u32 x (IntKind.u32.wrap c))):=by
 rw[lX,yM,xW,xW]
theorem lS(x:Int):0≤cZ .and .u32 x 15∧cZ .and .u32 x 15<16:=by
 rw[Ao];unfold mO
 have:(BitVec.ofInt 32 x &&& BitVec.ofInt 32 15).toNat<16:=by
  rw[BitVec.toNat_and];exact ady Nat.and_le_right (by decide)
 omega
theorem HF:∀r:Fin 16,(nB.map DV.v).drop r.val= .v (.int .u32 (qS.getD r.val 0))::(nB.map DV.v).drop (r.val+1)
 |⟨0,_⟩=>rfl
 |⟨1,_⟩=>rfl
 |⟨2,_⟩=>rfl
 |⟨3,_⟩=>rfl
 |⟨4,_⟩=>rfl
 |⟨5,_⟩=>rfl
 |⟨6,_⟩=>rfl
 |⟨7,_⟩=>rfl
 |⟨8,_⟩=>rfl
 |⟨9,_⟩=>rfl
 |⟨10,_⟩=>rfl
 |⟨11,_⟩=>rfl
 |⟨12,_⟩=>rfl
 |⟨13,_⟩=>rfl
 |⟨14,_⟩=>rfl
 |⟨15,_⟩=>rfl
 |⟨n+16,h⟩=>absurd h (by omega)
theorem Oe{z:Int}(h0:0≤z)(h1:z<16):(nB.map DV.v).drop z.toNat= .v (.int .u32 (qS.getD z.toNat 0))::(nB.map DV.v).drop (z.toNat+1):=HF ⟨z.toNat,by omega⟩
theorem Px(x:Int)(h0:0≤x)(h1:x≤4294967295):cZ .xor .u32 4294967295 x=4294967295-x:=by
 have hx:x=mO (BitVec.ofNat 32 x.toNat):=by
  unfold mO;rw[adS];omega
 rw[lX,hx];have e:BitVec.ofInt 32 (mO (BitVec.ofNat 32 x.toNat))=BitVec.ofNat 32 x.toNat:=xr _;rw[e];have e2:(BitVec.ofInt 32 4294967295:BitVec 32)=BitVec.allOnes 32:=by decide
 rw[e2,BitVec.allOnes_xor];unfold mO;rw[BitVec.toNat_not];have:=(BitVec.ofNat 32 x.toNat).isLt;omega
theorem OL(l:List Int)(x:Int)(h0:0≤x)(h1:x≤4294967295):0≤mW l x∧mW l x≤4294967295:=by
 unfold mW
 induction l generalizing x with
 |nil=>exact⟨h0,h1⟩
 |cons a l ih=>
  rw[List.foldl_cons];refine ih _ ?_ ?_ <;>rw[lX,yM] <;>unfold mO <;>have:=(EE (EE (BitVec.ofInt 32 x ^^^ BitVec.ofInt 32 (IntKind.u32.wrap a)))).isLt <;>omega
end Go.Proofs.YtoepfmhnapedoaaGreatDoor
namespace Go.Proofs.YtoepfmhnapedoaaGreatDoor
open Aml Go Rn Lat Grs
def fw(s:List UInt8):Int:=W5 0 (tx s)
theorem onL(w0:W0)(hg:nE w0)(s:List UInt8)(h:s.length≤1048576)(S:St):
 ab Tryz.prog w0 187 [.v (.int .u32 0),.sl 1 false (s.map fun c=> .v (.int .u8 c.toNat))] S (fun d S'=>d= .v (.int .u32 (fw s))∧S'=S):=by
 have hG:=tM hg;have e0:cZ .xor .u32 (if IntKind.u32.signed=true then -1 else IntKind.u32.max) 0=4294967295:=by decide
 have hbs:iF (tx s)=s.map fun c=>(c.toNat:Int):=by unfold iF;rw[dK]
 refine bI [] mx Tryz.func187 rfl rfl (by kernel_rfl) ?_;refine @aa _ (cK @Tryz.ntmps187 @e0 ?_);refine aQ [] s.length [5,10,11,12] (fun k=>[(5,.v (.int .u32 (mW ((iF (tx s)).take k) 4294967295))),(12,dI k)]) (fun _=>S) (fun _=>True) mx (by kernel_rfl) ?_ ?_
 ·refine @aa _ (av ?_);rfl
 ·intro k hk _;have e1:IntKind.i64.wrap ((k:Int)+1)=((k+1:Nat):Int):=by rw[nJ (by omega) (by omega)];omega
  by_cases hlt:k<s.length
  ·have hc:s[k]? =some s[k]:=aac hlt;generalize s[k]=c at hc
   have hh:∀x,(nB.map DV.v).drop ((cZ .and .u32 x 15).toNat*1)= .v (.int .u32 (qS.getD (cZ .and .u32 x 15).toNat 0))::(nB.map DV.v).drop ((cZ .and .u32 x 15).toNat+1):=fun x=>by
    rw[adt];exact Oe (lS x).1 (lS x).2
   have hh2:nB.length=16:=rfl
   have hcs:mW ((iF (tx s)).take (k+1)) 4294967295=u5 (u5 (cZ .xor .u32 (mW ((iF (tx s)).take k) 4294967295) (IntKind.u32.wrap (c.toNat:Int)))):=by
    have hb':(iF (tx s))[k]? =some (c.toNat:Int):=by rw[hbs,aaE,hc];rfl
    have:(iF (tx s)).take (k+1)=(iF (tx s)).take k++[(c.toNat:Int)]:=by rw[abY,hb'];rfl
    rw[this];unfold mW;rw[ac9];exact H0 _ _
   rw[hcs];have i3:∀x,(cZ .and .u32 x 15).toNat*1≤16:=fun x=>by have:=lS x;omega
   refine @aa _ (eQ @hc @hG @hh @hh2 @e1 ?_)
   first
    |exact⟨fun q=>⟨q,(lS _).1,(lS _).2,i3 _,(lS _).1,(lS _).2,i3 _,q,rfl⟩,fun q=>absurd hlt q⟩
    |exact⟨fun q=>⟨q,(lS _).1,(lS _).2,i3 _,(lS _).1,(lS _).2,i3 _,q,rfl,e1⟩,fun q=>absurd hlt q⟩
  ·have hend:cZ .xor .u32 (if IntKind.u32.signed=true then -1 else IntKind.u32.max) (mW ((iF (tx s)).take k) 4294967295)=W5 0 (tx s):=by
    have hk2:(iF (tx s)).take k=iF (tx s):=abf (by rw[ye,cV];omega);rw[hk2];have hc:=OL (iF (tx s)) 4294967295 (by decide) (by decide);have hif:(if IntKind.u32.signed=true then(-1:Int)else IntKind.u32.max)=4294967295:=by decide
    rw[hif,Px _ hc.1 hc.2];unfold W5;have e5:IntKind.u32.wrap (4294967295-0)=4294967295:=by decide
    rw[e5];have e:IntKind.u32.wrap (4294967295-mW (iF (tx s)) 4294967295)=(4294967295-mW (iF (tx s)) 4294967295)%4294967296:=rfl;rw[e];omega
   refine @aa _ (ah @hG ?_);refine⟨fun q=>absurd q hlt,fun _=>?_⟩;exact hend
theorem Wt(w0:W0)(hg:nE w0)(s:List UInt8)(h:s.length≤1048576)(S:St):ab Tryz.prog w0 134 [dS (tx s)] S (fun d S'=>d= .v (.int .u32 (fw s))∧S'=S):=by
 have hof:∀S,ab Tryz.prog w0 162 [.sl 1 false (s.map fun c=> .v (.int .u8 c.toNat))] S (fun d S'=>d= .v (.int .u32 (fw s))∧S'=S):=fun S=>by
  refine bI [] mx Tryz.func162 rfl rfl (by kernel_rfl) ?_;refine @aa _ (ah @Tryz.ntmps162 ?_);refine aq (onL w0 hg s h _) ?_;exact @aa _ bY
 refine bI [] mx Tryz.func134 rfl rfl (by kernel_rfl) ?_;refine @aa _ (ah @Tryz.ntmps134 ?_);refine⟨by rw[cV];omega,aq (hof _) ?_⟩;exact @aa _ bY
theorem YR(w0:W0)(s:List UInt8)(h:s.length≤1048576)(S:St):ab Tryz.prog w0 93 [dS (tx s)] S (fun d S'=>d= .v (.int .u32 (fw s))∧S'=S):=by
 refine bI [] mx Tryz.func93 rfl rfl (by kernel_rfl) ?_;refine @aa _ (ah @Tryz.ntmps93 ?_);refine aq (ofR w0 (tx s) _ (by rw[cV];exact h)) (@aa _ (av ?_));exact rfl
end Go.Proofs.YtoepfmhnapedoaaGreatDoor
namespace Go.Proofs.YtoepfmhnapedoaaGreatDoor
open Aml Go Rn Lat Grs
section
variable {w0:W0} {S:St} {g:MG} {N:Nat} {c:Cf} {μ:bM} {w own:Nat} {o:aV} {full:Bool}
theorem zl(hI:MI S g N c μ){x bt:Nat}(hx2:g.ls[x]? =some bt){lt:uy}(hlt:μ.l[x]? =some lt){tb tr:Nat}{tids:List UInt8→Option Nat}{tdr:DV}(t1:lk S.box bt=some (oC tb (.acc tr lt.au.length) lt.has tdr))(t2:BM S tb N tids lt.F)(t3:Ld g.own (.b x) tb tids)(t5:g.own tr= .au x)
 (h0:lt.has=0) {n:List UInt8} {j:Nat} (hj:tids n=some j) {fg:List UInt8→Option (List UInt8)} (hfg:lt.F n=some fg) {es2:List (Value×DV×Nat)} {cl2:Nat} (k1:lk S.acc j=some (.xo (.mp .str es2 cl2))) (k v:List UInt8) (rec:Cs) {X X0:Ob} (hX0:lk S.acc tr=some X0) (hX:X= .arr 6 ((lt.au++[rec]).map uA)∨X= .tl 6 ((lt.au++[rec]).map uA)):
 MI ⟨up S.box bt (oC tb (.acc tr (lt.au.length+1)) lt.has tdr),up (up S.acc j (.xo (.mp .str (ep es2 cl2 (kT k) (gJ v)) (gq es2 cl2 (kT k))))) tr X⟩ g (N+1) c ⟨μ.l.set x {lt with F:=dG lt.F n (fun i=>if i=k then some v else fg i),au:=lt.au++[rec]},μ.r,μ.sn⟩∧iO S ⟨up S.box bt (oC tb (.acc tr (lt.au.length+1)) lt.has tdr),up (up S.acc j (.xo (.mp .str (ep es2 cl2 (kT k) (gJ v)) (gq es2 cl2 (kT k))))) tr X⟩ g g:=by
 have oj:=t3.2 _ _ hj;have hB':=Hq t2 hj hfg k1 k v
 have hk:∀(Y:Ob) i w,g.own i≠ .b x→g.own i≠ .au x→lk S.acc i=some w→lk (up (up S.acc j Y) tr X) i=some w:=fun Y i w q1 q2 q3=>by
  rw[ae (fun e=>q2 (by rw[←e];exact t5)),ae (fun e=>q1 (by rw[←e];exact oj))];exact q3
 have hr:∀Y,lk (up (up S.acc j Y) tr X) tr=some X:=fun Y=>bd (by rw[ae (fun e=>by rw[e,t5]at oj;cases oj)];exact hX0);have hne:∀i,(g.own i).own x→g.own i≠ .no:=fun i q e=>by rw[e]at q;exact q
 refine⟨hI.D7 (abp N) hx2 g.own {lt with F:=dG lt.F n (fun i=>if i=k then some v else fg i),au:=lt.au++[rec]} (fun i w q1 q2=>by show lk (up _ _ _) _=_;rw[ae (abx q1)];exact q2) (fun _ _ _=>rfl) (fun i w _ q2 q3=>hk _ i w (fun e=>q2 (by rw[e];exact rfl)) (fun e=>q2 (by rw[e];exact rfl)) q3) ⟨tb,tids,tr,tdr,?_,?_,t3,?_,t5,fun q=>absurd h0 q⟩ fun i q=>gE (gE (hI.mU i q)),rfl,?_,fun i w q1 q2=>hk _ i w (by rw[q1];simp) (by rw[q1];simp) q2,fun i q=> .inl q,fun i q=> .inl q⟩
 ·show lk (up _ _ _) bt=_;rw[bd t1,aaK];rfl
 ·refine kM (S:=⟨S.box,up S.acc j (.xo (.mp .str (ep es2 cl2 (kT k) (gJ v)) (gq es2 cl2 (kT k))))⟩) hB' t3 fun i w e q=>?_;show lk (up _ _ _) i=_;rw[ae (fun r=>by rw[←r,t5]at e;cases e)];exact q
 ·unfold UL;rw[hr];exact hX.imp (fun e=>by rw[e]) fun e=>by rw[e]
 ·intro i w q1 q2;show lk (up _ _ _) i=_;rw[ae (fun e=>q1 (by rw[←e];have:=aaf hx2;simp[MG.bx,this]))];exact q2
theorem Vm(hg:nE w0)(hI:MI S g N c μ)(hM:ij N c μ)(hgr:c.gr.length≤1048576)(hN:N≤10000)(hw:oL S g w own o full)(hq:∀e,fY fw c μ o full= .inl e→AD w0 S g N c μ e):ab Tryz.prog w0 83 [bC w] S (mX S g (N+1) c (fY fw c μ o full)):=by
 have hwk:=hw.k;have hmd:=hI.md;have hlen:=hI.len;have hnl:=hM.nl;refine mh [2,5,7,10] mx Tryz.func83 rfl rfl (by kernel_rfl) ?_;refine @aa _ (ah @Tryz.ntmps83 ?_);intro b2;have hw2:(b2.n=w)=False:=eq_false fun e=>by have:=ao b2;rw[e,hwk]at this;cases this
 have hm2:(b2.n=g.m)=False:=eq_false fun e=>by have:=ao b2;rw[e,hmd]at this;cases this
 refine @aa _ (cK @hwk @hw2 ?_);intro b3;have n1:=an b3 b2.n (by exact @aa _ bY);have hw3:(b3.n=w)=False:=an b3 w (by exact @aa _ (di @hw2 @hwk));have hm3:(b3.n=g.m)=False:=an b3 g.m (by exact @aa _ (di @hm2 @hmd));have hH:∀ds,Has S ⟨(b3.n,ds)::(b2.n,[dI 0,dI 0,.sl 0 true [],dI 0,dI 0,dI 0,dI 0,.sl 0 true []])::S.box,S.acc⟩:=fun ds=>⟨fun b x q=>ai (ao b3) (ai (ao b2) q),fun _ _ q=>q⟩;refine⟨rfl,?_⟩;refine Y.jZ [] [28] [0,1,2,3,4,5,6,7,8,9,10,11,12,13,19,21,23,14,15,16,17,18,20,22,24,25,26,27,28] mx (by kernel_rfl) ?_;refine @aa _ (kH @hwk @hw2 @hw3 @n1 @hmd @hm2 @hm3 ?_);refine Y.nS (fun T hT=>qn _ (hT.box _ _ ((hH _).box _ _ hwk)) (hT.box _ _ ((hH _).box _ _ hmd)) hI.up o.label) ?_;by_cases hA:gM c.up o.label o.level=true∧gM c.up o.cz o.level=true∧(⟨o.level,o.label,o.cz⟩:G)∈c.gr
 case neg=>
  have h31:∀T,Has S T→pD w0 T 31:=fun T hT=>((hq 31 (by unfold fY;rw[if_pos hA])).er hI).to hT
  cases hl1:gM c.up o.label o.level with
  |false=>
   refine @aa _ (kH @hwk @hw2 @hw3 @n1 @hmd @hm2 @hm3 ?_);refine aw (aI w0 false 31 _ fun _=>h31 _ (hH _)) ?_;rintro _ _ ⟨q,_⟩;cases q
  |true=>
   refine @aa _ (kH @hwk @hw2 @hw3 @n1 @hmd @hm2 @hm3 ?_);refine Y.nS (fun T hT=>qn _ (hT.box _ _ ((hH _).box _ _ hwk)) (hT.box _ _ ((hH _).box _ _ hmd)) hI.up o.cz) ?_
   cases hl2:gM c.up o.cz o.level with
   |false=>
    refine @aa _ (kH @hwk @hw2 @hw3 @n1 @hmd @hm2 @hm3 ?_);refine aw (aI w0 false 31 _ fun _=>h31 _ (hH _)) ?_;rintro _ _ ⟨q,_⟩;cases q
   |true=>
    refine @aa _ (kH @hwk @hw2 @hw3 @n1 @hmd @hm2 @hm3 ?_);refine Y.nS (fun T hT=>Vi w0 c.gr ⟨o.level,o.label,o.cz⟩ (by omega) T) ?_;rw[decide_eq_false (fun q=>hA ⟨hl1,hl2,q⟩)];refine @aa _ (kH @hwk @hw2 @hw3 @n1 @hmd @hm2 @hm3 ?_);refine aw (aI w0 false 31 _ fun _=>h31 _ (hH _)) ?_;rintro _ _ ⟨q,_⟩;cases q
 obtain⟨hl1,hl2,hmem⟩:=hA;rw[hl1];refine @aa _ (kH @hwk @hw2 @hw3 @n1 @hmd @hm2 @hm3 ?_);refine Y.nS (fun T hT=>qn _ (hT.box _ _ ((hH _).box _ _ hwk)) (hT.box _ _ ((hH _).box _ _ hmd)) hI.up o.cz) ?_;rw[hl2];refine @aa _ (kH @hwk @hw2 @hw3 @n1 @hmd @hm2 @hm3 ?_);refine Y.nS (fun T hT=>Vi w0 c.gr ⟨o.level,o.label,o.cz⟩ (by omega) T) ?_;rw[decide_eq_true hmem];refine @aa _ (kH @hwk @hw2 @hw3 @n1 @hmd @hm2 @hm3 ?_);refine aw (aI w0 true 31 _ fun h=>by cases h) ?_;rintro _ _ ⟨_,rfl,rfl⟩;obtain⟨hp1,hlt1⟩:=kZ hl1;obtain⟨hp2,hlt2⟩:=kZ hl2;have hx1:g.ls[o.label.toNat]? =some (g.ls[o.label.toNat]'(by omega)):=aac _;generalize g.ls[o.label.toNat]'(by omega)=bf at hx1;have hx2:g.ls[o.cz.toNat]? =some (g.ls[o.cz.toNat]'(by omega)):=aac _;generalize g.ls[o.cz.toNat]'(by omega)=bt at hx2;obtain⟨lf,hlf,fb,fids,fr,fdr,f1,f2,f3,f4,f5,f6⟩:=hI.uQ hx1;obtain⟨lt,hlt,tb,tids,tr,tdr,t1,t2,t3,t4,t5,t6⟩:=hI.uQ hx2;have ef:=bB hlf hp1;have et:=bB hlt hp2;have hf2:(b2.n=bf)=False:=eq_false fun e=>by have:=ao b2;rw[e,f1]at this;cases this
 have hf3:(b3.n=bf)=False:=an b3 bf (by exact @aa _ (di @hf2 @f1));have ht2:(b2.n=bt)=False:=eq_false fun e=>by have:=ao b2;rw[e,t1]at this;cases this
 have ht3:(b3.n=bt)=False:=an b3 bt (by exact @aa _ (di @ht2 @t1));have fB:BM ⟨(b3.n,[dI o.kind,dI o.level,dI o.az,dI o.snap,dS (tx o.bucket),dS (tx o.key),dS (tx o.value),dI o.label,dI o.cz,dI o.n,.sl 1 false (aA o.cC)])::(b2.n,[dI 0,dI 0,.sl 0 true [],dI 0,dI 0,dI 0,dI 0,.sl 0 true []])::S.box,S.acc⟩ fb N fids lf.F:=kP f2 rfl;have tB:BM ⟨(b3.n,[dI o.kind,dI o.level,dI o.az,dI o.snap,dS (tx o.bucket),dS (tx o.key),dS (tx o.value),dI o.label,dI o.cz,dI o.n,.sl 1 false (aA o.cC)])::(b2.n,[dI 0,dI 0,.sl 0 true [],dI 0,dI 0,dI 0,dI 0,.sl 0 true []])::S.box,S.acc⟩ tb N tids lt.F:=kP t2 rfl;have hA':gM c.up o.label o.level=true∧gM c.up o.cz o.level=true∧(⟨o.level,o.label,o.cz⟩:G)∈c.gr:=⟨hl1,hl2,hmem⟩;refine @aa _ (bz @hwk @hw2 @hw3 @n1 @hmd @hm2 @hm3 (And.intro @hx1 (And.intro @hx2 (And.intro @t1 (And.intro @ht2 @ht3)))) ?_);refine⟨hp2,by omega,?_⟩;by_cases h0:lt.has=0
 case neg=>
  rw[decide_eq_false h0];refine aw (aI w0 false 36 _ fun _=>((hq 36 (by unfold fY;rw[if_neg (fun q=>q hA')];simp only[et];rw[if_pos h0])).er hI).to (hH _)) ?_;rintro _ _ ⟨q,_⟩;cases q
 rw[decide_eq_true h0];refine aw (aI w0 true 36 _ fun h=>by cases h) ?_;rintro _ _ ⟨_,rfl,rfl⟩;refine @aa _ (av ?_);refine Y.jZ [16] [] [0,1,2,7,14,17,3,4,5,6,8,9,10,11,12,13,15,18,16,19,20,21,22,23,24] mx (by kernel_rfl) ?_;refine @aa _ (bz @hwk @hw2 @hw3 @n1 @hmd @hm2 @hm3 (And.intro @hx1 (And.intro @hx2 (And.intro @f1 (And.intro @hf2 @hf3)))) ?_);refine⟨hp1,by omega,?_⟩;refine aw (oF w0 fB o.bucket fun h=>((hq 32 (by unfold fY;rw[if_neg (fun q=>q hA')];simp only[et,ef];rw[if_neg (fun q=>q h0),(f2.some_ _).1 h])).er hI).to (hH _)) ?_;rintro _ _ ⟨i,hi,rfl,rfl⟩;obtain⟨f,hf⟩:=jK f2 hi;obtain⟨es,cl,g1,g2,g3⟩:=f2.low o.bucket i f hi hf;have g3k:=g3 o.key;unfold kT at g3k;refine @aa _ (eQ @hwk @hw2 @hw3 @n1 @g1 ?_)
 cases hv:f o.key with
 |none=>
  rw[hv]at g3k;refine @aa _ (ah @g3k ?_);refine aw (aI w0 false 33 _ fun _=>((hq 33 (by unfold fY;rw[if_neg (fun q=>q hA')];simp only[et,ef];rw[if_neg (fun q=>q h0),hf];simp only[hv])).er hI).to (hH _)) ?_;rintro _ _ ⟨q,_⟩;cases q
 |some v=>
 rw[hv]at g3k;refine @aa _ (ah @g3k ?_);refine aw (aI w0 true 33 _ fun h=>by cases h) ?_;rintro _ _ ⟨_,rfl,rfl⟩;refine @aa _ (av ?_);refine Y.jZ [6] [] [0,1,2,4,3,5,6,7] mx (by kernel_rfl) ?_;refine @aa _ (aZ @n1 @t1 @ht2 @ht3 ?_);refine aw (oF w0 tB o.bucket fun h=>((hq 32 (by unfold fY;rw[if_neg (fun q=>q hA')];simp only[et,ef];rw[if_neg (fun q=>q h0),hf];simp only[hv];rw[(t2.some_ _).1 h])).er hI).to (hH _)) ?_;rintro _ _ ⟨j,hj,rfl,rfl⟩;obtain⟨fg,hfg⟩:=jK t2 hj;obtain⟨es2,cl2,k1,k2,k3⟩:=t2.low o.bucket j fg hj hfg;refine @aa _ (aZ @hwk @hw2 @hw3 @n1 ?_)
 cases full with
 |true=>
  refine aw (aI w0 false 37 _ fun _=>((hq 37 (by unfold fY;rw[if_neg (fun q=>q hA')];simp only[et,ef];rw[if_neg (fun q=>q h0),hf];simp only[hv];rw[hfg];rfl)).er hI).to (hH _)) ?_;rintro _ _ ⟨q,_⟩;cases q
 |false=>
 refine aw (aI w0 true 37 _ fun h=>by cases h) ?_;rintro _ _ ⟨_,rfl,rfl⟩;refine @aa _ (cK @n1 @k1 ?_);have hvl:v.length≤1048576:=by have:=(((hM.sz lf (aaf hlf)).1 o.bucket f hf).2 o.key v hv).2;omega
 have hau:=hM.au lt (aaf hlt);have hjr:(j=tr)=False:=eq_false fun e=>by have:=t3.2 _ _ hj;rw[e,t5]at this;cases this
 have hm8:maxLen=9223372036854775807:=rfl;have ew:IntKind.i64.wrap (((lt.au.length+1:Nat):Int)-1)=(lt.au.length:Int):=by rw[nJ (by omega) (by omega)];omega
 rcases t4 with t4|t4
 ·refine Y.jZ [] [19,22] [0,1,2,3,5,7,9,11,13,15,4,6,8,10,12,14,16,17,18,19,20,21,22] mx (by kernel_rfl) ?_;refine @aa _ (aZ @n1 @t1 @ht2 @ht3 ?_);refine Y.nS (fun T hT=>Wt w0 hg v hvl T) ?_;refine @aa _ (kH @n1 @t1 @ht2 @ht3 @t4 @hjr @hm8 ?_);refine⟨by omega,by omega,?_⟩;rw[ew];obtain⟨e1,e2⟩:=zl hI hx2 hlt t1 t2 t3 t5 h0 hj hfg k1 o.key v ⟨o.level,o.label,o.cz,o.bucket,o.key,fw v⟩ t4 (X:= .arr 6 ((lt.au++[(⟨o.level,o.label,o.cz,o.bucket,o.key,fw v⟩:Cs)]).map uA)) (.inl rfl);rw[aaZ]at e1 e2;exact⟨_,_,.refl _,.aN (.aN (.refl _)),Fk lt.au.length,_,g,by unfold fY;rw[if_neg (fun q=>q hA')];simp only[et,ef];rw[if_neg (fun q=>q h0),hf];simp only[hv];rw[hfg];rfl,.agg ⟨.refl _,.refl _,.nil _ _ _,.refl _,.refl _,.refl _,.refl _,.nil _ _ _,trivial⟩,e1,e2⟩
 ·refine Y.jZ [] [19,22] [0,1,2,3,5,7,9,11,13,15,4,6,8,10,12,14,16,17,18,19,20,21,22] mx (by kernel_rfl) ?_;refine @aa _ (aZ @n1 @t1 @ht2 @ht3 ?_);refine Y.nS (fun T hT=>Wt w0 hg v hvl T) ?_;refine @aa _ (kH @n1 @t1 @ht2 @ht3 @t4 @hjr @hm8 ?_);refine⟨by omega,by omega,?_⟩;rw[ew];obtain⟨e1,e2⟩:=zl hI hx2 hlt t1 t2 t3 t5 h0 hj hfg k1 o.key v ⟨o.level,o.label,o.cz,o.bucket,o.key,fw v⟩ t4 (X:= .tl 6 ((lt.au++[(⟨o.level,o.label,o.cz,o.bucket,o.key,fw v⟩:Cs)]).map uA)) (.inr rfl);rw[aaZ]at e1 e2;exact⟨_,_,.refl _,.aN (.aN (.refl _)),Fk lt.au.length,_,g,by unfold fY;rw[if_neg (fun q=>q hA')];simp only[et,ef];rw[if_neg (fun q=>q h0),hf];simp only[hv];rw[hfg];rfl,.agg ⟨.refl _,.refl _,.nil _ _ _,.refl _,.refl _,.refl _,.refl _,.nil _ _ _,trivial⟩,e1,e2⟩
end
end Go.Proofs.YtoepfmhnapedoaaGreatDoor
namespace Go.Proofs.YtoepfmhnapedoaaGreatDoor
open Aml Go Rn Lat Grs
theorem MI.Vc{S S':St}{g:MG}{N M:Nat}{c:Cf}{μ:bM}(h:MI S g N c μ)(hNM:N≤M)(own':Nat→Ow)(ls':List uy)(hlen:ls'.length=μ.l.length)(hb:∀i v,i∉g.ls→lk S.box i=some v→lk S'.box i=some v)(ha:S'.acc=S.acc)
 (ho:∀i,(∀x,¬(g.own i).own x)→own' i=g.own i) (hlb:∀(x:Nat) bx l,g.ls[x]? =some bx→ls'[x]? =some l→QW S' own' M x bx l) (hlv:∀i,own' i≠ .no→g.own i≠ .no):MI S' ⟨g.m,g.ls,g.θ,g.sn,own'⟩ M c ⟨ls',μ.r,μ.sn⟩ where
 md:=hb _ _ (aaV.1 h.nd).1 h.md
 up:=h.up
 len:=h.len.trans hlen.symm
 nd:=h.nd
 Cg:=h.Cg
 lb:=hlb
 tb:=h.tb.mono (fun i v q=>hb i v fun r=>h.Cg i q (aat _ r)) fun i v _ q=>by rw[ha];exact q
 xQ:=fun i q=>(ho i fun x=>by rw[h.xQ i q];exact id).trans (h.xQ i q)
 Fy:=wa h.Fy hNM (fun i e=>(ho i fun x=>by rw[e];exact id).trans e) (fun i v _ q=>by rw[ha];exact q) fun v q=>by rw[ha];exact q
 oO:=(ho _ fun x=>by rw[h.oO];exact id).trans h.oO
 mU:=fun i q=>by rw[ha];exact h.mU i (hlv i q)
section
variable {w0:W0} {S:St} {g:MG} {N:Nat} {c:Cf} {μ:bM} {o:aV} {full:Bool}
def ZE(μ:bM)(o:aV)(full:Bool):Prop:=(0≤o.level∧o.level<μ.l.length)∧0<o.az∧(aE μ o.level).has=o.az∧full=false
theorem vS{x:Nat}{l:uy}(hl:μ.l[x]? =some l):(bT μ o full).l[x]? =some {l with has:=0,F:=if(x:Int)=o.level∧0<o.az∧l.has=o.az∧full=false then l.D else l.F}:=by
 have hlt:=(aad.1 hl).1;unfold bT;simp only[aaE,acB hlt,abH];rw[bB (x:=(x:Int)) (by simpa using hl) (by omega)]
theorem QV(hI:MI S g N c μ)(hM:ij N c μ)(hN:N≤10000)(hc:ZE μ o full):ab Tryz.prog w0 36 [bC g.m,uB o,dB full] S (fun d S'=>∃g',MI S' g' (N+1) c (bT μ o full)∧iO S S' g g'):=by
 have hmd:=hI.md;have hlen:=hI.len;have hnl:=hM.n;have hlsnd:=(aaV.1 hI.nd).2;have hmls:=(aaV.1 hI.nd).1;refine mh [2] mx Tryz.func36 rfl rfl (by kernel_rfl) ?_;refine @aa _ (ah @Tryz.ntmps36 ?_);intro b4;have hm4:(b4.n=g.m)=False:=eq_false fun e=>by have:=ao b4;rw[e,hmd]at this;cases this
 have hH:Has S ⟨(b4.n,[dI o.kind,dI o.level,dI o.az,dI o.snap,dS (tx o.bucket),dS (tx o.key),dS (tx o.value),dI o.label,dI o.cz,dI o.n,.sl 1 false (aA o.cC)])::S.box,S.acc⟩:=⟨fun b x q=>ai (ao b4) q,fun _ _ q=>q⟩;have h4l:b4.n∉g.bx:=fun q=>hI.ny q (ao b4);have h4s:b4.n∉g.ls:=fun q=>h4l (by simp[MG.bx,q]);refine aq (ofM w0 (hH.box _ _ hmd) o.level) ?_;obtain⟨⟨hp,hlv0⟩,hses,hhas,hfull⟩:=hc;have hx0:g.ls[o.level.toNat]? =some (g.ls[o.level.toNat]'(by omega)):=aac _;generalize g.ls[o.level.toNat]'(by omega)=bx0 at hx0;obtain⟨l0,hl0,b0,ids0,r0,dr0,f1,f2,f3,f4,f5,f6⟩:=hI.uQ hx0;have el0:=bB hl0 hp;rw[el0]at hhas;obtain⟨d0,idd0,rfl,f7,f8⟩:=f6 (by rw[hhas];omega);have hat:Az g.ls o.level=some bx0:=by unfold Az;rw[if_pos hp,hx0]
 have h40:(b4.n=bx0)=False:=eq_false fun e=>by have:=ao b4;rw[e,f1]at this;cases this
 have h0m:(bx0=g.m)=False:=eq_false fun e=>hmls (by rw[←e];exact aaf hx0);have h0s:(o.az>0)=True:=eq_true hses;have hhas':(l0.has=o.az)=True:=eq_true hhas;rw[hat];unfold xV;refine @aa _ (av ?_);refine oN (σ:=Unit) [] [0,2,4,6,32] (fun _=>[(32,dB true)]) (fun _=>⟨(b4.n,[dI o.kind,dI o.level,dI o.az,dI o.snap,dS (tx o.bucket),dS (tx o.key),dS (tx o.value),dI o.label,dI o.cz,dI o.n,.sl 1 false (aA o.cC)])::S.box,S.acc⟩) (fun _=>True) mx (by kernel_rfl) ?_ ?_
 ·refine @aa _ (eQ @f1 @h40 @h0s @hhas' @hfull ?_);exact⟨(),trivial⟩
 rintro _ _;refine @aa _ (eQ @f1 @h40 @hmd @hm4 @h0m ?_);obtain⟨B1,hB1d⟩:∃B1,B1=(b4.n,[dI o.kind,dI o.level,dI o.az,dI o.snap,dS (tx o.bucket),dS (tx o.key),dS (tx o.value),dI o.label,dI o.cz,dI o.n,.sl 1 false (aA o.cC)])::up S.box bx0 [.mp d0,.acc r0 l0.au.length,dI l0.has,.mp d0]:=⟨_,rfl⟩;have own1d:∃own1:Nat→Ow,own1=BK o.level.toNat g.own:=⟨_,rfl⟩;obtain⟨own1,ho1⟩:=own1d
 have hB1n:∀b,¬b4.n=b→¬bx0=b→lk B1 b=lk S.box b:=fun b q1 q2=>by
  rw[hB1d];simp only[lk];rw[if_neg q1,ae q2]
 have hB10:lk B1 bx0=some (oC d0 (.acc r0 l0.au.length) l0.has (.mp d0)):=by
  rw[hB1d];simp only[lk];rw[if_neg (by rw[h40];exact id)];exact bd f1
 have hb4:lk B1 b4.n=some [dI o.kind,dI o.level,dI o.az,dI o.snap,dS (tx o.bucket),dS (tx o.key),dS (tx o.value),dI o.label,dI o.cz,dI o.n,.sl 1 false (aA o.cC)]:=by rw[hB1d];simp[lk]
 have hold:∀i v,i∉g.ls→lk S.box i=some v→lk B1 i=some v:=fun i v q1 q2=>(hB1n i (fun e=>by rw[←e,ao b4]at q2;cases q2) (fun e=>q1 (by rw[←e];exact aaf hx0))).trans q2
 have hlab:∀(i:Nat) bx,g.ls[i]? =some bx→∃mb au has dr,lk B1 bx=some (oC mb au has dr):=fun i bx hx=>by
  by_cases e:bx0=bx
  ·exact⟨_,_,_,_,by rw[←e];exact hB10⟩
  ·obtain⟨l,hl,b,ids,r,dr,h1,_⟩:=hI.uQ hx;exact⟨_,_,_,_,(hB1n bx (fun q=>h4s (by rw[q];exact aaf hx)) e).trans h1⟩
 have hown:∀i,(∀x,¬(g.own i).own x)→own1 i=g.own i:=fun i q=>by rw[ho1];exact jk fun e=>q o.level.toNat (by rw[e];exact rfl)
 have hlv:∀i,own1 i≠ .no→g.own i≠ .no:=fun i q=>w5.1 (by rw[←ho1];exact q);refine fZ [] [0,43,44,45] (σ:=Nat×List (Nat×List DV)) (fun s=>[(44,dI μ.l.length),(45,dI s.1)]) (fun s=>⟨s.2,S.acc⟩) (fun s=>s.1≤μ.l.length∧(∀b,b∉g.ls.take s.1→lk s.2 b=lk B1 b)∧∀(j:Nat) b mb au has dr,j<s.1→g.ls[j]? =some b→lk B1 b=some (oC mb au has dr)→lk s.2 b=some (oC mb au 0 dr)) (fun s=>μ.l.length-s.1) (0,B1) mx (by kernel_rfl) ⟨⟨aa6 _,fun b _=>rfl,fun j b mb au has dr h=>absurd h (Nat.not_lt_zero _)⟩,?_⟩ ?_
 ·rw[hB1d];exact @aa _ (ft @hlen)
 ·rintro⟨i,B⟩ ⟨hi,hB1,hB2⟩;simp only at hi hB1 hB2;by_cases hil:i<μ.l.length
  ·have e1:IntKind.i64.wrap ((i:Int)+1)=((i+1:Nat):Int):=aJ (by omega);have hx:g.ls[i]? =some (g.ls[i]'(by omega)):=aac _;generalize g.ls[i]'(by omega)=bx at hx;obtain⟨mb,au,has,dr,h1⟩:=hlab i bx hx
   have hnt:bx∉g.ls.take i:=fun q=>by
    obtain⟨j,hj⟩:=abv.1 q;rw[acr]at hj;split at hj
    ·rename_i hji;have:=(List.getElem?_inj (aad.1 hx).1 hlsnd).1 (hx.trans hj.symm);omega
    ·cases hj
   have h1B:lk B bx=some (oC mb au has dr):=(hB1 bx hnt).trans h1;refine @aa _ (cL @hx @h1B @e1 ?_);refine⟨fun _=>⟨by omega,(i+1,up B bx [.mp mb,au,dI 0,dr]),⟨by simp only;omega,fun b hb=>?_,fun j b mb' au' has' dr' hj hjb hb=>?_⟩,by simp only;omega,rfl,.refl _⟩,fun h=>absurd hil h⟩
   ·have hb:b∉g.ls.take (i+1):=hb;rw[abY,hx]at hb;simp only[ac4,aaD,aau,not_or]at hb;show lk (up _ _ _) b=_;rw[ae (abx hb.2)];exact hB1 b hb.1
   ·have hj:j<i+1:=hj;show lk (up _ _ _) b=_;by_cases e:bx=b
    ·subst e;rw[h1]at hb;cases hb;exact bd h1B
    ·rw[ae e];refine hB2 j b mb' au' has' dr' ?_ hjb hb;rcases abz j i with q|q
     ·exact q
     ·have:j=i:=by omega
      rw[this,hx]at hjb;cases hjb;exact absurd rfl e
  ·have hie:i=μ.l.length:=by omega
   subst hie;have htk:g.ls.take μ.l.length=g.ls:=abf (by omega);rw[htk]at hB1;have hBo:∀i v,i∉g.ls→lk S.box i=some v→lk B i=some v:=fun i v q1 q2=>(hB1 i q1).trans (hold i v q1 q2);have h4B:lk B b4.n=some [dI o.kind,dI o.level,dI o.az,dI o.snap,dS (tx o.bucket),dS (tx o.key),dS (tx o.value),dI o.label,dI o.cz,dI o.n,.sl 1 false (aA o.cC)]:=(hB1 _ h4s).trans hb4
   have k1:MI ⟨B,S.acc⟩ ⟨g.m,g.ls,g.θ,g.sn,own1⟩ (N+1) c ⟨(bT μ o full).l,μ.r,μ.sn⟩:=hI.Vc (abp N) own1 _ (by unfold bT;simp) hBo rfl hown (fun x bx l' hx hl'=>by
    obtain⟨l,hl,b,ids,r,dr,h1,h2,h3,h4,h5,h6⟩:=hI.uQ hx;rw[vS hl]at hl';cases hl';have hxl:x<μ.l.length:=(aad.1 hl).1;have hox:(x:Int)=o.level↔x=o.level.toNat:=by omega
    by_cases e:x=o.level.toNat
    ·subst e;rw[hx0]at hx;cases hx;rw[hl0]at hl;cases hl;rw[if_pos ⟨hox.2 rfl,hses,hhas,hfull⟩];exact⟨d0,idd0,r0,.mp d0,hB2 _ _ _ _ _ _ hxl hx0 hB10,kP (f7.le (abp N)) rfl,⟨by rw[ho1];exact sC f8.1,fun n i q=>by rw[ho1];exact sC (f8.2 n i q)⟩,f4,by rw[ho1];exact(jk (by rw[f5];simp)).trans f5,fun q=>absurd rfl q⟩
    ·rw[if_neg (fun q=>e (hox.1 q.1))];have hne:¬bx0=bx:=fun q=>e ((List.getElem?_inj (aad.1 hx).1 hlsnd).1 (by rw[hx,hx0,q]));have h1':=(hB1n bx (fun q=>h4s (by rw[q];exact aaf hx)) hne).trans h1;exact⟨b,ids,r,dr,hB2 _ _ _ _ _ _ hxl hx h1',kP (h2.le (abp N)) rfl,⟨by rw[ho1];exact(jk (by rw[h3.1];simp)).trans h3.1,fun n i q=>by rw[ho1];exact(jk (by rw[h3.2 n i q];simp)).trans (h3.2 n i q)⟩,h4,by rw[ho1];exact(jk (by rw[h5];simp)).trans h5,fun q=>absurd rfl q⟩) hlv
   have k2:iO S ⟨B,S.acc⟩ g ⟨g.m,g.ls,g.θ,g.sn,own1⟩:=⟨rfl,fun i v q1 q2=>hBo i v (fun q=>q1 (by simp[MG.bx,q])) q2,fun i v _ q=>q,fun i q=> .inl q,fun i q=> .inl (hlv i q)⟩;have hmdB:lk B g.m=some (HL c g.ls g.θ.t g.sn):=k1.md;refine @aa _ (ah @hmdB ?_);refine⟨fun h=>absurd h hil,fun _=>?_⟩;refine aw (Lp w0 k1.tb) ?_;rintro _ T ⟨θ',hT,hF⟩;obtain⟨own2,k3,k4,k5,k6⟩:=k1.UE (aar _) hT hF;have hmdT:=k3.md;obtain⟨es,cl,s1,s2⟩:=k3.Fy;simp only at hmdT s1;refine @aa _ (cK @hmdT @s1 ?_)
   have k7:MI ⟨T.box,up T.acc g.sn (.xo (.mp (.st [.i64,.i64,.i64]) [] cl))⟩ ⟨g.m,g.ls,θ',g.sn,own2⟩ (N+1) c (bT μ o full):=k3.Yi (aar _) own2 (fun _ _ _=>none) (fun i v _ q=>q) (fun _ _=>rfl) (fun i v q1 q2 q3=>by
    show lk (up _ _ _) i=_;rw[ae (fun e=>q2 (by rw[←e];exact k3.oO))];exact q3) ⟨[],cl,bd s1,fun lv n k=>⟨fun _=>by simp[aT],fun Fs h=>(by cases h)⟩⟩ fun i q=>jy (k3.mU i q)
   refine⟨_,_,.refl _,.refl _,_,k7,(k2.trans k4).trans ⟨rfl,fun i v _ q=>q,fun i v q1 q2=>?_,fun i q=> .inl q,fun i q=> .inl q⟩⟩;show lk (up _ _ _) i=_;rw[ae (fun e=>by rw[←e]at q1;have:=k3.oO.symm.trans q1;cases this)];exact q2
theorem Sr(hI:MI S g N c μ)(hM:ij N c μ)(hN:N≤10000)(hc:¬ZE μ o full):ab Tryz.prog w0 36 [bC g.m,uB o,dB full] S (fun d S'=>∃g',MI S' g' (N+1) c (bT μ o full)∧iO S S' g g'):=by
 have hmd:=hI.md;have hlen:=hI.len;have hnl:=hM.n;have hlsnd:=(aaV.1 hI.nd).2;have hmls:=(aaV.1 hI.nd).1;refine mh [2] mx Tryz.func36 rfl rfl (by kernel_rfl) ?_;refine @aa _ (ah @Tryz.ntmps36 ?_);intro b4;have hm4:(b4.n=g.m)=False:=eq_false fun e=>by have:=ao b4;rw[e,hmd]at this;cases this
 have hH:Has S ⟨(b4.n,[dI o.kind,dI o.level,dI o.az,dI o.snap,dS (tx o.bucket),dS (tx o.key),dS (tx o.value),dI o.label,dI o.cz,dI o.n,.sl 1 false (aA o.cC)])::S.box,S.acc⟩:=⟨fun b x q=>ai (ao b4) q,fun _ _ q=>q⟩;have h4l:b4.n∉g.bx:=fun q=>hI.ny q (ao b4);have h4s:b4.n∉g.ls:=fun q=>h4l (by simp[MG.bx,q]);refine aq (ofM w0 (hH.box _ _ hmd) o.level) ?_;refine oN (σ:=Unit) [] [0,2,4,6,32] (fun _=>[(32,dB false)]) (fun _=>⟨(b4.n,[dI o.kind,dI o.level,dI o.az,dI o.snap,dS (tx o.bucket),dS (tx o.key),dS (tx o.value),dI o.label,dI o.cz,dI o.n,.sl 1 false (aA o.cC)])::S.box,S.acc⟩) (fun _=>True) mx (by kernel_rfl) ?_ ?_
 ·cases hat:Az g.ls o.level with
  |none=>
   unfold xV;refine @aa _ (av ?_);exact⟨(),trivial⟩
  |some bx0=>
   have hp:0≤o.level:=by
    unfold Az at hat;split at hat
    ·assumption
    ·cases hat
   have hx0:g.ls[o.level.toNat]? =some bx0:=by unfold Az at hat;rw[if_pos hp]at hat;exact hat
   have hlt0:=(aad.1 hx0).1;obtain⟨l0,hl0,b0,ids0,r0,dr0,f1,f2,f3,f4,f5,f6⟩:=hI.uQ hx0;have el0:=bB hl0 hp;have h40:(b4.n=bx0)=False:=eq_false fun e=>by have:=ao b4;rw[e,f1]at this;cases this
   unfold xV;by_cases hses:o.az>0
   ·have h0s:(o.az>0)=True:=eq_true hses;by_cases hhas:l0.has=o.az
    ·have hhas':(l0.has=o.az)=True:=eq_true hhas
     cases full with
     |false=>exact absurd ⟨⟨hp,by omega⟩,hses,by rw[el0];exact hhas,rfl⟩ hc
     |true=>
      refine @aa _ (aZ @f1 @h40 @h0s @hhas' ?_);exact⟨(),trivial⟩
    ·have hhas':(l0.has=o.az)=False:=eq_false hhas;refine @aa _ (aZ @f1 @h40 @h0s @hhas' ?_);exact⟨(),trivial⟩
   ·have h0s:(o.az>0)=False:=eq_false hses;refine @aa _ (cL @f1 @h40 @h0s ?_);exact⟨(),trivial⟩
 rintro _ _;refine @aa _ (cK @hmd @hm4 ?_);obtain⟨B1,hB1d⟩:∃B1,B1=(b4.n,[dI o.kind,dI o.level,dI o.az,dI o.snap,dS (tx o.bucket),dS (tx o.key),dS (tx o.value),dI o.label,dI o.cz,dI o.n,.sl 1 false (aA o.cC)])::S.box:=⟨_,rfl⟩;obtain⟨own1,ho1⟩:∃own1:Nat→Ow,own1=g.own:=⟨_,rfl⟩
 have hB1n:∀b,¬b4.n=b→lk B1 b=lk S.box b:=fun b q1=>by
  rw[hB1d];simp only[lk];rw[if_neg q1]
 have hb4:lk B1 b4.n=some [dI o.kind,dI o.level,dI o.az,dI o.snap,dS (tx o.bucket),dS (tx o.key),dS (tx o.value),dI o.label,dI o.cz,dI o.n,.sl 1 false (aA o.cC)]:=by rw[hB1d];simp[lk]
 have hold:∀i v,i∉g.ls→lk S.box i=some v→lk B1 i=some v:=fun i v q1 q2=>(hB1n i (fun e=>by rw[←e,ao b4]at q2;cases q2)).trans q2
 have hlab:∀(i:Nat) bx,g.ls[i]? =some bx→∃mb au has dr,lk B1 bx=some (oC mb au has dr):=fun i bx hx=>by
  obtain⟨l,hl,b,ids,r,dr,h1,_⟩:=hI.uQ hx;exact⟨_,_,_,_,(hB1n bx (fun q=>h4s (by rw[q];exact aaf hx))).trans h1⟩
 have hown:∀i,(∀x,¬(g.own i).own x)→own1 i=g.own i:=fun i q=>by rw[ho1]
 have hlv:∀i,own1 i≠ .no→g.own i≠ .no:=fun i q=>by rw[←ho1];exact q
 refine fZ [] [0,43,44,45] (σ:=Nat×List (Nat×List DV)) (fun s=>[(44,dI μ.l.length),(45,dI s.1)]) (fun s=>⟨s.2,S.acc⟩) (fun s=>s.1≤μ.l.length∧(∀b,b∉g.ls.take s.1→lk s.2 b=lk B1 b)∧∀(j:Nat) b mb au has dr,j<s.1→g.ls[j]? =some b→lk B1 b=some (oC mb au has dr)→lk s.2 b=some (oC mb au 0 dr)) (fun s=>μ.l.length-s.1) (0,B1) mx (by kernel_rfl) ⟨⟨aa6 _,fun b _=>rfl,fun j b mb au has dr h=>absurd h (Nat.not_lt_zero _)⟩,?_⟩ ?_
 ·rw[hB1d];exact @aa _ (ft @hlen)
 ·rintro⟨i,B⟩ ⟨hi,hB1,hB2⟩;simp only at hi hB1 hB2;by_cases hil:i<μ.l.length
  ·have e1:IntKind.i64.wrap ((i:Int)+1)=((i+1:Nat):Int):=aJ (by omega);have hx:g.ls[i]? =some (g.ls[i]'(by omega)):=aac _;generalize g.ls[i]'(by omega)=bx at hx;obtain⟨mb,au,has,dr,h1⟩:=hlab i bx hx
   have hnt:bx∉g.ls.take i:=fun q=>by
    obtain⟨j,hj⟩:=abv.1 q;rw[acr]at hj;split at hj
    ·rename_i hji;have:=(List.getElem?_inj (aad.1 hx).1 hlsnd).1 (hx.trans hj.symm);omega
    ·cases hj
   have h1B:lk B bx=some (oC mb au has dr):=(hB1 bx hnt).trans h1;refine @aa _ (cL @hx @h1B @e1 ?_);refine⟨fun _=>⟨by omega,(i+1,up B bx [.mp mb,au,dI 0,dr]),⟨by simp only;omega,fun b hb=>?_,fun j b mb' au' has' dr' hj hjb hb=>?_⟩,by simp only;omega,rfl,.refl _⟩,fun h=>absurd hil h⟩
   ·have hb:b∉g.ls.take (i+1):=hb;rw[abY,hx]at hb;simp only[ac4,aaD,aau,not_or]at hb;show lk (up _ _ _) b=_;rw[ae (abx hb.2)];exact hB1 b hb.1
   ·have hj:j<i+1:=hj;show lk (up _ _ _) b=_;by_cases e:bx=b
    ·subst e;rw[h1]at hb;cases hb;exact bd h1B
    ·rw[ae e];refine hB2 j b mb' au' has' dr' ?_ hjb hb;rcases abz j i with q|q
     ·exact q
     ·have:j=i:=by omega
      rw[this,hx]at hjb;cases hjb;exact absurd rfl e
  ·have hie:i=μ.l.length:=by omega
   subst hie;have htk:g.ls.take μ.l.length=g.ls:=abf (by omega);rw[htk]at hB1;have hBo:∀i v,i∉g.ls→lk S.box i=some v→lk B i=some v:=fun i v q1 q2=>(hB1 i q1).trans (hold i v q1 q2);have h4B:lk B b4.n=some [dI o.kind,dI o.level,dI o.az,dI o.snap,dS (tx o.bucket),dS (tx o.key),dS (tx o.value),dI o.label,dI o.cz,dI o.n,.sl 1 false (aA o.cC)]:=(hB1 _ h4s).trans hb4
   have k1:MI ⟨B,S.acc⟩ ⟨g.m,g.ls,g.θ,g.sn,own1⟩ (N+1) c ⟨(bT μ o full).l,μ.r,μ.sn⟩:=hI.Vc (abp N) own1 _ (by unfold bT;simp) hBo rfl hown (fun x bx l' hx hl'=>by
    obtain⟨l,hl,b,ids,r,dr,h1,h2,h3,h4,h5,h6⟩:=hI.uQ hx;rw[vS hl]at hl';cases hl';have hxl:x<μ.l.length:=(aad.1 hl).1;have hcn:¬((x:Int)=o.level∧0<o.az∧l.has=o.az∧full=false):=fun q=>hc ⟨⟨by omega,by omega⟩,q.2.1,by rw[←q.1,bB (x:=(x:Int)) (by simpa using hl) (by omega)];exact q.2.2.1,q.2.2.2⟩;rw[if_neg hcn];have h1':=(hB1n bx (fun q=>h4s (by rw[q];exact aaf hx))).trans h1;exact⟨b,ids,r,dr,hB2 _ _ _ _ _ _ hxl hx h1',kP (h2.le (abp N)) rfl,by rw[ho1];exact h3,h4,by rw[ho1];exact h5,fun q=>absurd rfl q⟩) hlv
   have k2:iO S ⟨B,S.acc⟩ g ⟨g.m,g.ls,g.θ,g.sn,own1⟩:=⟨rfl,fun i v q1 q2=>hBo i v (fun q=>q1 (by simp[MG.bx,q])) q2,fun i v _ q=>q,fun i q=> .inl q,fun i q=> .inl (hlv i q)⟩;have hmdB:lk B g.m=some (HL c g.ls g.θ.t g.sn):=k1.md;refine @aa _ (ah @hmdB ?_);refine⟨fun h=>absurd h hil,fun _=>?_⟩;refine aw (Lp w0 k1.tb) ?_;rintro _ T ⟨θ',hT,hF⟩;obtain⟨own2,k3,k4,k5,k6⟩:=k1.UE (aar _) hT hF;have hmdT:=k3.md;obtain⟨es,cl,s1,s2⟩:=k3.Fy;simp only at hmdT s1;refine @aa _ (cK @hmdT @s1 ?_)
   have k7:MI ⟨T.box,up T.acc g.sn (.xo (.mp (.st [.i64,.i64,.i64]) [] cl))⟩ ⟨g.m,g.ls,θ',g.sn,own2⟩ (N+1) c (bT μ o full):=k3.Yi (aar _) own2 (fun _ _ _=>none) (fun i v _ q=>q) (fun _ _=>rfl) (fun i v q1 q2 q3=>by
    show lk (up _ _ _) i=_;rw[ae (fun e=>q2 (by rw[←e];exact k3.oO))];exact q3) ⟨[],cl,bd s1,fun lv n k=>⟨fun _=>by simp[aT],fun Fs h=>(by cases h)⟩⟩ fun i q=>jy (k3.mU i q)
   refine⟨_,_,.refl _,.refl _,_,k7,(k2.trans k4).trans ⟨rfl,fun i v _ q=>q,fun i v q1 q2=>?_,fun i q=> .inl q,fun i q=> .inl q⟩⟩;show lk (up _ _ _) i=_;rw[ae (fun e=>by rw[←e]at q1;have:=k3.oO.symm.trans q1;cases this)];exact q2
theorem Uf(hI:MI S g N c μ)(hM:ij N c μ)(hN:N≤10000):ab Tryz.prog w0 36 [bC g.m,uB o,dB full] S (fun d S'=>∃g',MI S' g' (N+1) c (bT μ o full)∧iO S S' g g'):=by
 by_cases hc:ZE μ o full
 ·exact QV hI hM hN hc
 ·exact Sr hI hM hN hc
end
end Go.Proofs.YtoepfmhnapedoaaGreatDoor
namespace Go.Proofs.YtoepfmhnapedoaaGreatDoor
open Aml Go Rn Lat Grs
def vD(k:Int):FuncId:=if k=1 then 69 else if k=2 then 70 else if k=3 then 71 else if k=4 then 72 else if k=5 then 73 else if k=6 then 74 else
 if k=7 then 75 else if k=8 then 76 else if k=9 then 77 else if k=10 then 78 else if k=11 then 79 else if k=12 then 80 else
 if k=13 then 81 else if k=14 then 82 else 83
theorem kinds{P:Int→Prop}{k:Int}(h0:1≤k)(h1:k≤15)(p1:P 1)(p2:P 2)(p3:P 3)(p4:P 4)(p5:P 5)(p6:P 6)(p7:P 7)(p8:P 8)(p9:P 9)(p10:P 10)(p11:P 11)(p12:P 12)(p13:P 13)(p14:P 14)(p15:P 15):P k:=by
 obtain rfl|rfl|rfl|rfl|rfl|rfl|rfl|rfl|rfl|rfl|rfl|rfl|rfl|rfl|rfl:k=1∨k=2∨k=3∨k=4∨k=5∨k=6∨k=7∨k=8∨k=9∨k=10∨k=11∨k=12∨k=13∨k=14∨k=15:=by omega
 all_goals assumption
theorem Kz{k:Int}(h0:1≤k)(h1:k≤15):okF Tryz.prog (vD k)=true:=
 kinds (P:=fun k=>okF Tryz.prog (vD k)=true) h0 h1 (by kernel_rfl) (by kernel_rfl) (by kernel_rfl) (by kernel_rfl) (by kernel_rfl) (by kernel_rfl) (by kernel_rfl) (by kernel_rfl) (by kernel_rfl) (by kernel_rfl) (by kernel_rfl) (by kernel_rfl) (by kernel_rfl) (by kernel_rfl) (by kernel_rfl)
noncomputable def yZ:List (Value×DV×Nat)→Nat→List (Int×FuncId)→List (Value×DV×Nat)×Nat
 |es,cl,[]=>(es,cl)
 |es,cl,(k,f)::r=>yZ (ep es cl (.int .i64 k) (.v (.func (.func f) #[] #[]))) (gq es cl (.int .i64 k)) r
theorem vz:∀(L:List (Int×FuncId)) (es:List (Value×DV×Nat)) (cl:Nat) (k:Int),(L.map (·.1)).Nodup→aT (yZ es cl L).1 (.int .i64 k)=(match L.find? fun p=>decide (p.1=k)with
 |some p=>some (.v (.func (.func p.2) #[] #[]))
 |none=>aT es (.int .i64 k))
 |[],es,cl,k,_=>rfl
 |(j,f)::r,es,cl,k,hn=>by
  rw[abB,aaV]at hn;unfold yZ;rw[vz r _ _ k hn.2,List.find?_cons];by_cases e:j=k
  ·subst e;have:r.find? (fun p=>decide (p.1=j))=none:=adg.2 fun p hp q=>hn.1 (aaT.2 ⟨p,hp,of_decide_eq_true q⟩);rw[this];simp[bD]
  ·have hne:Value.int .i64 k≠Value.int .i64 j:=fun q=>e (Value.int.inj q).2.symm;simp only[e,decide_false]
   cases r.find? (fun p=>decide (p.1=k))with
   |some p=>rfl
   |none=>exact cM _ _ hne _
def yT:List (Int×FuncId):=[(1,69),(2,70),(3,71),(4,72),(5,73),(6,74),(7,75),(8,76),(9,77),(10,78),(11,79),(12,80),(13,81),(14,82),(15,83)]
theorem RI(w0:W0)(S:St):ab Tryz.prog w0 39 [] S (fun d S'=>∃(l:FN S.acc) (es:List (Value×DV×Nat)) (cl:Nat),d= .mp l.n∧S'=⟨S.box,(l.n,.xo (.mp (.int .i64) es cl))::S.acc⟩∧∀k,1≤k→k≤15→aT es (.int .i64 k)=some (.v (.func (.func (vD k)) #[] #[]))):=by
 refine lO [] mx Tryz.func39 rfl rfl (by kernel_rfl) ?_;refine @aa _ (ah @Tryz.ntmps39 ?_);intro l;refine⟨l,(yZ [] 0 yT).1,(yZ [] 0 yT).2,rfl,rfl,fun k h0 h1=>?_⟩;rw[vz yT [] 0 k (by unfold yT;decide)]
 exact kinds (P:=fun k=>(match yT.find? fun p=>decide (p.1=k)with
  |some p=>some (DV.v (.func (.func p.2) #[] #[]))
  |none=>aT [] (.int .i64 k))=some (.v (.func (.func (vD k)) #[] #[]))) h0 h1 rfl rfl rfl rfl rfl rfl rfl rfl rfl rfl rfl rfl rfl rfl rfl
theorem opI{w0:W0}{S:St}{g:MG}{N:Nat}{c:Cf}{μ:bM}{w own:Nat}{o:aV}{full:Bool}(hgC:nE w0)(hI:MI S g N c μ)(hM:ij N c μ)(hgr:c.gr.length≤1048576)(hN:N≤10000)(hw:oL S g w own o full)(h0:1≤o.kind)(h1:o.kind≤15)(hq:∀e,cr fw c μ o full= .inl e→AD w0 S g N c μ e):
 ab Tryz.prog w0 (vD o.kind) [bC w] S (mX S g (N+1) c (cr fw c μ o full)):=by
 unfold vD cr at*;obtain h|h|h|h|h|h|h|h|h|h|h|h|h|h|h:o.kind=1∨o.kind=2∨o.kind=3∨o.kind=4∨o.kind=5∨o.kind=6∨o.kind=7∨o.kind=8∨o.kind=9∨o.kind=10∨o.kind=11∨o.kind=12∨o.kind=13∨o.kind=14∨o.kind=15:=by omega
 all_goals simp only[h,reduceIte,Int.reduceEq]at hq ⊢
 ·exact Sg hI hw
 ·exact Sx hI (by omega) hw hq
 ·exact Pt hI hw hq
 ·exact EI hI hw hq
 ·exact Wm hI hw hq
 ·exact VP hI hw hq
 ·exact Yy hI hw hq
 ·exact NH hI hw hq
 ·exact ZW hI hM hN hw hq
 ·exact Vk hI hM hN hw hq
 ·exact V3 hI hM hN hw
 ·exact Nq hI hw hq
 ·exact Ry hI hw hq
 ·exact Rp hI hM hN hw hq
 ·exact Vm hgC hI hM hgr hN hw hq
end Go.Proofs.YtoepfmhnapedoaaGreatDoor
