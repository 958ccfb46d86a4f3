/-
  Part 12 of the proof that the last text ends: from 'The reference's model does what the other one does: plain' to 'From an argument that reads as a datum to an abstract value; from a walked call to the row's own words'. By an AI agent.
-/
import Derived.Test.YtoepfmhnapedoaaGreatDoorMD11
import Derived.Test.YtoepfmhnapedoaaGreatDoorRows
import Derived.Test.YtoepfmhnapedoaaGreatDoorMD4
import Derived.ProofKit
import Derived.OpenShut
import Derived.JoinedCond
import Derived.Carry
set_option linter.unusedVariables false
set_option linter.unusedSimpArgs false
set_option maxRecDepth 100000
set_option maxHeartbeats 16000000
namespace Go.Proofs.YtoepfmhnapedoaaGreatDoor
open Aml Go Rn Lat Grs
theorem CG(e:En)(s:List En×Bool)(x:En):(lI e s x).1.length+(if(lI e s x).2=true then 0 else 1)≤s.1.length+(if s.2=true then 0 else 1)+1:=by
 obtain⟨out,dn⟩:=s;unfold lI;cases dn <;>by_cases hg:R9 e x=true <;>by_cases hs:x.b=e.b∧x.k=e.k <;>simp[hg,hs]
theorem vy(e:En):∀(l:List En) (s:List En×Bool),(l.foldl (lI e) s).1.length+(if(l.foldl (lI e) s).2=true then 0 else 1)≤s.1.length+(if s.2=true then 0 else 1)+l.length
 |[],s=>aar _
 |x::l,s=>by
  have h:=vy e l (lI e s x);have h2:=CG e s x;rw[List.foldl_cons,aaW];refine ack h ?_;omega
theorem qv(l:List En)(e:En):(fX l e).length≤l.length+1:=by
 have h:=vy e l ([],false);simp only[ab8,abQ,if_false]at h;unfold fX dt;split
 ·rename_i q;rw[if_pos q]at h;omega
 ·rename_i q;rw[if_neg q]at h;rw[aaK,acQ];omega
theorem oY(l:List En)(b k:List UInt8):(cS l b k).length≤l.length:=acz _ _
theorem HI(o:aV)(l:List En):(lz o l).length≤l.length+1:=by
 have h1:=oY l o.bucket [];have h2:=oY l o.bucket o.key;have h3:=qv l ⟨o.bucket,[],[]⟩;have h4:=qv l ⟨o.bucket,o.key,o.value⟩;unfold lz
 (repeat' split) <;>omega
theorem GY.set{F:eZ}(h:GY F){b:List UInt8}{f:List UInt8→Option (List UInt8)}(hf:∀k v,f k=some v→k.length≤16):GY (dG F b f):=fun n g hg=>by
 unfold dG at hg;by_cases e:n=b
 ·rw[if_pos e]at hg;cases hg;exact hf
 ·rw[if_neg e]at hg;exact h n g hg
theorem GY.del{F:eZ}(h:GY F)(b:List UInt8):GY (mT F b):=fun n g hg=>by
 unfold mT at hg;by_cases e:n=b
 ·rw[if_pos e]at hg;cases hg
 ·rw[if_neg e]at hg;exact h n g hg
theorem El.val{l:List En}{F:eZ}(h:El l F){b k:List UInt8}(hk:k≠[]){f:List UInt8→Option (List UInt8)}{v:List UInt8}(hf:F b=some f)(hv:f k=some v):0≤aP l b k∧Ff l b k=v:=by
 have h0:=(h.key (b:=b) hk).2 ⟨f,v,hf,hv⟩;refine⟨h0,?_⟩;unfold Ff;unfold aP at h0 ⊢;by_cases hi:l.findIdx (E7 b k)<l.length
 ·rw[if_pos hi,acI,aac hi];have h1:=List.findIdx_getElem (w:=hi);have h2:=acH hi;generalize l[l.findIdx (E7 b k)]=e at h1 h2;have h1:=of_decide_eq_true h1;rcases(h.mem e).1 h2 with q|⟨_,g,q1,q2⟩
  ·exact absurd (h1.2.symm.trans q.1) hk
  ·rw[h1.1,hf]at q1;cases q1;rw[h1.2,hv]at q2;exact(abR q2).symm
 ·rw[if_neg hi]at h0;omega
theorem Ml{l:List RH}{lv n x:Int}(h:(oA l lv n x).2=false):(oA l lv n x).1=l:=by
 unfold oA at h ⊢;split
 ·rename_i s hs;rw[hs]at h;simp only at h ⊢;split
  ·rfl
  ·rename_i q;rw[if_neg q]at h;cases h
 ·rfl
section
variable {N:Nat} {m:fU} {μ:bM} {c:Cf} {o:aV} {full:Bool}
theorem Rf.Wj(h:Rf N m μ)(h0:0≤o.level)(h1:o.level<μ.l.length){e d d':List En}{D':eZ}(q0:μ.l[o.level.toNat]? =some (aE μ o.level))(q1:m.l[o.level.toNat]? =some e)(q2:m.au[o.level.toNat]? =some (aE μ o.level).au)(q3:m.hs[o.level.toNat]? =some (aE μ o.level).has)(q5:RQ N e d (aE μ o.level))(hD:El d' D')(hk:GY D')(hn:d'.length≤N+1):Rf (N+1) {m with ds:=m.ds.set o.level.toNat d'} ⟨μ.l.set o.level.toNat {aE μ o.level with D:=D'},μ.r,μ.sn⟩:=by
 have hx:o.level.toNat<μ.l.length:=by omega
 have:=h.set hx (e:=e) (d:=d') (y:={aE μ o.level with D:=D'}) ⟨q5.F,fun _=>hD,q5.h,q5.kF,hk,Nat.le_succ_of_le q5.nF,hn⟩;simp only at this;rw[bX q1,bX q2,bX q3]at this;exact this
theorem IU(h:Rf N m μ)(h0:0≤o.level)(h1:o.level<μ.l.length)(hs:o.az≠0)(hk:5≤o.kind∧o.kind≤8){dg:List UInt8→Int}:(lW m o full).1=(iV μ (cr dg c μ o full)).1∧Rf (N+1) (lW m o full).2 (iV μ (cr dg c μ o full)).2:=by
 have hN:=h.le (abp N);obtain⟨e,d,q0,q1,q2,q3,q4,q5⟩:=h.mM h0 h1;have hlen:=HI o d;have hnD:=q5.nD;have key:∀D',El (lz o d) D'→GY D'→Rf (N+1) {m with ds:=m.ds.set o.level.toNat (lz o d)} ⟨μ.l.set o.level.toNat {aE μ o.level with D:=D'},μ.r,μ.sn⟩:=fun D' k1 k2=>h.Wj h0 h1 q0 q1 q2 q3 q5 k1 k2 (by omega);generalize hE:lW m o full=qe;generalize hO:cr dg c μ o full=qo;unfold lW at hE;simp only[bJ q3,bJ q4]at hE;have same:∀z,qe=(dP z,m)→qo= .inl z→qe.1=(iV μ qo).1∧Rf (N+1) qe.2 (iV μ qo).2:=fun z e1 e2=>by rw[e1,e2];exact⟨rfl,hN⟩
 have fin:∀D',qe=(dP 0,{m with ds:=m.ds.set o.level.toNat (lz o d)})→qo= .inr (dP 0,⟨μ.l.set o.level.toNat {aE μ o.level with D:=D'},μ.r,μ.sn⟩)→El (lz o d) D'→GY D'→qe.1=(iV μ qo).1∧Rf (N+1) qe.2 (iV μ qo).2:=fun D' e1 e2 k1 k2=>by rw[e1,e2];exact⟨rfl,key D' k1 k2⟩
 by_cases hh:(aE μ o.level).has=o.az
 case neg=>
  rw[if_pos hh]at hE;rcases(by omega:o.kind=5∨o.kind=6∨o.kind=7∨o.kind=8)with k|k|k|k
  ·rw[show cr dg c μ o full=gY μ o full by unfold cr;simp[k]]at hO;unfold gY at hO;simp only[if_pos hh]at hO;exact same _ hE.symm hO.symm
  ·rw[show cr dg c μ o full=iq μ o full by unfold cr;simp[k]]at hO;unfold iq at hO;simp only[if_pos hh]at hO;exact same _ hE.symm hO.symm
  ·rw[show cr dg c μ o full=mE μ o full by unfold cr;simp[k]]at hO;unfold mE at hO;simp only[if_pos hh]at hO;exact same _ hE.symm hO.symm
  ·rw[show cr dg c μ o full=cP μ o full by unfold cr;simp[k]]at hO;unfold cP at hO;simp only[if_pos hh]at hO;exact same _ hE.symm hO.symm
 have hD:=q5.D (by rw[hh];exact hs);have hb:=hD.bucket o.bucket;have hnn:¬(aE μ o.level).has≠o.az:=fun q=>q hh;rw[if_neg hnn]at hE;rcases(by omega:o.kind=5∨o.kind=6∨o.kind=7∨o.kind=8)with k|k|k|k
 ·rw[show cr dg c μ o full=gY μ o full by unfold cr;simp[k]]at hO;unfold gY cE at hO;simp only[if_neg hnn]at hO;by_cases a1:cH o.bucket 15
  case neg=>rw[if_pos (.inl ⟨k,a1⟩)]at hE;rw[if_pos a1]at hO;exact same _ hE.symm hO.symm
  rw[if_neg (fun q=>q.elim (fun r=>r.2 a1) fun r=>by omega)]at hE;rw[if_neg (fun q=>q a1)]at hO;by_cases a2:((aE μ o.level).D o.bucket).isSome=true
  ·rw[if_pos ⟨k,hb.2 a2⟩]at hE;rw[if_pos a2]at hO;exact same _ hE.symm hO.symm
  rw[if_neg (fun q=>a2 (hb.1 q.2)),if_neg (fun q=>q.1 k),if_neg (fun q=>by omega)]at hE;rw[if_neg a2]at hO
  cases full with
  |true=>exact same _ hE.symm hO.symm
  |false=>
   have hnone:(aE μ o.level).D o.bucket=none:=by simpa using a2
   refine fin _ hE.symm hO.symm ?_ (q5.kD.set fun _ _ r=>by cases r);unfold lz;rw[if_pos k];exact hD.make hnone
 ·rw[show cr dg c μ o full=iq μ o full by unfold cr;simp[k]]at hO;unfold iq cE at hO;simp only[if_neg hnn]at hO;rw[if_neg (fun q=>q.elim (fun r=>by omega) fun r=>by omega),if_neg (fun q=>by omega)]at hE;by_cases a2:((aE μ o.level).D o.bucket).isSome=true
  case neg=>
   rw[if_pos ⟨by omega,fun q=>a2 (hb.1 q)⟩]at hE;rw[if_pos (by simpa using a2)]at hO;exact same _ hE.symm hO.symm
  rw[if_neg (fun q=>q.2 (hb.2 a2)),if_neg (fun q=>by omega)]at hE;rw[if_neg (by rw[Option.isNone_iff_eq_none];exact Option.isSome_iff_ne_none.1 a2)]at hO
  cases full with
  |true=>exact same _ hE.symm hO.symm
  |false=>
   refine fin _ hE.symm hO.symm ?_ (q5.kD.del _);unfold lz;rw[if_neg (by omega),if_pos k];exact hD.drop _
 ·rw[show cr dg c μ o full=mE μ o full by unfold cr;simp[k]]at hO;unfold mE cE at hO;simp only[if_neg hnn]at hO;by_cases a1:cH o.key 16∧o.value.length≤400
  case neg=>
   rw[if_pos (.inr ⟨k,(ac3 (cH o.key 16)).elim (fun r=> .inr (by have:¬o.value.length≤400:=fun q=>a1 ⟨r,q⟩;omega)) fun r=> .inl r⟩)]at hE;rw[if_pos a1]at hO;exact same _ hE.symm hO.symm
  rw[if_neg (fun q=>q.elim (fun r=>by omega) fun r=>r.2.elim (fun t=>t a1.1) fun t=>by have:=a1.2;omega),if_neg (fun q=>by omega)]at hE;rw[if_neg (fun q=>q a1)]at hO
  cases hF:(aE μ o.level).D o.bucket with
  |none=>
   rw[hF]at hO;rw[if_pos ⟨by omega,fun q=>by have:=hb.1 q;rw[hF]at this;cases this⟩]at hE;exact same _ hE.symm hO.symm
  |some f=>
   rw[hF]at hO;rw[if_neg (fun q=>q.2 (hb.2 (by rw[hF];rfl))),if_neg (fun q=>by omega)]at hE
   cases full with
   |true=>exact same _ hE.symm hO.symm
   |false=>
    refine fin _ hE.symm hO.symm ?_ (q5.kD.set fun j v r=>?_)
    ·unfold lz;rw[if_neg (by omega),if_neg (by omega),if_pos k];exact hD.put a1.1.1 hF
    ·try simp only at r
     by_cases e:j=o.key
     ·rw[e];have:=a1.1.2;omega
     ·rw[if_neg e]at r;exact q5.kD _ _ hF j v r
 ·rw[show cr dg c μ o full=cP μ o full by unfold cr;simp[k]]at hO;unfold cP cE at hO;simp only[if_neg hnn]at hO;rw[if_neg (fun q=>q.elim (fun r=>by omega) fun r=>by omega),if_neg (fun q=>by omega)]at hE
  cases hF:(aE μ o.level).D o.bucket with
  |none=>
   rw[hF]at hO;rw[if_pos ⟨by omega,fun q=>by have:=hb.1 q;rw[hF]at this;cases this⟩]at hE;exact same _ hE.symm hO.symm
  |some f=>
   rw[hF]at hO;rw[if_neg (fun q=>q.2 (hb.2 (by rw[hF];rfl)))]at hE;simp only at hO;have hne:=hD.ne _ _ hF
   cases hv:f o.key with
   |none=>
    have:¬cH o.key 16∨aP d o.bucket o.key<0:=by
     by_cases hk0:o.key=[]
     ·exact .inl fun q=>q.1 hk0
     ·refine .inr (Int.not_le.1 fun q=>?_);obtain⟨f',v,r1,r2⟩:=(hD.key hk0).1 q;rw[hF]at r1;cases r1;rw[hv]at r2;cases r2
    rw[hv]at hO;rw[if_pos ⟨k,this⟩]at hE;rw[if_pos (by simp)]at hO;exact same _ hE.symm hO.symm
   |some v=>
    have hk0:o.key≠[]:=fun q=>by rw[q,hne]at hv;cases hv
    have hk16:=q5.kD _ _ hF _ _ hv;have hfd:=(hD.key (b:=o.bucket) hk0).2 ⟨f,v,hF,hv⟩;rw[hv]at hO;rw[if_neg (fun q=>q.2.elim (fun r=>r ⟨hk0,by omega⟩) fun r=>by omega)]at hE;rw[if_neg (by simp)]at hO
    cases full with
    |true=>exact same _ hE.symm hO.symm
    |false=>
     refine fin _ hE.symm hO.symm ?_ (q5.kD.set fun j v r=>?_)
     ·unfold lz;rw[if_neg (by omega),if_neg (by omega),if_neg (by omega)];exact hD.NA hk0 hF
     ·unfold mT at r;by_cases e:j=o.key
      ·rw[if_pos e]at r;cases r
      ·rw[if_neg e]at r;exact q5.kD _ _ hF j v r
theorem OF(h:Rf N m μ)(hM:ij N c μ)(hk:o.kind=15):(qO c m o full).1=(iV μ (cr fw c μ o full)).1∧Rf (N+1) (qO c m o full).2 (iV μ (cr fw c μ o full)).2:=by
 have hN:=h.le (abp N);generalize hE:qO c m o full=qe;generalize hO:cr fw c μ o full=qo;rw[show cr fw c μ o full=fY fw c μ o full by unfold cr;simp[hk]]at hO;unfold qO at hE;unfold fY at hO;have same:∀z,qe=(dP z,m)→qo= .inl z→qe.1=(iV μ qo).1∧Rf (N+1) qe.2 (iV μ qo).2:=fun z e1 e2=>by rw[e1,e2];exact⟨rfl,hN⟩
 by_cases a1:gM c.up o.label o.level=true∧gM c.up o.cz o.level=true∧(⟨o.level,o.label,o.cz⟩:G)∈c.gr
 case neg=>simp only at hE hO;rw[if_pos a1]at hE;rw[if_pos a1]at hO;exact same _ hE.symm hO.symm
 obtain⟨f0,f1⟩:=kZ a1.1;obtain⟨t0,t1⟩:=kZ a1.2.1;have hnl:=hM.nl;obtain⟨ef,df,p0,p1,p2,p3,p4,p5⟩:=h.mM f0 (by omega);obtain⟨e,d,q0,q1,q2,q3,q4,q5⟩:=h.mM t0 (by omega);simp only[bJ p1,bJ q1,bJ q2,bJ q3]at hE;simp only at hO;rw[if_neg (fun q=>q a1)]at hE;rw[if_neg (fun q=>q a1)]at hO;have hh:=q5.h;by_cases a2:(aE μ o.cz).has=0
 case neg=>rw[if_pos (by omega)]at hE;rw[if_pos a2]at hO;exact same _ hE.symm hO.symm
 rw[if_neg (by omega)]at hE;rw[if_neg (fun q=>q a2)]at hO;have hb:=p5.F.bucket o.bucket;have hb2:=q5.F.bucket o.bucket
 cases hF:(aE μ o.label).F o.bucket with
 |none=>
  rw[hF]at hO hb;rw[if_pos (Int.not_le.1 fun q=>by have:=hb.1 q;cases this)]at hE;exact same _ hE.symm hO.symm
 |some f=>
  have hb0:=hb.2 (by rw[hF];rfl);rw[hF]at hO;rw[if_neg (by omega)]at hE;simp only at hO;have hne:=p5.F.ne _ _ hF
  cases hv:f o.key with
  |none=>
   have:aP ef o.bucket o.key<0∨o.key=[]:=by
    by_cases hk0:o.key=[]
    ·exact .inr hk0
    ·refine .inl (Int.not_le.1 fun q=>?_);obtain⟨f',v,r1,r2⟩:=(p5.F.key hk0).1 q;rw[hF]at r1;cases r1;rw[hv]at r2;cases r2
   rw[hv]at hO;rw[if_pos this]at hE;exact same _ hE.symm hO.symm
  |some v=>
   have hk0:o.key≠[]:=fun q=>by rw[q,hne]at hv;cases hv
   obtain⟨v1,v2⟩:=p5.F.val hk0 hF hv;rw[hv]at hO;rw[if_neg (fun q=>q.elim (fun r=>by omega) hk0)]at hE;simp only at hO
   cases hG:(aE μ o.cz).F o.bucket with
   |none=>
    rw[hG]at hO hb2;rw[if_pos (Int.not_le.1 fun q=>by have:=hb2.1 q;cases this)]at hE;exact same _ hE.symm hO.symm
   |some g=>
    have hb3:=hb2.2 (by rw[hG];rfl);rw[hG]at hO;rw[if_neg (by omega)]at hE;simp only at hO
    cases full with
    |true=>exact same _ hE.symm hO.symm
    |false=>
     rw[v2]at hE;simp only[abQ,if_false]at hE hO;rw[←hE,←hO];refine⟨rfl,?_⟩;have hx:o.cz.toNat<μ.l.length:=by omega
     have hwl:=qv e ⟨o.bucket,o.key,v⟩;have hnF:=q5.nF;have hnD:=q5.nD
     have kk:GY (dG (aE μ o.cz).F o.bucket (fun j=>if j=o.key then some v else g j)):=q5.kF.set fun j v' r=>by
      try simp only at r
      by_cases e':j=o.key
      ·rw[e'];exact p5.kF _ _ hF _ _ hv
      ·rw[if_neg e']at r;exact q5.kF _ _ hG j v' r
     have:=h.set hx (e:=fX e ⟨o.bucket,o.key,v⟩) (d:=d) (y:={aE μ o.cz with F:=dG (aE μ o.cz).F o.bucket (fun j=>if j=o.key then some v else g j),au:=(aE μ o.cz).au++[⟨o.level,o.label,o.cz,o.bucket,o.key,fw v⟩]}) ⟨q5.F.put hk0 hG,q5.D,q5.h,kk,q5.kD,by omega,by omega⟩;simp only at this;rw[bX q3,bX q4]at this;exact this
theorem Mr(h:Rf N m μ)(hM:ij N c μ)(hi:dm μ.r o.level o.az<μ.r.length)(hk:o.kind=11∨o.kind=12){dg:List UInt8→Int}:(sK m o).1=(iV μ (cr dg c μ o full)).1∧Rf (N+1) (sK m o).2 (iV μ (cr dg c μ o full)).2:=by
 have hN:=h.le (abp N);have hr:=h.r;unfold sK;rcases hk with k|k
 ·rw[show cr dg c μ o full=nG μ o by unfold cr;simp[k],if_neg (by omega),hr];unfold nG;obtain⟨q,hq⟩:=acF.1 ((wh _ _ _).1 hi);have hnum:(oz μ.r o.level o.az).2=q.2+1:=by rw[PM,hq];rfl
  have hses:o.az≤ic μ.r o.level:=by
   obtain⟨s,hs,_⟩:=nI hi;have h1:=(hM.CA.le hs).2;rw[(eE hs).1,(eE hs).2.1]at h1;exact h1
  rw[hnum];refine⟨rfl,hN.az ?_ ?_ ?_ ?_⟩
  ·intro a b k hk;have hk':=hk;rw[fa,Is]at hk;by_cases e:a=o.level∧b=o.az
   ·rw[if_pos e,hq]at hk;simp only[abH,acL,aaD,aau]at hk;by_cases e2:k=q.2+1
    ·refine⟨⟨o.level,o.az,q.2+1,m.l⟩,μ.l.map uy.F,?_,?_,?_,?_⟩
     ·rw[adX,adg.2]
      ·rw[e.1,e.2,e2];simp[Ps]
      ·intro p hp r;have r:=of_decide_eq_true r;have:=(h.pk p hp).2 q (by rw[r.1,r.2.1,e.1,e.2];exact hq);rw[r.2.2]at this;omega
     ·unfold tT;rw[if_pos ⟨e.1,e.2,e2⟩]
     ·simp[h.l]
     ·intro x l F z1 z2;rw[aaE,aay]at z2;obtain⟨y,z3,rfl⟩:=z2;obtain⟨e',d',y1,_,_,_,y5⟩:=h.at_ x y z3;have z1:m.l[x]? =some l:=z1;rw[z1]at y1;cases y1;exact y5.F
    ·have hk:=hk.resolve_right e2;obtain⟨p,Fs,z1,z2,z3⟩:=h.sn a b k (by rw[fa,e.1,e.2,hq];exact hk);refine⟨p,Fs,by rw[adX,z1];rfl,?_,z3⟩;unfold tT;rw[if_neg (fun r=>e2 r.2.2)];exact z2
   ·rw[if_neg e]at hk;obtain⟨p,Fs,z1,z2,z3⟩:=h.sn a b k (by rw[fa];exact hk);refine⟨p,Fs,by rw[adX,z1];rfl,?_,z3⟩;unfold tT;rw[if_neg (fun r=>e ⟨r.1,r.2.1⟩)];exact z2
  ·intro p hp;rw[Wd,Is];rcases aaD.1 hp with hp|hp
   ·refine⟨(h.pk p hp).1,fun q' hq'=>?_⟩;by_cases e:p.lv=o.level∧p.n=o.az
    ·rw[if_pos e,hq]at hq';cases hq';have:=(h.pk p hp).2 q (by rw[e.1,e.2];exact hq);show p.k≤q.2+1;omega
    ·rw[if_neg e]at hq';exact(h.pk p hp).2 q' hq'
   ·rw[aau.1 hp];refine⟨hses,fun q' hq'=>?_⟩;rw[if_pos ⟨rfl,rfl⟩,hq]at hq';cases hq';exact adU _
  ·intro p hp;rcases aaD.1 hp with hp|hp
   ·exact hN.pl p hp
   ·rw[aau.1 hp];refine⟨h.l,fun l hl=>?_⟩;obtain⟨x,hx⟩:=abv.1 hl;have hx:m.l[x]? =some l:=hx;have hlt:=(aad.1 hx).1;rw[h.l]at hlt;obtain⟨e',d',y1,_,_,_,y5⟩:=h.at_ x _ (aac hlt);rw[hx]at y1;cases y1;exact Nat.le_succ_of_le y5.nF
  ·rw[aaK,acQ];have:=h.pn;omega
 ·rw[show cr dg c μ o full=eJ μ o by unfold cr;simp[k],if_pos k,hr];unfold eJ;by_cases hu:(oA μ.r o.level o.az o.snap).2=false
  ·rw[if_pos hu,if_pos hu,Ml hu,←hr];exact⟨rfl,hN⟩
  rw[if_neg hu,if_neg hu];obtain⟨q,hq⟩:=acF.1 ((wh _ _ _).1 hi);refine⟨rfl,hN.az ?_ ?_ hN.pl hN.pn⟩
  ·intro a b k hk;rw[fa,J0]at hk;by_cases e:a=o.level∧b=o.az
   ·rw[if_pos e,hq]at hk;simp only[abH,acL]at hk;have hk:k∈pX o.snap q.1:=hk;unfold pX at hk;rw[abO]at hk;obtain⟨p,Fs,z1,z2,z3⟩:=h.sn a b k (by rw[fa,e.1,e.2,hq];exact hk.1);refine⟨p,Fs,z1,?_,z3⟩;unfold tT;rw[if_neg (fun r=>by have:=hk.2;rw[r.2.2]at this;simp at this)];exact z2
   ·rw[if_neg e]at hk;obtain⟨p,Fs,z1,z2,z3⟩:=h.sn a b k (by rw[fa];exact hk);refine⟨p,Fs,z1,?_,z3⟩;unfold tT;rw[if_neg (fun r=>e ⟨r.1,r.2.1⟩)];exact z2
  ·intro p hp;rw[Vw,J0];refine⟨(h.pk p hp).1,fun q' hq'=>?_⟩;by_cases e:p.lv=o.level∧p.n=o.az
   ·rw[if_pos e,hq]at hq';cases hq';exact(h.pk p hp).2 q (by rw[e.1,e.2];exact hq)
   ·rw[if_neg e]at hq';exact(h.pk p hp).2 q' hq'
theorem MB(h:Rf N m μ)(hM:ij N c μ)(hk:o.kind=13∨o.kind=14){dg:List UInt8→Int}:(uk c m o,m).1=(iV μ (cr dg c μ o full)).1∧Rf (N+1) (uk c m o,m).2 (iV μ (cr dg c μ o full)).2:=by
 have hN:=h.le (abp N);unfold uk;rcases hk with k|k
 ·rw[show cr dg c μ o full=ia c μ o by unfold cr;simp[k]];unfold ia;simp only[if_pos k];split
  ·exact⟨rfl,hN⟩
  ·exact⟨rfl,hN⟩
 ·rw[show cr dg c μ o full=gy c μ o by unfold cr;simp[k]];unfold gy;split
  ·exact⟨rfl,hN⟩
  ·rename_i q;obtain⟨f0,f1⟩:=kZ (by simpa using q:gM c.up o.label o.level=true);have hnl:=hM.nl;obtain⟨ef,df,p0,p1,p2,p3,p4,p5⟩:=h.mM f0 (by omega);rw[if_neg (by omega),bJ p2];exact⟨rfl,hN⟩
theorem Sb(h:Rf N m μ)(hM:ij N c μ)(h0:0≤o.level)(h1:o.level<μ.l.length)(hs:1≤o.az)(hk:1≤o.kind∧o.kind≤4){dg:List UInt8→Int}:(Bz m o).1=(iV μ (cr dg c μ o full)).1∧Rf (N+1) (Bz m o).2 (iV μ (cr dg c μ o full)).2:=by
 have hN:=h.le (abp N);have hr:=h.r;obtain⟨e,d,q0,q1,q2,q3,q4,q5⟩:=h.mM h0 h1;have hx:o.level.toNat<μ.l.length:=by omega
 have hh:=q5.h;have p5:=q5.le (abp N);unfold Bz;simp only[bJ q1,bJ q3,bJ q4];rcases(by omega:o.kind=1∨o.kind=2∨o.kind=3∨o.kind=4)with k|k|k|k
 ·rw[show cr dg c μ o full=jI μ o by unfold cr;simp[k],if_neg (by omega),if_pos k,hr];unfold jI;simp only;refine⟨rfl,?_⟩
  have hy:Rf (N+1) {m with hs:=if(aE μ o.level).has=o.az then m.hs.set o.level.toNat 0 else m.hs} ⟨μ.l.set o.level.toNat {aE μ o.level with has:=if(aE μ o.level).has=o.az then 0 else(aE μ o.level).has},μ.r,μ.sn⟩:=by
   have:=h.set hx (e:=e) (d:=d) (y:={aE μ o.level with has:=if(aE μ o.level).has=o.az then 0 else(aE μ o.level).has}) ⟨p5.F,fun r=>p5.D fun z=>r (by simp only;split <;>omega),by simp only;split <;>omega,p5.kF,p5.kD,p5.nF,p5.nD⟩;simp only at this;rw[bX q1,bX q2,bX q4]at this;by_cases z:(aE μ o.level).has=o.az
   ·rw[if_pos z]at this ⊢;rw[if_pos z];exact this
   ·rw[if_neg z,bX q3]at this;rw[if_neg z,if_neg z];exact this
  refine hy.az ?_ ?_ hy.pl hy.pn
  ·intro a b k hk;rw[fa,H3 hM.CA]at hk;split at hk
   ·simp at hk
   ·exact h.sn a b k (by rw[fa];exact hk)
  ·intro p hp;rw[PR,H3 hM.CA];refine⟨(h.pk p hp).1,fun q hq=>?_⟩;split at hq
   ·cases hq
   ·exact(h.pk p hp).2 q hq
 ·rw[show cr dg c μ o full=ie μ o by unfold cr;simp[k],if_pos k];unfold ie cE;simp only;by_cases z:(aE μ o.level).has=0
  case neg=>rw[if_pos (by omega),if_pos z];exact⟨rfl,hN⟩
  rw[if_neg (by omega),if_neg (fun r=>r z)];refine⟨rfl,?_⟩;have:=h.set hx (e:=e) (d:=e) (y:={aE μ o.level with has:=o.az,D:=(aE μ o.level).F}) ⟨p5.F,fun _=>p5.F,by show 0≤o.az;omega,p5.kF,p5.kF,p5.nF,p5.nF⟩;simp only at this;rw[bX q1,bX q2]at this;exact this
 ·rw[show cr dg c μ o full=eG μ o by unfold cr;simp[k],if_neg (by omega),if_neg (by omega)];unfold eG cE;simp only;by_cases z:(aE μ o.level).has=o.az
  case neg=>rw[if_pos z,if_pos z];exact⟨rfl,hN⟩
  have zz:¬(aE μ o.level).has≠o.az:=fun r=>r z;rw[if_neg zz,if_pos k,if_neg zz];refine⟨rfl,?_⟩;have hD:=p5.D (by omega);have:=h.set hx (e:=d) (d:=d) (y:={aE μ o.level with has:=0,F:=(aE μ o.level).D}) ⟨hD,fun r=>absurd rfl r,adU _,p5.kD,p5.kD,p5.nD,p5.nD⟩;simp only at this;rw[bX q2,bX q4]at this;exact this
 ·rw[show cr dg c μ o full=cJ μ o by unfold cr;simp[k],if_neg (by omega),if_neg (by omega)];unfold cJ cE;simp only;by_cases z:(aE μ o.level).has=o.az
  case neg=>rw[if_pos z,if_pos z];exact⟨rfl,hN⟩
  have zz:¬(aE μ o.level).has≠o.az:=fun r=>r z;have k3:¬o.kind=3:=by omega
  rw[if_neg zz,if_neg k3,if_neg zz];refine⟨rfl,?_⟩;have:=h.set hx (e:=e) (d:=d) (y:={aE μ o.level with has:=0}) ⟨p5.F,fun r=>absurd rfl r,adU _,p5.kF,p5.kD,p5.nF,p5.nD⟩;simp only at this;rw[bX q1,bX q2,bX q4]at this;exact this
end
end Go.Proofs.YtoepfmhnapedoaaGreatDoor
namespace Go.Proofs.YtoepfmhnapedoaaGreatDoor
open Aml Go Rn Lat Grs
theorem HM(x:Nat)(p:List UInt8→Bool)(f:Option (List UInt8→Option (List UInt8))):(kr x p f).Pairwise pF:=by
 unfold kr
 cases f with
 |none=>exact .nil
 |some f=>exact adZ.2 (((wL f).filter p).imp fun h=> .inl h)
theorem DD{x:Nat}{p:List UInt8→Bool}{f:Option (List UInt8→Option (List UInt8))}{a:dA}(h:a∈kr x p f):a.mM=x∧∃g,f=some g∧a.val=(g a.key).getD []:=by
 unfold kr at h
 cases f with
 |none=>cases h
 |some f=>
  obtain⟨k,_,rfl⟩:=aaT.1 h;exact⟨rfl,f,rfl,rfl⟩
section
variable {N:Nat} {m:fU} {μ:bM} {c:Cf} {o:aV} {full:Bool}
theorem Nr(c:Cf)(μ:bM)(o:aV)(p:List UInt8→Bool)(i:Nat)(most:Int):W9 (bl c μ o p i) most=Q8 (bl c μ o p i) most:=by
 unfold W9 Q8;rw[union_eq]
 ·intro r hr;unfold bl at hr;obtain⟨x,_,rfl⟩:=aaT.1 hr;exact HM x p _
 ·intro a b ha hb h1 h2;unfold bl at ha hb;obtain⟨ra,ha1,ha2⟩:=List.mem_flatten.1 ha;obtain⟨rb,hb1,hb2⟩:=List.mem_flatten.1 hb;obtain⟨x,_,rfl⟩:=aaT.1 ha1;obtain⟨y,_,rfl⟩:=aaT.1 hb1;obtain⟨a1,g,a2,a3⟩:=DD ha2;obtain⟨b1,g',b2,b3⟩:=DD hb2;have e:x=y:=by omega
  subst e;rw[a2]at b2;cases b2;cases a;cases b;simp only at h1 h2 a3 b3;rw[a3,b3,h1,h2]
theorem O9(h:Rf N m μ)(hM:ij N c μ)(hns:¬gz μ o)(hs:o.az≠0)(hlv:0≤o.level):fe c m o μ.l.length=bl c μ o (fun k=>!zg k o.key) μ.l.length∧dZ c m o μ.l.length=(bl c μ o (fun k=>decide (k=o.key)) μ.l.length).flatten∧j9 c m o μ.l.length=gT c μ o μ.l.length:=by
 have hsp:o.snap≠0→∀Fs,μ.sn o.level o.az o.snap=some Fs→Fs.length=μ.l.length:=fun q Fs hF=>by
  obtain⟨Fs',z1,z2⟩:=hM.sp _ _ _ (abF fun r=>hns ⟨q,r⟩);rw[hF]at z1;cases z1;exact z2
 have hE:∀x,x∈kp c o μ.l.length→El (ed m o x) (fO μ o x):=fun x hx=>h.Yq hns hs hlv (ace.1 (abO.1 hx).1) hsp;have e0:kc c μ o μ.l.length=kp c o μ.l.length:=rfl;refine⟨?_,?_,?_⟩
 ·unfold fe bl;rw[e0];exact adp fun x hx=>(hE x hx).jX o x
 ·unfold dZ bl;rw[e0,List.flatMap_def];exact congrArg List.flatten (adp fun x hx=>(hE x hx).jN o x)
 ·unfold j9 gT;rw[e0]
  have key:∀l:List Nat,(∀x,x∈l→El (ed m o x) (fO μ o x))→(l.any fun x:Nat=>decide (0≤aP (ed m o x) o.bucket []))=l.any fun x=>(fO μ o x o.bucket).isSome:=by
   intro l hl
   induction l with
   |nil=>rfl
   |cons x l ih=>
    rw[List.any_cons,List.any_cons,ih fun y hy=>hl y (aat _ hy)];congr 1;have:=(hl x aaQ).bucket o.bucket
    cases hq:(fO μ o x o.bucket).isSome with
    |true=>exact decide_eq_true (this.2 hq)
    |false=>exact decide_eq_false fun r=>by rw[this.1 r]at hq;cases hq
  exact key _ hE
theorem Oo(h:Rf N m μ)(hM:ij N c μ)(hs:o.az≠0)(hlv:0≤o.level)(hk:o.kind=9∨o.kind=10){dg:List UInt8→Int}:(sB c m o,m).1=(iV μ (cr dg c μ o full)).1∧Rf (N+1) (sB c m o,m).2 (iV μ (cr dg c μ o full)).2:=by
 have hN:=h.le (abp N);unfold sB;rw[h.r,h.l];by_cases hns:gz μ o
 ·have hns':o.snap≠0∧¬o.snap∈lL μ.r o.level o.az:=hns;rw[if_pos hns'];rcases hk with k|k
  ·rw[show cr dg c μ o full=getM c μ o by unfold cr;simp[k]];unfold getM;rw[if_pos hns];exact⟨rfl,hN⟩
  ·rw[show cr dg c μ o full=iZ c μ o by unfold cr;simp[k]];unfold iZ;rw[if_pos hns];exact⟨rfl,hN⟩
 obtain⟨e1,e2,e3⟩:=O9 h hM hns hs hlv;have hns':¬(o.snap≠0∧¬o.snap∈lL μ.r o.level o.az):=hns;rw[if_neg hns',e1,e2,e3,Nr];rcases hk with k|k
 ·rw[show cr dg c μ o full=getM c μ o by unfold cr;simp[k]];unfold getM;rw[if_neg hns];split
  ·exact⟨rfl,hN⟩
  ·rw[if_neg (by omega)];simp only;split
   ·exact⟨rfl,hN⟩
   ·exact⟨rfl,hN⟩
 ·rw[show cr dg c μ o full=iZ c μ o by unfold cr;simp[k]];unfold iZ;rw[if_neg hns];split
  ·exact⟨rfl,hN⟩
  ·try rw[if_pos k]
   exact⟨rfl,hN⟩
theorem La(h:Rf N m μ):Rf (N+1) (pR m o full) (bT μ o full):=by
 have hl:=h.l;unfold pR;have cl:=SU μ o full;obtain⟨L,hL⟩:∃L,L=if 0<o.az∧0≤o.level∧o.level<m.l.length∧m.hs.getD o.level.toNat 0=o.az∧full=false then m.l.set o.level.toNat (m.ds.getD o.level.toNat [])else m.l:=⟨_,rfl⟩
 rw[←hL];have hLl:L.length=μ.l.length:=by rw[hL];split <;>simp[hl]
 refine⟨by rw[cl];exact hLl,by rw[cl];exact h.la,by simp[cl,hl],by rw[cl];exact h.ld,fun x y hy=>?_,rfl,fun lv n k hk=>?_,fun p hp=>(by cases hp),fun p hp=>(by cases hp),aa6 _⟩
 ·have hx:x<μ.l.length:=by rw[←cl];exact(aad.1 hy).1
  have hc:=BR (μ:=μ) (o:=o) (full:=full) (x:=(x:Int)) (by omega) (by omega);have hy2:aE (bT μ o full) (x:Int)=y:=bB (x:=(x:Int)) hy (by omega);rw[hy2]at hc;obtain⟨e,d,q0,q1,q2,q3,q4,q5⟩:=h.mM (x:=(x:Int)) (by omega) (by omega);rw[acI]at q0 q1 q2 q3 q4;have p5:=q5.le (abp N);subst hc;have hrep:(List.replicate m.l.length (0:Int))[x]? =some 0:=by rw[ab6,if_pos (by omega)]
  by_cases hcnd:(x:Int)=o.level∧0<o.az∧(aE μ (x:Int)).has=o.az∧full=false
  ·have hLx:L[x]? =some d:=by
    have ex:o.level.toNat=x:=by omega
    rw[hL,ex,bJ q3,bJ q4,if_pos ⟨hcnd.2.1,by omega,by omega,hcnd.2.2.1,hcnd.2.2.2⟩];exact abZ (by omega)
   refine⟨d,d,hLx,q2,hrep,q4,?_⟩;have hD:=p5.D (by omega);refine⟨?_,fun r=>absurd rfl r,adU _,?_,p5.kD,p5.nD,p5.nD⟩
   ·simp only;rw[if_pos hcnd];exact hD
   ·simp only;rw[if_pos hcnd];exact p5.kD
  ·have hLx:L[x]? =some e:=by
    rw[hL];split
    ·rename_i q;rw[ab5]
     ·exact q1
     ·intro ex;rw[ex,bJ q3]at q;exact hcnd ⟨by omega,q.1,q.2.2.2.1,q.2.2.2.2⟩
    ·exact q1
   refine⟨e,d,hLx,q2,hrep,q4,?_⟩;refine⟨?_,fun r=>absurd rfl r,adU _,?_,p5.kD,p5.nF,p5.nD⟩
   ·simp only;rw[if_neg hcnd];exact p5.F
   ·simp only;rw[if_neg hcnd];exact p5.kF
 ·have:lL ([]:List RH) lv n=[]:=by unfold lL;rfl
  have hk:k∈lL ([]:List RH) lv n:=hk;rw[this]at hk;cases hk
theorem VG(h:Rf N m μ)(hM:ij N c μ):(Mf c m o full).1=(iy fw c μ o full).1∧Rf (N+1) (Mf c m o full).2 (iy fw c μ o full).2:=by
 have hl:=h.l;have hr:=h.r;have hN:=h.le (abp N);unfold Mf;rw[hl,hr];by_cases hok:r6 μ.l.length o=false
 ·have e:iy fw c μ o full=(dP 40,μ):=by unfold iy;rw[if_pos hok]
  rw[e,if_pos hok];exact⟨rfl,hN⟩
 rw[if_neg hok];have hok1:r6 μ.l.length o=true:=by simpa using hok
 have hok':(0≤o.kind∧o.kind<17)∧(o.kind=16∨(0≤o.level∧o.level<(μ.l.length:Int))):=of_decide_eq_true hok1;by_cases k0:o.kind=0
 ·have hlv:=hok'.2.resolve_left (by omega);rw[if_pos k0,Pc fw c μ full k0 hlv.1 hlv.2];refine⟨rfl,hN.az ?_ ?_ hN.pl hN.pn⟩
  ·intro a b k hk;rw[fa,Hu hM.CA]at hk;split at hk
   ·simp at hk
   ·exact h.sn a b k (by rw[fa];exact hk)
  ·intro p hp;have hp2:=h.pk p hp;rw[Qj,Hu hM.CA];refine⟨by omega,fun q hq=>?_⟩;split at hq
   ·rename_i z;rw[z.1]at hp2;omega
   ·exact hp2.2 q hq
 rw[if_neg k0];by_cases Me:o.kind=16
 ·rw[if_pos Me,L4 fw c μ full Me];exact⟨rfl,La h⟩
 rw[if_neg Me];have hlv:=hok'.2.resolve_left Me;by_cases hi:dm μ.r o.level o.az<μ.r.length
 case neg=>
  rw[if_pos hi,MA fw c μ full (by omega) hlv.1 hlv.2 hi];exact⟨rfl,hN⟩
 rw[if_neg (fun q=>q hi),TT fw c μ full (by omega) hlv.1 hlv.2 hi];obtain⟨q,hq⟩:=acF.1 ((wh _ _ _).1 hi);have hses:=(Wf hM.CA hq).1;by_cases k9:o.kind=9∨o.kind=10
 ·rw[if_pos k9];exact Oo h hM (by omega) hlv.1 k9
 rw[if_neg k9];by_cases QA:o.kind=11∨o.kind=12
 ·rw[if_pos QA];exact Mr h hM hi QA
 rw[if_neg QA];by_cases Gt:o.kind=13∨o.kind=14
 ·rw[if_pos Gt];exact MB h hM Gt
 rw[if_neg Gt];by_cases XL:o.kind=15
 ·rw[if_pos XL];exact OF h hM XL
 rw[if_neg XL];by_cases k5:5≤o.kind
 ·rw[if_pos k5];exact IU h hlv.1 hlv.2 (by omega) (by omega)
 rw[if_neg k5];exact Sb h hM hlv.1 hlv.2 hses (by omega)
end
def LU(n:Nat):fU:=⟨List.replicate n [],List.replicate n [],List.replicate n 0,List.replicate n [],[],[]⟩
theorem rf0(n:Nat):Rf 0 (LU n) (uV n):=by
 have hrep:∀{α:Type} {a:α} {x:Nat},x<n→(List.replicate n a)[x]? =some a:=fun{α a x} h=>by rw[ab6,if_pos h]
 refine⟨by simp[LU,uV],by simp[LU,uV],by simp[LU,uV],by simp[LU,uV],fun x y hy=>?_,rfl,fun lv a k hk=>?_,fun p hp=>(by cases hp),fun p hp=>(by cases hp),aar _⟩
 ·have hx:x<n:=by have:=(aad.1 hy).1;simpa[uV]using this
  have hy:(List.replicate n (⟨fun _=>none,[],0,fun _=>none⟩:uy))[x]? =some y:=hy;rw[hrep hx]at hy;cases hy;exact⟨[],[],hrep hx,hrep hx,hrep hx,hrep hx,.nil,fun _=> .nil,adU _,fun n f h=>(by cases h),fun n f h=>(by cases h),aar _,aar _⟩
 ·have:lL ([]:List RH) lv a=[]:=by unfold lL;rfl
  have hk:k∈lL ([]:List RH) lv a:=hk;rw[this]at hk;cases hk
end Go.Proofs.YtoepfmhnapedoaaGreatDoor
namespace Go.Proofs.YtoepfmhnapedoaaGreatDoor
open Aml Go Rn Lat Grs
theorem ME{out:List dA}{x:dA}{a:Nat}(ha:a≤out.length)(h1:∀(j:Nat) y,a≤j→out[j]? =some y→cX x y=true)(h2:∀(j:Nat) y,j+1=a→out[j]? =some y→cX x y=false):jQ out x=out.take a++[x]++out.drop a:=by
 have e:out.reverse=(out.drop a).reverse++(out.take a).reverse:=by rw[←List.reverse_append,adf]
 have hp:∀y,y∈(out.drop a).reverse→cX x y=true:=fun y hy=>by
  rw[List.mem_reverse]at hy;obtain⟨j,hj⟩:=abv.1 hy;rw[acm]at hj;exact h1 (a+j) y (by omega) hj
 have h3:(out.take a).reverse.takeWhile (fun y=>cX x y)=[]∧(out.take a).reverse.dropWhile (fun y=>cX x y)=(out.take a).reverse:=by
  cases a with
  |zero=>exact⟨rfl,rfl⟩
  |succ j=>
   have hj:out[j]? =some (out[j]'(by omega)):=aac _;have:=h2 j _ rfl hj;have e2:(out.take (j+1)).reverse=out[j]::(out.take j).reverse:=by rw[abY,hj];simp
   rw[e2,List.takeWhile_cons,List.dropWhile_cons,this];exact⟨rfl,rfl⟩
 unfold jQ;rw[e,List.takeWhile_append_of_pos hp,List.dropWhile_append_of_pos hp,h3.1,h3.2];simp
theorem Eu(l:List dA):(l.foldl jQ []).length=l.length:=by
 have:=(tV l []).length_eq;simpa using this
theorem NX(w0:W0)(rows:List (List dA))(most:Int)(h0:rows.length≤1048576)(h1:(j0 rows).length≤1048576)(S:St):
 ab Tryz.prog w0 87 [.sl 1 false (rows.map dD),dI most] S (fun d S'=>d=dD (W9 rows most)∧S'=S):=by
 have hm8:maxLen=9223372036854775807:=rfl;refine bI [] mx Tryz.func87 rfl rfl (by kernel_rfl) ?_;refine @aa _ (ah @Tryz.ntmps87 ?_);refine Kg [] [5] rows.length [0,1,5,6] (fun i=>[(5,dD ((j0 (rows.take i)).foldl jQ [])),(6,dI i)]) (fun _=>S) (fun _=>True) mx (by kernel_rfl) ?_ ?_
 ·refine @aa _ (av ?_);exact .VD _ _ _
 intro i hi _;by_cases hil:i<rows.length
 ·have e1:IntKind.i64.wrap ((i:Int)+1)=((i+1:Nat):Int):=aJ (by omega);have hx:rows[i]? =some rows[i]:=aac hil;have hfs:=oP hx;have hfl:=xt rows (i+1);generalize rows[i]=l at hx hfs;rw[hfs,aaK]at hfl;refine @aa _ (cK @hx @e1 ?_);refine⟨fun _=>?_,fun h=>absurd hil h⟩;refine Kg [] [5] l.length [0,1,5,6,7] (fun k=>[(5,dD ((j0 (rows.take i)++l.take k).foldl jQ [])),(7,dI k)]) (fun _=>S) (fun _=>True) mx (by kernel_rfl) ?_ ?_
  ·exact @aa _ bY
   try (rw[aco];exact .refl _)
  intro k hk _;by_cases hkl:k<l.length
  ·have e2:IntKind.i64.wrap ((k:Int)+1)=((k+1:Nat):Int):=aJ (by omega);have hy:l[k]? =some l[k]:=aac hkl
   have hsn:(j0 (rows.take i)++l.take (k+1)).foldl jQ []=jQ ((j0 (rows.take i)++l.take k).foldl jQ []) l[k]:=by
    rw[abY,hy,←acu,ac9];rfl
   have hol:=Eu (j0 (rows.take i)++l.take k);rw[aaK,ab2]at hol;generalize l[k]=x at hy hsn;rw[hsn];generalize (j0 (rows.take i)++l.take k).foldl jQ []=out at hol ⊢;refine @aa _ (cL @hx @hy @e2 ?_);refine⟨hil,fun _=>?_,fun h=>absurd hkl h⟩;refine fZ [] [0,1,5,6,7,8] (σ:=Nat) (fun a=>[(8,dI a)]) (fun _=>S) (fun a=>a≤out.length∧∀(j:Nat) y,a≤j→out[j]? =some y→cX x y=true) (fun a=>a) out.length mx (by kernel_rfl) ⟨⟨aar _,fun j y hj hy=>by have:=(aad.1 hy).1;omega⟩,?_⟩ ?_
   ·exact @aa _ bY
   rintro a ⟨ha,hinv⟩;have fin:(∀(j:Nat) y,j+1=a→out[j]? =some y→cX x y=false)→jQ out x=out.take a++[x]++out.drop a:=ME ha hinv
   cases a with
   |zero=>
    have z0:((0:Int)>0)=False:=by simp
    have fin:=fin fun j y h=>by omega
    refine @aa _ (aZ @hx @hy @e2 @z0 ?_);refine⟨by omega,fun b=>⟨hil,hkl,by omega,by omega,by omega,hkl,?_⟩⟩;rw[fin];exact .refl _
   |succ a=>
    have z0:(((a+1:Nat):Int)>0)=True:=eq_true (by omega);have e3:IntKind.i64.wrap (((a+1:Nat):Int)-1)=(a:Int):=by rw[nJ (by omega) (by omega)];omega
    have hz:out[a]? =some (out[a]'(by omega)):=aac _;generalize out[a]'(by omega)=z at hz;refine @aa _ (eQ @hx @hy @hz @z0 @e3 ?_);refine⟨hil,hkl,by omega,aR (Us w0 x z _) ?_⟩
    cases hlt:cX x z with
    |true=>
     refine @aa _ (eQ @hx @hy @hz @z0 @e3 ?_);refine⟨a,⟨by omega,fun j y hj hy=>?_⟩,by omega,rfl⟩;by_cases e:j=a
     ·subst e;rw[hz]at hy;cases hy;exact hlt
     ·exact hinv j y (by omega) hy
    |false=>
     have fin:=fin fun j y h1 h2=>by
      have:j=a:=by omega
      subst this;rw[hz]at h2;cases h2;exact hlt
     refine @aa _ (cL @hx @hy @e2 ?_);refine⟨by omega,by omega,by omega,fun b=>⟨hil,hkl,by omega,by omega,by omega,by omega,by omega,hkl,?_⟩⟩;rw[fin,aaZ,aaZ];exact .refl _
  ·refine @aa _ (cK @hx @e1 ?_);refine⟨hil,fun h=>absurd h hkl,fun _=>?_⟩;rw[abf (l:=l) (by omega),hfs];exact⟨hil,.refl _⟩
 ·refine @aa _ (av ?_);refine⟨fun h=>absurd h hil,fun _=>?_⟩;rw[abf (by omega)];have hul:W9 rows most=((j0 rows).foldl jQ []).take most.toNat:=rfl;generalize (j0 rows).foldl jQ []=out at hul ⊢;rw[hul];refine⟨fun h=>⟨fun _=>?_,fun q=>?_⟩,fun h=>⟨fun q=>⟨by omega,by omega,.refl _⟩,fun q=>?_⟩⟩
  ·rw[show most.toNat=0 by omega];exact .refl _
  ·have:out=[]:=aa0 (by omega);rw[this,List.take_nil];exact .refl _
  ·rw[abf (by omega)];exact .refl _
@[go_sem] def XB (p:Vg):DV:= .agg [dI p.lv,dI p.n,dI p.k,.sl 1 false (p.l.map dQ)]
structure RG where
 m:Nat
 L:Nat
 A:Nat
 H:Nat
 D:Nat
 P:Nat
def RG.ax(h:RG):List Nat:=[h.L,h.A,h.H,h.D,h.P]
structure jf(S:St)(h:RG)(c:Cf)(m:fU):Prop where
 md:lk S.box h.m=some (pE c h.L h.A h.H h.D m.l.length (.sl 5 false (m.r.map wY)) (.acc h.P m.ps.length))
 L:lk S.acc h.L=some (.arr 1 (m.l.map dQ))
 A:lk S.acc h.A=some (.arr 1 (m.au.map sP))
 H:lk S.acc h.H=some (.arr 1 (m.hs.map dI))
 D:lk S.acc h.D=some (.arr 1 (m.ds.map dQ))
 P:lk S.acc h.P=some (.arr 4 (m.ps.map XB))
 nd:h.ax.Nodup
 la:m.au.length=m.l.length
 lh:m.hs.length=m.l.length
 ld:m.ds.length=m.l.length
 up:eN c.up
theorem jf.has{S T:St}{h:RG}{c:Cf}{m:fU}(k:jf S h c m)(q:Has S T):jf T h c m:=⟨q.box _ _ k.md,q.acc _ _ k.L,q.acc _ _ k.A,q.acc _ _ k.H,q.acc _ _ k.D,q.acc _ _ k.P,k.nd,k.la,k.lh,k.ld,k.up⟩
theorem jf.xn{S:St}{h:RG}{c:Cf}{m:fU}(k:jf S h c m){i:Nat}(hi:i∈h.ax):∃o,lk S.acc i=some o:=by
 unfold RG.ax at hi;simp only[aaJ,aca,or_false]at hi;rcases hi with rfl|rfl|rfl|rfl|rfl
 ·exact⟨_,k.L⟩
 ·exact⟨_,k.A⟩
 ·exact⟨_,k.H⟩
 ·exact⟨_,k.D⟩
 ·exact⟨_,k.P⟩
theorem Aw{α:Type}{q:α→Bool}:∀{l:List α} {i:Nat} {a:α},l[i]? =some a→q a=true→(∀(j:Nat) b,j<i→l[j]? =some b→q b=false)→l.find? q=some a
 |x::l,0,a,h,hq,_=>by
  simp at h;subst h;simp[hq]
 |x::l,i+1,a,h,hq,hn=>by
  rw[List.find?_cons,hn 0 x (by omega) rfl];exact Aw (by simpa using h) hq fun j b hj hb=>hn (j+1) b (by omega) (by simpa using hb)
theorem Lo{α:Type}{q:α→Bool}{l:List α}(hn:∀(j:Nat) b,l[j]? =some b→q b=false):l.find? q=none:=adg.2 fun x hx=>by
 obtain⟨j,hj⟩:=abv.1 hx;rw[hn j x hj];simp
theorem Rv(w0:W0){S:St}{h:RG}{c:Cf}{m:fU}(k:jf S h c m)(o:aV){x:Nat}(hx:x<m.l.length)(hps:m.ps.length≤1048576)(hpl:∀p,p∈m.ps→p.l.length=m.l.length)(hn:m.l.length≤1048576):
 ab Tryz.prog w0 85 [bC h.m,uB o,dI x] S (fun d S'=>d=dQ (ed m o x)∧S'=S):=by
 have hmd:=k.md;have hL:=k.L;have hH:=k.H;have hD:=k.D;have hP:=k.P;unfold pE at hmd;have x1:m.l[x]? =some m.l[x]:=aac hx;have x2:m.hs[x]? =some (m.hs[x]'(by have:=k.lh;omega)):=aac _;have x3:m.ds[x]? =some (m.ds[x]'(by have:=k.ld;omega)):=aac _;have xh:x<m.hs.length:=by have:=k.lh;omega
 have xd:x<m.ds.length:=by have:=k.ld;omega
 have hse:ed m o x=match(if o.snap≠0 then m.ps.find? (Ps o.level o.az o.snap)else none)with
  |some p=>p.l.getD x []
  |none=>if(x:Int)=o.level∧m.hs[x]=o.az then m.ds[x]else m.l[x]:=by
  unfold ed;rw[bJ x1,bJ x2,bJ x3];rfl
 generalize m.l[x]=e at x1 hse;generalize m.hs[x]'_=hh at x2 hse;generalize m.ds[x]'_=d at x3 hse;generalize ed m o x=R at hse
 have fin:(if o.snap≠0 then m.ps.find? (Ps o.level o.az o.snap)else none)=none→((x:Int)=o.level→x<m.l.length∧m.hs.length=m.l.length∧x<m.hs.length∧(hh=o.az→x<m.l.length∧m.ds.length=m.l.length∧x<m.ds.length∧Wk (DV.sl 3 false (d.map xS)) (DV.sl 3 false (R.map xS)))∧(¬hh=o.az→x<m.l.length∧x<m.l.length∧Wk (DV.sl 3 false (e.map xS)) (DV.sl 3 false (R.map xS))))∧(¬(x:Int)=o.level→x<m.l.length∧x<m.l.length∧Wk (DV.sl 3 false (e.map xS)) (DV.sl 3 false (R.map xS))):=fun q=>by
  rw[q]at hse;simp only at hse;rw[hse];refine⟨fun h1=>⟨hx,k.lh,xh,fun h2=>⟨hx,k.ld,xd,?_⟩,fun h2=>⟨hx,hx,?_⟩⟩,fun h1=>⟨hx,hx,?_⟩⟩
  ·rw[if_pos ⟨h1,h2⟩];exact .refl _
  ·rw[if_neg (fun q=>h2 q.2)];exact .refl _
  ·rw[if_neg (fun q=>h1 q.1)];exact .refl _
 refine bI [] mx Tryz.func85 rfl rfl (by kernel_rfl) ?_;refine @aa _ (ah @Tryz.ntmps85 ?_);intro b;have nb:=an b h.m (by rw[hmd];rfl)
 try exact @aa _ bY
 refine aQ [] m.ps.length [0,2,4,7] (fun i=>[(4,.v (.pointer (some ⟨b.n,0,none⟩))),(7,dI i)]) (fun i=>⟨(b.n,o.ds)::S.box,S.acc⟩) (fun i=>∀(j:Nat) p,j<i→m.ps[j]? =some p→Ps o.level o.az o.snap p=false) mx (by kernel_rfl) ?_ ?_
 ·refine @aa _ (av ?_);exact fun j p hj=>absurd hj (Nat.not_lt_zero _)
 intro i hi hinv;have e1:IntKind.i64.wrap ((i:Int)+1)=((i+1:Nat):Int):=aJ (by omega);by_cases hil:i<m.ps.length
 ·have hy:m.ps[i]? =some m.ps[i]:=aac hil;have hyl:=hpl _ (acH hil);generalize m.ps[i]=p at hy hyl
  have nx:∀{P:Prop},¬P→(Ps o.level o.az o.snap p=true→P)→∀(j:Nat) p',j<i+1→m.ps[j]? =some p'→Ps o.level o.az o.snap p'=false:=fun hn hP j p' hj hp'=>by
   by_cases q:j=i
   ·subst q;rw[hy]at hp';cases hp';exact Bool.eq_false_iff.2 fun r=>hn (hP r)
   ·exact hinv j p' (by omega) hp'
  refine @aa _ (bz @nb @hmd @hP @hL @hH @hD @x1 (And.intro @x2 (And.intro @x3 (And.intro @hy @e1))) ?_);refine⟨fun _=>⟨fun hs=>⟨hil,hil,fun p1=>⟨hil,hil,fun p2=>⟨hil,hil,fun p3=>⟨hil,hil,by omega,fun a ha=>?_⟩,fun p3=>⟨hil,nx p3 fun r=>(of_decide_eq_true r).2.2⟩⟩,fun p2=>⟨hil,nx p2 fun r=>(of_decide_eq_true r).2.1⟩⟩,fun p1=>⟨hil,nx p1 fun r=>(of_decide_eq_true r).1⟩⟩,fun hs=>fin (if_neg hs)⟩,fun h=>absurd hil h⟩;rw[if_pos (show o.snap≠0 from hs),Aw hy (decide_eq_true ⟨p1,p2,p3⟩) hinv]at hse;simp only at hse;rw[hse,bJ ha];exact .refl _
 ·have hilF:(i<m.ps.length)=False:=eq_false hil;have hie:i=m.ps.length:=by omega
  refine @aa _ (bz @nb @hmd @hP @hL @hH @hD @x1 (And.intro @x2 (And.intro @x3 (And.intro @e1 @hilF))) ?_);refine fin ?_;split
  ·exact Lo fun j b hj=>hinv j b (by have:=(aad.1 hj).1;omega) hj
  ·rfl
theorem rB{c:Cf}{o:aV}{i:Nat}(h:gM c.up (i:Int) o.level=true):kp c o (i+1)=kp c o i++[i]:=by
 unfold kp;rw[adm,acK];simp[h]
theorem sf{c:Cf}{o:aV}{i:Nat}(h:gM c.up (i:Int) o.level=false):kp c o (i+1)=kp c o i:=by
 unfold kp;rw[adm,acK];simp[h]
theorem GJ(c:Cf)(o:aV)(i:Nat):(kp c o i).length≤i:=by
 unfold kp;exact ack (acz _ _) (by rw[List.length_range];exact aar _)
theorem vN(c:Cf)(m:fU)(o:aV)(i:Nat):(fe c m o i).length≤i:=by
 unfold fe;rw[abI];exact GJ c o i
theorem Ft{o:aV}{x:Int}{l:List En}{j:Nat}{e:En}(h:l[j]? =some e):jX o x (l.take (j+1))=jX o x (l.take j)++if Ek o e=true then [⟨e.k,x,e.v⟩]else []:=by
 unfold jX;rw[kz h,aaZ];congr 1;split <;>simp_all
theorem Gq{o:aV}{x:Int}{l:List En}{j:Nat}{e:En}(h:l[j]? =some e):jN o x (l.take (j+1))=jN o x (l.take j)++if E1 o e=true then [⟨o.key,x,e.v⟩]else []:=by
 unfold jN;rw[kz h,aaZ];congr 1;split <;>simp_all
theorem yL(o:aV)(x:Int)(l:List En):(jX o x l).length≤l.length:=by
 unfold jX;rw[abI];exact acz _ _
theorem Al(o:aV)(x:Int)(l:List En):(jN o x l).length≤l.length:=by
 unfold jN;rw[abI];exact acz _ _
theorem GS{c:Cf}{m:fU}{o:aV}{n:Nat}(hz:∀x,x<n→(ed m o x).length≤10000):∀i,i≤n→(dZ c m o i).length≤i*10000:=by
 intro i
 induction i with
 |zero=>intro _;exact aar _
 |succ i ih=>
  intro hi;have h1:=ih (by omega);have h2:=hz i (by omega);have h3:=Al o i (ed m o i)
  cases hle:gM c.up (i:Int) o.level with
  |false=>
   have:dZ c m o (i+1)=dZ c m o i:=by unfold dZ;rw[sf hle]
   rw[this];omega
  |true=>
   have:dZ c m o (i+1)=dZ c m o i++jN o i (ed m o i):=by unfold dZ;rw[rB hle,List.flatMap_append];simp
   rw[this,aaK];omega
theorem Hf(w0:W0){S:St}{h:RG}{c:Cf}{m:fU}(k:jf S h c m)(o:aV)(hps:m.ps.length≤1048576)(hpl:∀p,p∈m.ps→p.l.length=m.l.length)(hn:m.l.length≤64)(hr:m.r.length≤1000000)(hl:(lL m.r o.level o.az).length≤1000000)(hz:∀x,x<m.l.length→(ed m o x).length≤10000):
 ab Tryz.prog w0 44 [bC h.m,uB o] S (fun d S'=>d=uM (sB c m o)∧S'=S):=by
 have hmd:=k.md;have hL:=k.L;have hup:=k.up;have hm8:maxLen=9223372036854775807:=rfl;have hmd':=hmd;unfold pE at hmd';refine bI [1,11,21] mx Tryz.func44 rfl rfl (by kernel_rfl) ?_;refine @aa _ (ah @Tryz.ntmps44 ?_);intro b b4;have n1:=an b4 b.n (by exact @aa _ bY);have nb:=an b h.m (by rw[hmd];rfl);have nb4:=an b4 h.m (by exact @aa _ (di @nb @hmd));generalize hR:sB c m o=R;unfold sB at hR;obtain⟨T,hT⟩:∃T:St,T=⟨(b4.n,[dI 0,dI 0,.sl 0 true [],dI 0,dI 0,dI 0,dI 0,.sl 0 true []])::(b.n,o.ds)::S.box,S.acc⟩:=⟨_,rfl⟩;have hST:Has S T:=by rw[hT];exact⟨fun i x q=>ai (ao b4) (ai (ao b) q),fun _ _ q=>q⟩
 have kT:=k.has hST;obtain⟨bn,hbn⟩:∃bn:Bool,bn=decide (o.snap≠0∧o.snap∉lL m.r o.level o.az):=⟨_,rfl⟩;refine oN (σ:=Unit) [] [0,3,4,20] (fun _=>[(20,dB bn)]) (fun _=>T) (fun _=>True) mx (by kernel_rfl) ?_ ?_
 ·by_cases h0:o.snap=0
  ·have e0:(o.snap=0)=True:=eq_true h0;rw[decide_eq_false (fun q=>q.1 h0)]at hbn;subst hbn;refine @aa _ (eQ @n1 @nb @nb4 @hmd' @e0 ?_);exact⟨(),by rw[hT];exact .refl _⟩
  ·have e0:(o.snap=0)=False:=eq_false h0;subst hT;refine @aa _ (eQ @n1 @nb @nb4 @hmd' @e0 ?_);refine aq (VF w0 o kT.md hr hl) ?_;by_cases hm:o.snap∈lL m.r o.level o.az
   ·rw[decide_eq_true hm];rw[decide_eq_false (fun q=>q.2 hm)]at hbn;subst hbn;refine @aa _ (av ?_);exact⟨(),trivial⟩
   ·rw[decide_eq_false hm];rw[decide_eq_true ⟨h0,hm⟩]at hbn;subst hbn;refine @aa _ (av ?_);exact⟨(),trivial⟩
 rintro _ _;by_cases hns:o.snap≠0∧o.snap∉lL m.r o.level o.az
 ·rw[decide_eq_true hns]at hbn;rw[if_pos hns]at hR;subst hbn hT;refine @aa _ (av ?_);refine aq (fq _ 39 _) ?_;rw[hR];exact @aa _ (ft @n1)
 rw[decide_eq_false hns]at hbn;rw[if_neg hns]at hR;subst hbn hT;refine @aa _ (av ?_);refine jr 6 1 rfl (by omega) fun lr=>?_;refine jr 7 3 rfl (by omega) fun la=>?_;have nlr:=ao lr;have nla:=ao la;have n2:=an la lr.n (by exact @aa _ bY);have nL:(lr.n=h.L)=False:=an lr h.L (by rw[hL];rfl);have nL2:(la.n=h.L)=False:=an la h.L (by exact @aa _ (di @nL @hL));have hbig:=GS (c:=c) (m:=m) (o:=o) hz
 have hfl:(j0 (fe c m o m.l.length)).length≤640000:=by
  have q1:=mQ (rows:=fe c m o m.l.length) (n:=10000) fun r hr=>by
   unfold fe at hr;obtain⟨x,hx,rfl⟩:=aaT.1 hr;have hx:x∈(List.range m.l.length).filter _:=hx;exact ack (yL _ _ _) (hz x (ace.1 (abO.1 hx).1))
  have q2:=vN c m o m.l.length;have q3:(fe c m o m.l.length).length*10000≤64*10000:=ab9 _ (by omega);omega
 have base:∀X Y:Ob,Has S ⟨(b4.n,[dI 0,dI 0,.sl 0 true [],dI 0,dI 0,dI 0,dI 0,.sl 0 true []])::(b.n,o.ds)::S.box,(la.n,X)::(lr.n,Y)::S.acc⟩:=fun X Y=>⟨fun i x q=>ai (ao b4) (ai (ao b) q),fun i x q=>by
  have z1:¬la.n=i:=fun e=>by
   have:=nla;simp only[lk]at this;rw[if_neg (fun e=>by rw[←n2];exact e.symm),e,q]at this;cases this
  have z2:¬lr.n=i:=fun e=>by rw[e,q]at nlr;cases nlr
  simp only[lk];rw[if_neg z1,if_neg z2];exact q⟩
 refine aQ [11,21] m.l.length [0,3,4,5,6,7,8] (fun i=>[(5,dB (j9 c m o i)),(6,.acc lr.n (fe c m o i).length),(7,.acc la.n (dZ c m o i).length),(8,dI i)]) (fun i=>⟨(b4.n,[dI 0,dI 0,.sl 0 true [],dI 0,dI 0,dI 0,dI 0,.sl 0 true []])::(b.n,o.ds)::S.box,(la.n,.arr 3 ((dZ c m o i).map oR))::(lr.n,.arr 1 ((fe c m o i).map dD))::S.acc⟩) (fun _=>True) mx (by kernel_rfl) ?_ ?_
 ·refine @aa _ (ah @n2 ?_);exact⟨⟨rfl,.refl _,.refl _⟩,.refl _⟩
 intro i hi _;have e1:IntKind.i64.wrap ((i:Int)+1)=((i+1:Nat):Int):=aJ (by omega);have hrl:=vN c m o i;have hal:=hbig i hi;by_cases hil:i<m.l.length
 ·refine @aa _ (jL @n1 @nb @nb4 @hmd' @n2 @e1 ?_);refine⟨fun _=>?_,fun h=>absurd hil h⟩;refine aR (qb w0 c.up hup (i:Int) o.level _) ?_
  cases hle:gM c.up (i:Int) o.level with
  |false=>
   have r1:fe c m o (i+1)=fe c m o i:=by unfold fe;rw[sf hle]
   have r2:j9 c m o (i+1)=j9 c m o i:=by unfold j9;rw[sf hle]
   have r3:dZ c m o (i+1)=dZ c m o i:=by unfold dZ;rw[sf hle]
   refine @aa _ (ah @e1 ?_);rw[r1,r2,r3];exact⟨hil,⟨rfl,.refl _,.refl _⟩,.refl _⟩
  |true=>
   have hzi:=hz i hil;have r1:fe c m o (i+1)=fe c m o i++[jX o i (ed m o i)]:=by unfold fe;rw[rB hle,aaZ];rfl
   have r2:j9 c m o (i+1)=(j9 c m o i||decide (0≤aP (ed m o i) o.bucket [])):=by unfold j9;rw[rB hle,List.any_append];simp
   have r3:dZ c m o (i+1)=dZ c m o i++jN o i (ed m o i):=by unfold dZ;rw[rB hle,List.flatMap_append];simp
   refine @aa _ (eQ @n1 @nb @nb4 @hmd' @n2 ?_);refine aq (Rv w0 (k.has (base _ _)) o hil hps hpl (by omega)) ?_;generalize ed m o i=l at hzi r1 r2 r3;refine @aa _ (av ?_);refine oN (σ:=Unit) [] [0,3,4,5,6,7,8,9] (fun _=>[(5,dB (j9 c m o (i+1)))]) (fun _=>⟨(b4.n,[dI 0,dI 0,.sl 0 true [],dI 0,dI 0,dI 0,dI 0,.sl 0 true []])::(b.n,o.ds)::S.box,(la.n,.arr 3 ((dZ c m o i).map oR))::(lr.n,.arr 1 ((fe c m o i).map dD))::S.acc⟩) (fun _=>True) mx (by kernel_rfl) ?_ ?_
   ·rw[r2]
    cases hso:j9 c m o i with
    |true=>
     refine @aa _ (av ?_);exact⟨(),trivial⟩
    |false=>
     refine @aa _ (aZ @n1 @nb @nb4 @n2 ?_);refine aq (gI w0 l o.bucket [] (by omega) _) (@aa _ (av ?_));exact⟨(),trivial⟩
   rintro _ _;refine @aa _ (av ?_);refine jr 10 3 rfl (by omega) fun lo=>?_;have n3:=an lo la.n (by exact @aa _ bY);have n4:=an lo lr.n (by exact @aa _ (ft @n2));refine aQ [21] l.length [0,3,4,5,6,7,8,9,10,11] (fun j=>[(7,.acc la.n (dZ c m o i++jN o i (l.take j)).length),(10,.acc lo.n (jX o i (l.take j)).length),(11,dI j)]) (fun j=>⟨(b4.n,[dI 0,dI 0,.sl 0 true [],dI 0,dI 0,dI 0,dI 0,.sl 0 true []])::(b.n,o.ds)::S.box,(lo.n,.arr 3 ((jX o i (l.take j)).map oR))::(la.n,.arr 3 ((dZ c m o i++jN o i (l.take j)).map oR))::(lr.n,.arr 1 ((fe c m o i).map dD))::S.acc⟩) (fun _=>True) mx (by kernel_rfl) ?_ ?_
   ·refine @aa _ (cL @n2 @n3 @n4 ?_);rw[show jN o (i:Int) []=[]from rfl,show jX o (i:Int) []=[]from rfl,aco];exact⟨⟨.refl _,.refl _⟩,.refl _⟩
   intro j hj _;have hjo:=yL o i (l.take j);have hja:=Al o i (l.take j);rw[ab2]at hjo hja;by_cases hjl:j<l.length
   ·have e2:IntKind.i64.wrap ((j:Int)+1)=((j+1:Nat):Int):=aJ (by omega);have hy:l[j]? =some l[j]:=aac hjl;have ko:=Ft (o:=o) (x:=(i:Int)) hy;have ka:=Gq (o:=o) (x:=(i:Int)) hy;generalize l[j]=e at hy ko ka;have q1:(tx e.b=tx o.bucket)=(e.b=o.bucket):=propext rm;have q2:(tx e.k=tx o.key)=(e.k=o.key):=propext rm;have q3:xx (tx e.k) (tx o.key)=decide (e.k<o.key):=Cq _ _;have kat:E1 o e=true→jN o i (l.take (j+1))=jN o i (l.take j)++[⟨o.key,i,e.v⟩]:=fun h=>by rw[ka,if_pos h]
    have kaf:E1 o e=false→jN o i (l.take (j+1))=jN o i (l.take j):=fun h=>by rw[ka,if_neg (by rw[h];simp),aco]
    have kot:Ek o e=true→jX o i (l.take (j+1))=jX o i (l.take j)++[⟨e.k,i,e.v⟩]:=fun h=>by rw[ko,if_pos h]
    have kof:Ek o e=false→jX o i (l.take (j+1))=jX o i (l.take j):=fun h=>by rw[ko,if_neg (by rw[h];simp),aco]
    clear ko ka;generalize jN o i (l.take (j+1))=A' at kat kaf;generalize jN o i (l.take j)=A at kat kaf hja;generalize jX o i (l.take (j+1))=O' at kot kof;generalize jX o i (l.take j)=O at kot kof hjo;refine @aa _ (bz @hy @e2 @n1 @nb @nb4 @n2 @n3 (And.intro @n4 (And.intro @q1 @q2)) ?_);refine⟨fun _=>⟨hjl,fun hb=>?_,fun hb=>⟨hjl,fun hk=>?_,fun hk=>⟨hjl,fun hq=>⟨hjl,by omega,by omega,hjl,fun hlt=>?_,fun hlt=>?_⟩,fun hq=>⟨hjl,fun hlt=>?_,fun hlt=>?_⟩⟩⟩⟩,fun h=>absurd hjl h⟩
    ·rw[kaf (decide_eq_false fun q=>hb q.1),kof (decide_eq_false fun q=>hb q.1)];exact⟨hjl,⟨.refl _,.refl _⟩,.refl _⟩
    ·rw[kaf (decide_eq_false fun q=>q.2.1 hk),kof (decide_eq_false fun q=>q.2.1 hk)];exact⟨hjl,⟨.refl _,.refl _⟩,.refl _⟩
    ·have hb:=abe.1 hb;rw[q3,decide_eq_true_eq]at hlt;rw[kat (decide_eq_true ⟨hb,hk,hq⟩),kof (decide_eq_false fun q=>q.2.2 hlt),←acu,aaZ (l₂:=[_])];exact⟨hjl,⟨lx (by simp[acw]),.refl _⟩,.refl _⟩
    ·have hb:=abe.1 hb;rw[q3,decide_eq_false_iff_not]at hlt;rw[kat (decide_eq_true ⟨hb,hk,hq⟩),kot (decide_eq_true ⟨hb,hk,hlt⟩),←acu,aaZ (l₂:=[_]),aaZ (l₁:=dZ c m o i++A)];exact⟨hjl,hjl,by omega,by omega,hjl,⟨lx (by simp[acw]),lx (by simp)⟩,.refl _⟩
    ·have hb:=abe.1 hb;rw[q3,decide_eq_true_eq]at hlt;rw[kaf (decide_eq_false fun q=>hq q.2.2),kof (decide_eq_false fun q=>q.2.2 hlt)];exact⟨hjl,⟨.refl _,.refl _⟩,.refl _⟩
    ·have hb:=abe.1 hb;rw[q3,decide_eq_false_iff_not]at hlt;rw[kaf (decide_eq_false fun q=>hq q.2.2),kot (decide_eq_true ⟨hb,hk,hlt⟩),aaZ (l₁:=O)];exact⟨hjl,hjl,by omega,by omega,hjl,⟨.refl _,lx (by simp)⟩,.refl _⟩
   ·have hjF:(j<l.length)=False:=eq_false hjl;rw[abf (l:=l) (by omega)];refine @aa _ (aZ @n2 @n3 @n4 @hjF ?_);refine HX [] [10] mx (by kernel_rfl) ?_;refine @aa _ (aZ @n2 @n3 @n4 @e1 ?_);rw[r1,r3,aaZ (f:=dD)];exact⟨by omega,by omega,hil,⟨lx (by simp),lx (by simp)⟩,.nq (.refl _)⟩
 ·have hie:i=m.l.length:=by omega
  subst hie;have hilF:(m.l.length<m.l.length)=False:=eq_false hil
  cases hso:j9 c m o m.l.length with
  |false=>
   rw[if_pos hso]at hR;refine @aa _ (jL @n1 @nb @nb4 @hmd' @n2 @hilF ?_);refine aq (fq _ 32 _) ?_;rw[hR];exact @aa _ (ft @n1)
  |true=>
   rw[if_neg (by rw[hso];simp)]at hR;by_cases No:o.kind=10
   ·have e10:(o.kind=10)=True:=eq_true No;rw[if_pos No]at hR;refine @aa _ (kH @n1 @nb @nb4 @hmd' @n2 @hilF @e10 ?_);refine aq (WT _ o.n _) (@aa _ (av ?_));refine .inr (aq (NX w0 (fe c m o m.l.length) (nC o.n) (by omega) (by omega) _) ?_);rw[←hR];exact @aa _ (ft @n1)
   ·have e10:(o.kind=10)=False:=eq_false No;rw[if_neg No]at hR;refine @aa _ (kH @n1 @nb @nb4 @hmd' @n2 @hilF @e10 ?_);refine⟨fun h0=>?_,fun h0=>?_⟩
    ·rw[if_pos (aa0 (by omega))]at hR;refine aq (fq _ 33 _) ?_;rw[hR];exact @aa _ (ft @n1)
    ·rw[if_neg (fun q=>h0 (by rw[q];rfl))]at hR;rw[←hR];exact .agg ⟨.refl _,.refl _,.refl _,.refl _,.refl _,.refl _,.refl _,.nil _ _ _,trivial⟩
end Go.Proofs.YtoepfmhnapedoaaGreatDoor
namespace Aml
open Go Go.RowKit
theorem Rel.JB{w0:W0}{g:Gh}{S:St}{w:World}(h:Rel w0 g S w){l s:Nat}{xs ys:List DV}(hl:lk S.acc l=some (.arr s xs))(hw:ej xs ys):Rel w0 g ⟨S.box,up S.acc l (.arr s ys)⟩ w:=by
 have hlen:=hw.length;refine⟨h.below,h.aY,h.nb,by rw[mv];exact h.na,h.eU,h.fresh,?_,?_⟩
 ·intro l' o hm k hk;rcases fy h.na hm with he|⟨hm,_⟩
  ·cases he;exact h.top l (.arr s xs) (bV hl) k (by show xs.length<k;rw[hlen];exact hk)
  ·exact h.top l' o hm k hk
 ·obtain⟨ow,o1,o2⟩:=h.own;refine⟨ow,o1,fun l' o hm=>?_⟩;rcases fy h.na hm with he|⟨hm,_⟩
  ·cases he;obtain⟨hs,q|⟨b,c,cs,e,q1,q2,q3,q4,q5,q6,q7,q8,q9,us,q10,q11⟩⟩:=o2 _ _ (bV hl)
   ·refine⟨hs,.inl ⟨?_,q.2⟩⟩;rw[q.1]at hlen;exact aa0 hlen.symm
   ·rw[hlen]at q1 q7;exact⟨hs,.inr ⟨b,c,cs,e,q1,q2,q3,q4,q5,q6,q7,q8,q9,us,hw.spec q10,q11⟩⟩
  ·exact o2 _ _ hm
theorem D3{P:Program}{w0:W0}{f:FuncId}{args:List DV}{S:St}{K K':DV→St→Prop}(h:ab P w0 f args S K')(hk:∀d S',K' d S'→∀g w u,Rel w0 g S' w→aG g d u→∃g' d' S'',g.le g'∧Rel w0 g' S'' w∧aG g' d' u∧K d' S''):ab P w0 f args S K:=by
 intro g vs w h1 h2;refine(h g vs w h1 h2).mono ?_;intro e w' k;refine k.imp (.refl _) ?_;rintro r g' d S' q2 q3 q4 q5;obtain⟨g2,d',S2,k1,k2,k3,k4⟩:=hk d S' q5 g' w' r q3 q4;exact⟨g2,d',S2,q2.trans k1,k2,k3,k4⟩
theorem Rel.Pr{w0:W0}{g:Gh}{S:St}{w:World}(h1:Rel w0 g S w)(b j s:Nat)(hs:0<s){ds:List DV}{s0:Nat}(hb:lk S.box b=some ds)(hi:ds[j]? =some (.sl s0 true [])):∃(l:FN S.acc) (g':Gh),g.le g'∧Rel w0 g' ⟨up S.box b (ds.set j (.acc l.n 0)),(l.n,.arr s [])::S.acc⟩ w:=by
 obtain⟨ow,o1,o2⟩:=h1.own;obtain⟨q1,q2,q3,us,e,q4,q5,q6⟩:=o1 _ _ (bV hb);have hlt:j<us.toList.length:=by rw[←q5.len];exact(aad.1 hi).1
 have hr:=q5.at_ j _ _ hi (aac hlt);have hr':aG g (.sl s true []) us.toList[j]:=by obtain⟨o',ho'⟩:=cO hr;rw[ho'];exact .nil _ _ _ _ fun _=>rfl
 obtain⟨l,g',hle,hne,hR,hA⟩:=h1.pV hs hr' (.arr s []) (.inr ⟨rfl,rfl⟩);refine⟨⟨l,cG hne⟩,g',hle,hR.Am (ds':=ds.set j (.acc l 0)) (b:=b) hb ?_⟩;intro us' e' hh hr2;rw[hh]at q4;cases q4;exact gF hr2 (aac hlt) hA
end Aml
namespace Go.Proofs.YtoepfmhnapedoaaGreatDoor
open Aml Go Rn Lat Grs
structure qQ(S S':St)(h h':RG):Prop where
 m:h'.m=h.m
 box:∀i v,i≠h.m→lk S.box i=some v→lk S'.box i=some v
 acc:∀i v,i∉h.ax→lk S.acc i=some v→lk S'.acc i=some v
 na:∀i,i∈h'.ax→i∈h.ax∨lk S.acc i=none
theorem qQ.refl(S:St)(h:RG):qQ S S h h:=⟨rfl,fun _ _ _ q=>q,fun _ _ _ q=>q,fun _ q=> .inl q⟩
theorem qQ.trans{S T U:St}{h h1 h2:RG}(a:qQ S T h h1)(b:qQ T U h1 h2):qQ S U h h2:=by
 have ka:∀i v,i∉h.ax→lk S.acc i=some v→i∉h1.ax:=fun i v q1 q2 q3=>by
  rcases a.na i q3 with q|q
  ·exact q1 q
  ·rw[q2]at q;cases q
 refine⟨b.m.trans a.m,fun i v q1 q2=>b.box i v (by rw[a.m];exact q1) (a.box i v q1 q2),fun i v q1 q2=>b.acc i v (ka i v q1 q2) (a.acc i v q1 q2),fun i q=>?_⟩;rcases b.na i q with r|r
 ·exact a.na i r
 ·refine(ac3 (i∈h.ax)).imp id fun q1=>?_
  cases hx:lk S.acc i with
  |none=>rfl
  |some v=>rw[a.acc i v q1 hx]at r;cases r
theorem qQ.has{S T:St}{h:RG}(k:Has S T):qQ S T h h:=⟨rfl,fun i v _ q=>k.box i v q,fun i v _ q=>k.acc i v q,fun _ q=> .inl q⟩
section
variable {S:St} {h:RG} {c:Cf} {m:fU}
theorem jf.ne(k:jf S h c m):(h.L≠h.A∧h.L≠h.H∧h.L≠h.D∧h.L≠h.P)∧(h.A≠h.H∧h.A≠h.D∧h.A≠h.P)∧(h.H≠h.D∧h.H≠h.P)∧h.D≠h.P:=by
 have:=k.nd;unfold RG.ax at this;simp only[aaV,aaJ,aca,or_false,not_or,not_false_eq_true,acT,and_true]at this;exact this
theorem wJ{v:Nat}{o:Ob}(hv:v∈h.ax):qQ S ⟨S.box,Aml.up S.acc v o⟩ h h:=⟨rfl,fun _ _ _ q=>q,fun i w q1 q2=>by show lk (Aml.up _ _ _) i=_;rw[ae (fun e=>q1 (by rw[←e];exact hv))];exact q2,fun _ q=> .inl q⟩
theorem jf.qs(k:jf S h c m)(x:Nat)(e:List En):jf ⟨S.box,Aml.up S.acc h.L (.arr 1 ((m.l.set x e).map dQ))⟩ h c {m with l:=m.l.set x e}∧qQ S ⟨S.box,Aml.up S.acc h.L (.arr 1 ((m.l.set x e).map dQ))⟩ h h:=by
 obtain⟨⟨a1,a2,a3,a4⟩,⟨b1,b2,b3⟩,⟨c1,c2⟩,d1⟩:=k.ne;have key:∀i v,i≠h.L→lk S.acc i=some v→lk (Aml.up S.acc h.L (.arr 1 ((m.l.set x e).map dQ))) i=some v:=fun i v q1 q2=>by rw[ae (abx q1)];exact q2
 refine⟨⟨?_,bd k.L,key _ _ (abx a1) k.A,key _ _ (abx a2) k.H,key _ _ (abx a3) k.D,key _ _ (abx a4) k.P,k.nd,?_,?_,?_,k.up⟩,wJ (by simp[RG.ax])⟩
 ·show lk S.box h.m=some (pE c h.L h.A h.H h.D (m.l.set x e).length _ _);rw[acZ];exact k.md
 ·show _=(m.l.set x e).length;rw[acZ];exact k.la
 ·show _=(m.l.set x e).length;rw[acZ];exact k.lh
 ·show _=(m.l.set x e).length;rw[acZ];exact k.ld
theorem jf.YU(k:jf S h c m)(x:Nat)(e:List Cs):jf ⟨S.box,Aml.up S.acc h.A (.arr 1 ((m.au.set x e).map sP))⟩ h c {m with au:=m.au.set x e}∧qQ S ⟨S.box,Aml.up S.acc h.A (.arr 1 ((m.au.set x e).map sP))⟩ h h:=by
 obtain⟨⟨a1,a2,a3,a4⟩,⟨b1,b2,b3⟩,⟨c1,c2⟩,d1⟩:=k.ne;have key:∀i v,i≠h.A→lk S.acc i=some v→lk (Aml.up S.acc h.A (.arr 1 ((m.au.set x e).map sP))) i=some v:=fun i v q1 q2=>by rw[ae (abx q1)];exact q2
 refine⟨⟨k.md,key _ _ a1 k.L,bd k.A,key _ _ (abx b1) k.H,key _ _ (abx b2) k.D,key _ _ (abx b3) k.P,k.nd,?_,k.lh,k.ld,k.up⟩,wJ (by simp[RG.ax])⟩;show(m.au.set x e).length=_;rw[acZ];exact k.la
theorem jf.MU(k:jf S h c m)(x:Nat)(e:Int):jf ⟨S.box,Aml.up S.acc h.H (.arr 1 ((m.hs.set x e).map dI))⟩ h c {m with hs:=m.hs.set x e}∧qQ S ⟨S.box,Aml.up S.acc h.H (.arr 1 ((m.hs.set x e).map dI))⟩ h h:=by
 obtain⟨⟨a1,a2,a3,a4⟩,⟨b1,b2,b3⟩,⟨c1,c2⟩,d1⟩:=k.ne;have key:∀i v,i≠h.H→lk S.acc i=some v→lk (Aml.up S.acc h.H (.arr 1 ((m.hs.set x e).map dI))) i=some v:=fun i v q1 q2=>by rw[ae (abx q1)];exact q2
 refine⟨⟨k.md,key _ _ a2 k.L,key _ _ b1 k.A,bd k.H,key _ _ (abx c1) k.D,key _ _ (abx c2) k.P,k.nd,k.la,?_,k.ld,k.up⟩,wJ (by simp[RG.ax])⟩;show(m.hs.set x e).length=_;rw[acZ];exact k.lh
theorem jf.Ku(k:jf S h c m)(x:Nat)(e:List En):jf ⟨S.box,Aml.up S.acc h.D (.arr 1 ((m.ds.set x e).map dQ))⟩ h c {m with ds:=m.ds.set x e}∧qQ S ⟨S.box,Aml.up S.acc h.D (.arr 1 ((m.ds.set x e).map dQ))⟩ h h:=by
 obtain⟨⟨a1,a2,a3,a4⟩,⟨b1,b2,b3⟩,⟨c1,c2⟩,d1⟩:=k.ne;have key:∀i v,i≠h.D→lk S.acc i=some v→lk (Aml.up S.acc h.D (.arr 1 ((m.ds.set x e).map dQ))) i=some v:=fun i v q1 q2=>by rw[ae (abx q1)];exact q2
 refine⟨⟨k.md,key _ _ a3 k.L,key _ _ b2 k.A,key _ _ c1 k.H,bd k.D,key _ _ (abx d1) k.P,k.nd,k.la,k.lh,?_,k.up⟩,wJ (by simp[RG.ax])⟩;show(m.ds.set x e).length=_;rw[acZ];exact k.ld
theorem SD{v:List DV}:qQ S ⟨Aml.up S.box h.m v,S.acc⟩ h h:=⟨rfl,fun i w q1 q2=>by show lk (Aml.up _ _ _) i=_;rw[ae (abx q1)];exact q2,fun _ _ _ q=>q,fun _ q=> .inl q⟩
theorem jf.ML(k:jf S h c m)(r:List RH):jf ⟨Aml.up S.box h.m (pE c h.L h.A h.H h.D m.l.length (.sl 5 false (r.map wY)) (.acc h.P m.ps.length)),S.acc⟩ h c {m with r:=r}∧qQ S ⟨Aml.up S.box h.m (pE c h.L h.A h.H h.D m.l.length (.sl 5 false (r.map wY)) (.acc h.P m.ps.length)),S.acc⟩ h h:=
 ⟨⟨bd k.md,k.L,k.A,k.H,k.D,k.P,k.nd,k.la,k.lh,k.ld,k.up⟩,SD⟩
theorem jf.YX(k:jf S h c m)(p:Vg):jf ⟨Aml.up S.box h.m (pE c h.L h.A h.H h.D m.l.length (.sl 5 false (m.r.map wY)) (.acc h.P (m.ps.length+1))),Aml.up S.acc h.P (.arr 4 ((m.ps++[p]).map XB))⟩ h c {m with ps:=m.ps++[p]}∧qQ S ⟨Aml.up S.box h.m (pE c h.L h.A h.H h.D m.l.length (.sl 5 false (m.r.map wY)) (.acc h.P (m.ps.length+1))),Aml.up S.acc h.P (.arr 4 ((m.ps++[p]).map XB))⟩ h h:=by
 obtain⟨⟨a1,a2,a3,a4⟩,⟨b1,b2,b3⟩,⟨c1,c2⟩,d1⟩:=k.ne;have key:∀i v,i≠h.P→lk S.acc i=some v→lk (Aml.up S.acc h.P (.arr 4 ((m.ps++[p]).map XB))) i=some v:=fun i v q1 q2=>by rw[ae (abx q1)];exact q2
 refine⟨⟨?_,key _ _ a4 k.L,key _ _ b3 k.A,key _ _ c2 k.H,key _ _ d1 k.D,bd k.P,k.nd,k.la,k.lh,k.ld,k.up⟩,⟨rfl,fun i w q1 q2=>?_,fun i w q1 q2=>key i w (fun e=>q1 (by rw[e];simp[RG.ax])) q2,fun _ q=> .inl q⟩⟩
 ·show lk (Aml.up _ _ _) _=some (pE c h.L h.A h.H h.D m.l.length _ (.acc h.P (m.ps++[p]).length));rw[aaK,acQ];exact bd k.md
 ·show lk (Aml.up _ _ _) i=_;rw[ae (abx q1)];exact q2
def Mh(S:St)(h:RG)(c:Cf)(q:pr×fU):DV→St→Prop:=fun d S'=>d=uM q.1∧∃h',jf S' h' c q.2∧qQ S S' h h'
end
end Go.Proofs.YtoepfmhnapedoaaGreatDoor
namespace Go.Proofs.YtoepfmhnapedoaaGreatDoor
open Aml Go Rn Lat Grs
theorem rO(e n:Int):Wk (.agg [dI e,dI n,.sl 0 true [],dI 0,dI 0,dI 0,dI 0,.sl 0 true []]) (uM ⟨e,n,[],[]⟩):= .agg ⟨.refl _,.refl _,.nil _ _ _,.refl _,.refl _,.refl _,.refl _,.nil _ _ _,trivial⟩
theorem pU{S S1:St}{h h':RG}{c:Cf}{m':fU}{e n:Int}{q:pr×fU}{A B:Nat×List DV}(hq:(⟨e,n,[],[]⟩,m')=q)(k:jf S1 h' c m')(f:qQ S S1 h h'):∃d' S'',Wk (.agg [dI e,dI n,.sl 0 true [],dI 0,dI 0,dI 0,dI 0,.sl 0 true []]) d'∧Aml.Sub S'' ⟨A::B::S1.box,S1.acc⟩∧Mh S h c q d' S'':=
 ⟨_,S1,rO e n,.aN (.aN (.refl _)),by rw[←hq],h',by rw[←hq];exact k,f⟩
theorem gS{S S1:St}{h h':RG}{c:Cf}{m':fU}{e:Int}{q:pr×fU}{A B:Nat×List DV}(hq:(dP e,m')=q)(k:jf S1 h' c m')(f:qQ S S1 h h'):∃d' S'',Wk (uM (dP e)) d'∧Aml.Sub S'' ⟨A::B::S1.box,S1.acc⟩∧Mh S h c q d' S'':=
 ⟨_,S1,.refl _,.aN (.aN (.refl _)),by rw[←hq],h',by rw[←hq];exact k,f⟩
theorem Xk(w0:W0){S:St}{h:RG}{c:Cf}{m:fU}(k:jf S h c m)(o:aV)(h0:0≤o.level)(h1:o.level<m.l.length)(hr:m.r.length≤1000000):ab Tryz.prog w0 49 [bC h.m,uB o] S (Mh S h c (Bz m o)):=by
 have hmd:=k.md;have hL:=k.L;have hH:=k.H;have hD:=k.D;have hlh:=k.lh;have hld:=k.ld;have hlt:=h1;obtain⟨⟨a1,a2,a3,a4⟩,⟨b1,b2,b3⟩,⟨c1,c2⟩,d1⟩:=k.ne;have aHL:(h.H=h.L)=False:=eq_false (abx a2);have aDL:(h.D=h.L)=False:=eq_false (abx a3);have aLD:(h.L=h.D)=False:=eq_false a3;have aHD:(h.H=h.D)=False:=eq_false c1;have aLH:(h.L=h.H)=False:=eq_false a2;have aDH:(h.D=h.H)=False:=eq_false (abx c1);unfold pE at hmd;have x1:m.l[o.level.toNat]? =some (m.l[o.level.toNat]'(by omega)):=aac _;have x2:m.hs[o.level.toNat]? =some (m.hs[o.level.toNat]'(by omega)):=aac _;have x3:m.ds[o.level.toNat]? =some (m.ds[o.level.toNat]'(by omega)):=aac _;generalize m.l[o.level.toNat]'_=e at x1;generalize m.hs[o.level.toNat]'_=hh at x2;generalize m.ds[o.level.toNat]'_=d at x3;have eH:∀a,(m.hs.map dI).set o.level.toNat (DV.v (Value.int IntKind.i64 a))=(m.hs.set o.level.toNat a).map dI:=fun a=>adv.symm;have eL:∀x:List En,(m.l.map dQ).set o.level.toNat (DV.sl 3 false (x.map xS))=(m.l.set o.level.toNat x).map dQ:=fun a=>adv.symm;have eD:∀x:List En,(m.ds.map dQ).set o.level.toNat (DV.sl 3 false (x.map xS))=(m.ds.set o.level.toNat x).map dQ:=fun a=>adv.symm;have t1:(0≤o.level)=True:=eq_true h0;have t2:(o.level<(m.l.length:Int))=True:=eq_true h1;have t3:(o.level.toNat<m.l.length)=True:=eq_true (by omega);generalize hq:Bz m o=q;unfold Bz at hq;simp only[bJ x1,bJ x2,bJ x3]at hq;refine mh [] mx Tryz.func49 rfl rfl (by kernel_rfl) ?_;refine @aa _ (ah @Tryz.ntmps49 ?_);intro b b4;have n1:=an b4 b.n (by exact @aa _ bY);have nb:=an b h.m (by rw[hmd];rfl);have nb4:=an b4 h.m (by exact @aa _ (di @nb @hmd));by_cases k2:o.kind=2
 ·have e2:(o.kind=2)=True:=eq_true k2;rw[if_pos k2]at hq;by_cases hg:0<hh
  ·have e3:(hh>0)=True:=eq_true hg;rw[if_pos hg]at hq;refine @aa _ (bz @n1 @nb @nb4 @hmd @hH @x2 @hL (And.intro @hD (And.intro @x1 (And.intro @x3 (And.intro @e2 (And.intro @e3 (And.intro @hlh (And.intro @hld (And.intro @t1 (And.intro @t2 @t3))))))))) ?_);refine aq (fq _ 36 _) (@aa _ (ah @n1 ?_));exact gS hq k (.refl _ _)
  ·have e3:(hh>0)=False:=eq_false hg;rw[if_neg hg]at hq;refine @aa _ (bz @n1 @nb @nb4 @hmd @hH @x2 @hL (And.intro @hD (And.intro @x1 (And.intro @x3 (And.intro @e2 (And.intro @e3 (And.intro @hlh (And.intro @hld (And.intro @t1 (And.intro @t2 (And.intro @t3 (And.intro @aHL (And.intro @aDL (And.intro @aLD (And.intro @aHD (And.intro @aLH (And.intro @aDH (And.intro @eH (And.intro @eL @eD)))))))))))))))))) ?_);obtain⟨k1,f1⟩:=k.MU o.level.toNat o.az;obtain⟨k2,f2⟩:=k1.Ku o.level.toNat e;exact pU hq k2 (f1.trans f2)
 have e2:(o.kind=2)=False:=eq_false k2;rw[if_neg k2]at hq;by_cases k1:o.kind=1
 ·have e1:(o.kind=1)=True:=eq_true k1;have e9:(o.kind=3)=False:=eq_false (by omega);rw[if_pos k1]at hq;obtain⟨j1,f1⟩:=k.ML (oy m.r o.level o.az).1;unfold pE at j1 f1;by_cases hown:hh=o.az
  ·have e3:(hh=o.az)=True:=eq_true hown;rw[if_pos hown]at hq;refine @aa _ (bz @n1 @nb @nb4 @hmd @hH @x2 @e1 (And.intro @e2 (And.intro @e3 (And.intro @hlh (And.intro @hld (And.intro @t1 (And.intro @t2 @t3)))))) ?_);refine aR (Dc w0 m.r o.level o.az _ hr) (@aa _ (bz @n1 @nb @nb4 @hmd @hH @x2 @e1 (And.intro @e2 (And.intro @e3 (And.intro @e9 (And.intro @hlh (And.intro @hld (And.intro @t1 (And.intro @t2 (And.intro @t3 (And.intro @aHL (And.intro @aDL (And.intro @aLD (And.intro @aHD (And.intro @aLH (And.intro @aDH (And.intro @eH (And.intro @eL @eD)))))))))))))))) ?_));obtain⟨j2,f2⟩:=j1.MU o.level.toNat 0;exact pU hq j2 (f1.trans f2)
  ·have e3:(hh=o.az)=False:=eq_false hown;rw[if_neg hown]at hq;refine @aa _ (bz @n1 @nb @nb4 @hmd @hH @x2 @e1 (And.intro @e2 (And.intro @e3 (And.intro @hlh (And.intro @hld (And.intro @t1 (And.intro @t2 @t3)))))) ?_);refine aR (Dc w0 m.r o.level o.az _ hr) (@aa _ (bz @n1 @nb @nb4 @hmd @hH @x2 @e1 (And.intro @e2 (And.intro @e3 (And.intro @e9 (And.intro @hlh (And.intro @hld (And.intro @t1 (And.intro @t2 (And.intro @t3 (And.intro @aHL (And.intro @aDL (And.intro @aLD (And.intro @aHD (And.intro @aLH (And.intro @aDH (And.intro @eH (And.intro @eL @eD)))))))))))))))) ?_));exact pU hq j1 f1
 have e1:(o.kind=1)=False:=eq_false k1;rw[if_neg k1]at hq;by_cases hown:hh=o.az
 case neg=>
  have e3:(hh=o.az)=False:=eq_false hown;rw[if_pos hown]at hq;refine @aa _ (bz @n1 @nb @nb4 @hmd @hH @x2 @e1 (And.intro @e2 (And.intro @e3 (And.intro @hlh (And.intro @hld (And.intro @t1 (And.intro @t2 @t3)))))) ?_);refine aq (fq _ 35 _) (@aa _ (ah @n1 ?_));exact gS hq k (.refl _ _)
 have e3:(hh=o.az)=True:=eq_true hown;rw[if_neg (fun q=>q hown)]at hq;by_cases k3:o.kind=3
 ·have e9:(o.kind=3)=True:=eq_true k3;rw[if_pos k3]at hq;refine @aa _ (bz @n1 @nb @nb4 @hmd @hH @x2 @hL (And.intro @hD (And.intro @x1 (And.intro @x3 (And.intro @e1 (And.intro @e2 (And.intro @e3 (And.intro @e9 (And.intro @hlh (And.intro @hld (And.intro @t1 (And.intro @t2 (And.intro @t3 (And.intro @aHL (And.intro @aDL (And.intro @aLD (And.intro @aHD (And.intro @aLH (And.intro @aDH (And.intro @eH (And.intro @eL @eD)))))))))))))))))))) ?_);obtain⟨j1,f1⟩:=k.qs o.level.toNat d;obtain⟨j2,f2⟩:=j1.MU o.level.toNat 0;exact pU hq j2 (f1.trans f2)
 ·have e9:(o.kind=3)=False:=eq_false k3;rw[if_neg k3]at hq;refine @aa _ (bz @n1 @nb @nb4 @hmd @hH @x2 @hL (And.intro @hD (And.intro @x1 (And.intro @x3 (And.intro @e1 (And.intro @e2 (And.intro @e3 (And.intro @e9 (And.intro @hlh (And.intro @hld (And.intro @t1 (And.intro @t2 (And.intro @t3 (And.intro @aHL (And.intro @aDL (And.intro @aLD (And.intro @aHD (And.intro @aLH (And.intro @aDH (And.intro @eH (And.intro @eL @eD)))))))))))))))))))) ?_);obtain⟨j1,f1⟩:=k.MU o.level.toNat 0;exact pU hq j1 f1
theorem L5(w0:W0){S:St}{h:RG}{c:Cf}{m:fU}(k:jf S h c m)(hc:c.up.length=m.l.length)(o:aV)(ha:∀l,l∈m.au→l.length≤1000000):ab Tryz.prog w0 46 [bC h.m,uB o] S (fun d S'=>d=uM (uk c m o)∧S'=S):=by
 have hmd:=k.md;have hA:=k.A;have hla:=k.la;have hup:=k.up;unfold pE at hmd;generalize hq:uk c m o=q;unfold uk at hq;refine bI [] mx Tryz.func46 rfl rfl (by kernel_rfl) ?_;refine @aa _ (ah @Tryz.ntmps46 ?_);intro b b4;have n1:=an b4 b.n (by exact @aa _ bY);have nb:=an b h.m (by rw[hmd];rfl);have nb4:=an b4 h.m (by exact @aa _ (di @nb @hmd));refine @aa _ (aZ @n1 @nb @nb4 @hmd ?_);refine aR (qb w0 c.up hup o.label o.level _) ?_
 cases hle:gM c.up o.label o.level with
 |false=>
  rw[if_pos hle]at hq;refine @aa _ (aZ @n1 @nb @nb4 @hmd ?_);refine aq (fq _ 31 _) ?_;rw[hq];exact @aa _ (ft @n1)
 |true=>
  rw[if_neg (by rw[hle];simp)]at hq;by_cases Gt:o.kind=13
  ·have e13:(o.kind=13)=True:=eq_true Gt;rw[if_pos Gt]at hq;rw[←hq];refine @aa _ (eQ @n1 @nb @nb4 @hmd @e13 ?_);exact rO 0 0
  ·have e13:(o.kind=13)=False:=eq_false Gt;rw[if_neg Gt]at hq;obtain⟨f0,f1⟩:=kZ hle;have x2:m.au[o.label.toNat]? =some (m.au[o.label.toNat]'(by omega)):=aac _;have hal:=ha _ (acH (by omega:o.label.toNat<m.au.length));generalize m.au[o.label.toNat]'_=l at x2 hal;rw[bJ x2]at hq;have key:∀R,R=(l.drop o.n.toNat).take 50→Wk (.agg [dI 0,dI 0,.sl 0 true [],dI 0,dI 0,dI 0,dI 0,.sl 6 false (R.map uA)]) (uM q):=fun R h=>by rw[←hq,h];exact wz _
   refine @aa _ (bz @n1 @nb @nb4 @hmd @e13 @hA @hla @x2 ?_);refine⟨f0,by omega,by omega,fun n0=>⟨fun h=>absurd h (by omega),fun _=>⟨fun h=>⟨by omega,key _ ?_⟩,fun h=>key _ ?_⟩⟩,fun n0=>⟨fun h=>⟨fun q=>absurd q (by decide),fun _=>key [] ?_⟩,fun h=>⟨by omega,by omega,fun h2=>⟨by omega,key _ rfl⟩,fun h2=>key _ ?_⟩⟩⟩
   ·rw[show o.n.toNat=0 by omega];rfl
   ·rw[show o.n.toNat=0 by omega,abf (by rw[acq];omega)];rfl
   ·rw[List.drop_of_length_le (by omega)];rfl
   ·rw[abf (by rw[acq];omega)]
theorem J9(w0:W0){S:St}{h:RG}{c:Cf}{m:fU}(k:jf S h c m)(o:aV)(hr:m.r.length≤1000000)(hs:∀s,s∈m.r→s.sn.length≤1000000∧0≤s.last∧s.last≤1000000)(hn:m.l.length≤64)(hps:m.ps.length≤1000000):ab Tryz.prog w0 45 [bC h.m,uB o] S (Mh S h c (sK m o)):=by
 have hmd:=k.md;have hL:=k.L;have hP:=k.P;have hm8:maxLen=9223372036854775807:=rfl;obtain⟨⟨a1,a2,a3,a4⟩,⟨b1,b2,b3⟩,⟨c1,c2⟩,d1⟩:=k.ne;unfold pE at hmd;generalize hq:sK m o=q;unfold sK at hq;refine mh [11] mx Tryz.func45 rfl rfl (by kernel_rfl) ?_;refine @aa _ (ah @Tryz.ntmps45 ?_);intro b b4;have n1:=an b4 b.n (by exact @aa _ bY);have nb:=an b h.m (by rw[hmd];rfl);have nb4:=an b4 h.m (by exact @aa _ (di @nb @hmd));by_cases Nz:o.kind=12
 ·have e12:(o.kind=12)=True:=eq_true Nz;rw[if_pos Nz]at hq;obtain⟨j1,f1⟩:=k.ML (oA m.r o.level o.az o.snap).1;unfold pE at j1 f1;refine @aa _ (eQ @n1 @nb @nb4 @hmd @e12 ?_);refine aR (IT w0 m.r o.level o.az o.snap _ hr fun s h=>(hs s h).1) ?_
  cases hu:(oA m.r o.level o.az o.snap).2 with
  |false=>
   rw[if_pos hu]at hq;refine @aa _ (eQ @n1 @nb @nb4 @hmd @e12 ?_);refine aq (fq _ 39 _) (@aa _ (ah @n1 ?_));exact gS hq j1 f1
  |true=>
   rw[if_neg (by rw[hu];simp)]at hq;refine @aa _ (eQ @n1 @nb @nb4 @hmd @e12 ?_);exact pU hq j1 f1
 ·have e12:(o.kind=12)=False:=eq_false Nz;rw[if_neg Nz]at hq;refine @aa _ (eQ @n1 @nb @nb4 @hmd @e12 ?_);refine aR (S5 w0 m.r o.level o.az _ hr hs) ?_;obtain⟨j1,f1⟩:=k.ML (oz m.r o.level o.az).1;obtain⟨j2,f2⟩:=j1.YX ⟨o.level,o.az,(oz m.r o.level o.az).2,m.l⟩;unfold pE at j1 f1;refine @aa _ (jL @n1 @nb @nb4 @hmd @e12 @hL ?_);intro b5;have n5:=an b5 b4.n (by exact @aa _ bY);have n6:=an b5 b.n (by exact @aa _ (ft @n1));have n7:=an b5 h.m (by exact @aa _ (EY @n1 @nb @nb4 @hmd));refine⟨by omega,by omega,fun la=>?_⟩;have nP:=an la h.P (by rw[hP];rfl);have hlen:(m.l.map dQ).length=m.l.length:=abI _;refine PA b5.n 3 (l:=la.n) (s:=1) (xs:=m.l.map dQ) (ds:=[dI o.level,dI o.az,dI (oz m.r o.level o.az).2,.acc la.n m.l.length]) (by exact @aa _ (tI @n5 @n6 @n7)) (by rw[hlen];rfl) (by exact @aa _ bY) ?_;refine @aa _ (jL @n1 @nb @nb4 @n5 @n6 @n7 ?_);refine Y.jZ [] [7,10] [0,1,2,3,4,5,6,7,8,9,10] mx (by kernel_rfl) ?_;refine @aa _ (bz @n1 @nb @nb4 @n5 @n6 @n7 @hmd (And.intro @hP @nP) ?_);rw[aaZ]at j2 f2;simp only[Qs]at j2 f2;exact⟨by omega,by omega,_,_,rO 0 _,.aN (.aN (.aN (.nq (.refl _)))),by rw[←hq];rfl,h,by rw[←hq];exact j2,f1.trans f2⟩
theorem jf.Qe{S:St}{h:RG}{c:Cf}{m:fU}(k:jf S h c m){P H:Nat}(hP:lk S.acc P=none)(hH:lk S.acc H=none)(hne:H≠P):
 jf ⟨Aml.up S.box h.m (pE c h.L h.A H h.D m.l.length (.sl 5 false []) (.acc P 0)),(H,.arr 1 (List.replicate m.l.length (dI 0)))::(P,.arr 4 [])::S.acc⟩ ⟨h.m,h.L,h.A,H,h.D,P⟩ c {m with r:=[],ps:=[],hs:=List.replicate m.l.length 0}∧
 qQ S ⟨Aml.up S.box h.m (pE c h.L h.A H h.D m.l.length (.sl 5 false []) (.acc P 0)),(H,.arr 1 (List.replicate m.l.length (dI 0)))::(P,.arr 4 [])::S.acc⟩ h ⟨h.m,h.L,h.A,H,h.D,P⟩:=by
 obtain⟨⟨a1,a2,a3,a4⟩,⟨b1,b2,b3⟩,⟨c1,c2⟩,d1⟩:=k.ne
 have key:∀i v,lk S.acc i=some v→lk ((H,Ob.arr 1 (List.replicate m.l.length (dI 0)))::(P,.arr 4 [])::S.acc) i=some v:=fun i v q=>by
  simp only[lk];rw[if_neg (fun e=>by rw[e,q]at hH;cases hH),if_neg (fun e=>by rw[e,q]at hP;cases hP)];exact q
 have hneq:∀i v,lk S.acc i=some v→i≠H∧i≠P:=fun i v q=>⟨fun e=>(by rw[e,hH]at q;cases q),fun e=>(by rw[e,hP]at q;cases q)⟩;have zL:=hneq _ _ k.L;have zA:=hneq _ _ k.A;have zD:=hneq _ _ k.D;refine⟨⟨bd k.md,key _ _ k.L,key _ _ k.A,?_,key _ _ k.D,?_,?_,k.la,by simp,k.ld,k.up⟩,⟨rfl,fun i v q1 q2=>?_,fun i v _ q2=>key i v q2,fun i q=>?_⟩⟩
 ·rw[ey,adT]
 ·simp only[lk];rw[if_neg hne];simp
 ·unfold RG.ax;simp only[aaV,aaJ,aca,or_false,not_or,not_false_eq_true,acT,and_true];exact⟨⟨a1,zL.1,a3,zL.2⟩,⟨zA.1,b2,zA.2⟩,⟨abx zD.1,hne⟩,zD.2⟩
 ·show lk (Aml.up _ _ _) i=_;rw[ae (abx q1)];exact q2
 ·unfold RG.ax at q ⊢;simp only[aaJ,aca,or_false]at q ⊢;rcases q with rfl|rfl|rfl|rfl|rfl
  ·exact .inl (.inl rfl)
  ·exact .inl (.inr (.inl rfl))
  ·exact .inr hH
  ·exact .inl (.inr (.inr (.inr (.inl rfl))))
  ·exact .inr hP
theorem Ny(w0:W0){S:St}{h:RG}{c:Cf}{m:fU}(k:jf S h c m)(o:aV)(full:Bool)(hn:m.l.length≤64):ab Tryz.prog w0 42 [bC h.m,uB o,dB full] S (Mh S h c (dP 0,pR m o full)):=by
 have hmd:=k.md;have hL:=k.L;have hH:=k.H;have hD:=k.D;have hlh:=k.lh;have hld:=k.ld;obtain⟨⟨a1,a2,a3,a4⟩,⟨b1,b2,b3⟩,⟨c1,c2⟩,d1⟩:=k.ne;unfold pE at hmd;generalize hq:pR m o full=q;unfold pR at hq;refine mh [1,5] mx Tryz.func42 rfl rfl (by kernel_rfl) ?_;refine @aa _ (ah @Tryz.ntmps42 ?_);intro b b4;have n1:=an b4 b.n (by exact @aa _ bY);have nb:=an b h.m (by rw[hmd];rfl);have nb4:=an b4 h.m (by exact @aa _ (di @nb @hmd));obtain⟨cb,hcb⟩:∃cb:Bool,cb=decide (0<o.az∧0≤o.level∧o.level<m.l.length∧m.hs.getD o.level.toNat 0=o.az∧full=false):=⟨_,rfl⟩;refine oN (σ:=Unit) [] [0,2,4,6,41] (fun _=>[(41,dB cb)]) (fun _=>⟨(b4.n,[dI 0,dI 0,.sl 0 true [],dI 0,dI 0,dI 0,dI 0,.sl 0 true []])::(b.n,o.ds)::S.box,S.acc⟩) (fun _=>True) mx (by kernel_rfl) ?_ ?_
 ·by_cases hr:0≤o.level∧o.level<m.l.length
  ·have x2:m.hs[o.level.toNat]? =some (m.hs[o.level.toNat]'(by omega)):=aac _;generalize m.hs[o.level.toNat]'_=hh at x2;rw[bJ x2]at hcb;refine @aa _ (jL @n1 @nb @nb4 @hmd @hH @x2 ?_);refine⟨fun s0=>⟨fun l0=>⟨fun l1=>⟨hr.1,hr.2,hlh,by omega,fun e=>⟨(),?_⟩,fun e=>⟨(),?_⟩⟩,fun l1=>absurd hr.2 l1⟩,fun l0=>absurd hr.1 l0⟩,fun s0=>⟨(),?_⟩⟩
   ·rw[hcb]
    cases full with
    |true=>rw[decide_eq_false (fun q=>by cases q.2.2.2.2)];rfl
    |false=>rw[decide_eq_true ⟨s0,hr.1,hr.2,e,rfl⟩];rfl
   ·rw[hcb,decide_eq_false (fun q=>e q.2.2.2.1)]
   ·rw[hcb,decide_eq_false (fun q=>s0 q.1)]
  ·have hcb':false=cb:=by rw[hcb,decide_eq_false (fun q=>hr ⟨q.2.1,q.2.2.1⟩)]
   refine @aa _ (aZ @n1 @nb @nb4 @hmd ?_);exact⟨fun s0=>⟨fun l0=>⟨fun l1=>absurd ⟨l0,l1⟩ hr,fun l1=>⟨(),hcb'⟩⟩,fun l0=>⟨(),hcb'⟩⟩,fun s0=>⟨(),hcb'⟩⟩
 rintro _ _;by_cases hP:0<o.az∧0≤o.level∧o.level<m.l.length∧m.hs.getD o.level.toNat 0=o.az∧full=false
 ·rw[decide_eq_true hP]at hcb;subst hcb;rw[if_pos hP]at hq;have h0:=hP.2.1;have h1:=hP.2.2.1;have aLD:(h.L=h.D)=False:=eq_false a3;have aDL:(h.D=h.L)=False:=eq_false (abx a3);have x3:m.ds[o.level.toNat]? =some (m.ds[o.level.toNat]'(by omega)):=aac _;generalize m.ds[o.level.toNat]'_=d at x3;rw[bJ x3]at hq;have eL:∀x:List En,(m.l.map dQ).set o.level.toNat (DV.sl 3 false (x.map xS))=(m.l.set o.level.toNat x).map dQ:=fun a=>adv.symm;have t1:(0≤o.level)=True:=eq_true h0;have t2:(o.level<(m.l.length:Int))=True:=eq_true h1;have t3:(o.level.toNat<m.l.length)=True:=eq_true (by omega);refine @aa _ (bz @n1 @nb @nb4 @hmd @hL @hD @x3 (And.intro @hld (And.intro @t1 (And.intro @t2 (And.intro @t3 (And.intro @aLD (And.intro @aDL @eL)))))) ?_);intro _ _;refine J5 h.m [.sl 1 false (aA c.nm),dH c.up,iH c.qu,gL c.gr,.acc h.L m.l.length,.acc h.A m.l.length,.acc h.H m.l.length,.acc h.D m.l.length,.sl 5 false [],.sl 0 true []] (ds:=[.sl 1 false (aA c.nm),dH c.up,iH c.qu,gL c.gr,.acc h.L m.l.length,.acc h.A m.l.length,.acc h.H m.l.length,.acc h.D m.l.length,.sl 0 true [],.sl 0 true []]) (by exact @aa _ (EY @n1 @nb @nb4 @hmd)) ⟨.refl _,.refl _,.refl _,.refl _,.refl _,.refl _,.refl _,.refl _,.nil _ _ _,.refl _,trivial⟩ ?_;refine fh h.m 9 4 (by omega) (ds:=[.sl 1 false (aA c.nm),dH c.up,iH c.qu,gL c.gr,.acc h.L m.l.length,.acc h.A m.l.length,.acc h.H m.l.length,.acc h.D m.l.length,.sl 5 false [],.sl 0 true []]) (by exact @aa _ (EY @n1 @nb @nb4 @hmd)) rfl fun lP=>?_;refine G0 [] mx (by kernel_rfl) ?_;refine @aa _ (aZ @n1 @nb @nb4 @hmd ?_);refine⟨by omega,by omega,fun lH=>?_⟩;have p1:lk (Aml.up S.acc h.L (Ob.arr 1 ((m.l.set o.level.toNat d).map dQ))) lP.n=none:=ao lP;have p2:lk ((lP.n,Ob.arr 4 [])::(Aml.up S.acc h.L (Ob.arr 1 ((m.l.set o.level.toNat d).map dQ)))) lH.n=none:=ao lH;have p3:lH.n≠lP.n:=fun e=>by rw[e,ey]at p2;cases p2
  have p4:lk (Aml.up S.acc h.L (Ob.arr 1 ((m.l.set o.level.toNat d).map dQ))) lH.n=none:=by simp only[lk]at p2;rw[if_neg (abx p3)]at p2;exact p2
  obtain⟨j1,f1⟩:=k.qs o.level.toNat d;obtain⟨j,f⟩:=j1.Qe p1 p4 p3;simp only[acZ]at j f;exact pU (q:=(dP 0,q)) (by rw[←hq];rfl) j (f1.trans f)
 ·rw[decide_eq_false hP]at hcb;subst hcb;rw[if_neg hP]at hq;refine @aa _ (aZ @n1 @nb @nb4 @hmd ?_);refine J5 h.m [.sl 1 false (aA c.nm),dH c.up,iH c.qu,gL c.gr,.acc h.L m.l.length,.acc h.A m.l.length,.acc h.H m.l.length,.acc h.D m.l.length,.sl 5 false [],.sl 0 true []] (ds:=[.sl 1 false (aA c.nm),dH c.up,iH c.qu,gL c.gr,.acc h.L m.l.length,.acc h.A m.l.length,.acc h.H m.l.length,.acc h.D m.l.length,.sl 0 true [],.sl 0 true []]) (by exact @aa _ (EY @n1 @nb @nb4 @hmd)) ⟨.refl _,.refl _,.refl _,.refl _,.refl _,.refl _,.refl _,.refl _,.nil _ _ _,.refl _,trivial⟩ ?_;refine fh h.m 9 4 (by omega) (ds:=[.sl 1 false (aA c.nm),dH c.up,iH c.qu,gL c.gr,.acc h.L m.l.length,.acc h.A m.l.length,.acc h.H m.l.length,.acc h.D m.l.length,.sl 5 false [],.sl 0 true []]) (by exact @aa _ (EY @n1 @nb @nb4 @hmd)) rfl fun lP=>?_;refine G0 [] mx (by kernel_rfl) ?_;refine @aa _ (aZ @n1 @nb @nb4 @hmd ?_);refine⟨by omega,by omega,fun lH=>?_⟩;have p1:lk S.acc lP.n=none:=ao lP;have p2:lk ((lP.n,Ob.arr 4 [])::S.acc) lH.n=none:=ao lH;have p3:lH.n≠lP.n:=fun e=>by rw[e,ey]at p2;cases p2
  have p4:lk S.acc lH.n=none:=by simp only[lk]at p2;rw[if_neg (abx p3)]at p2;exact p2
  obtain⟨j,f⟩:=k.Qe p1 p4 p3;exact pU (q:=(dP 0,q)) (by rw[←hq];rfl) j f
theorem rM(w0:W0){S:St}{h:RG}{c:Cf}{m:fU}(k:jf S h c m)(o:aV)(full:Bool)(h0:0≤o.level)(h1:o.level<m.l.length)(hk:5≤o.kind∧o.kind≤8)(hz:∀l,l∈m.ds→l.length≤1000000):ab Tryz.prog w0 48 [bC h.m,uB o,dB full] S (Mh S h c (lW m o full)):=by
 have hmd:=k.md;have hH:=k.H;have hD:=k.D;have hlh:=k.lh;have hld:=k.ld;unfold pE at hmd;have x2:m.hs[o.level.toNat]? =some (m.hs[o.level.toNat]'(by omega)):=aac _;have x3:m.ds[o.level.toNat]? =some (m.ds[o.level.toNat]'(by omega)):=aac _;have hzd:=hz _ (acH (by omega:o.level.toNat<m.ds.length));generalize m.hs[o.level.toNat]'_=hh at x2;generalize m.ds[o.level.toNat]'_=d at x3 hzd;generalize hq:lW m o full=q;unfold lW at hq;simp only[bJ x2,bJ x3]at hq;have s1:(tx o.value).size=o.value.length:=cV _;refine mh [] mx Tryz.func48 rfl rfl (by kernel_rfl) ?_;refine @aa _ (ah @Tryz.ntmps48 ?_);intro b b4;have n1:=an b4 b.n (by exact @aa _ bY);have nb:=an b h.m (by rw[hmd];rfl);have nb4:=an b4 h.m (by exact @aa _ (di @nb @hmd));have eD:∀x:List En,(m.ds.map dQ).set o.level.toNat (DV.sl 3 false (x.map xS))=(m.ds.set o.level.toNat x).map dQ:=fun a=>adv.symm;have t1:(0≤o.level)=True:=eq_true h0;have t2:(o.level<(m.l.length:Int))=True:=eq_true h1;have t3:(o.level.toNat<m.l.length)=True:=eq_true (by omega);have hzd':d.length≤4611686018427387904:=by omega
 obtain⟨bN,hbN⟩:∃b,decide (cH o.bucket 15)=b:=⟨_,rfl⟩;obtain⟨bK,hbK⟩:∃b,decide (cH o.key 16)=b:=⟨_,rfl⟩;have ht15:=QD w0 o.bucket 15;have ht16:=QD w0 o.key 16;rw[hbN]at ht15;rw[hbK]at ht16;by_cases hown:hh=o.az
 case neg=>
  have e3:(hh=o.az)=False:=eq_false hown;rw[if_pos hown]at hq;refine @aa _ (bz @n1 @nb @nb4 @hmd @hH @x2 @e3 (And.intro @hlh (And.intro @t1 (And.intro @t2 @t3))) ?_);refine aq (fq _ 35 _) (@aa _ (ah @n1 ?_));exact gS hq k (.refl _ _)
 have e3:(hh=o.az)=True:=eq_true hown;rw[if_neg (fun q=>q hown)]at hq;refine @aa _ (bz @n1 @nb @nb4 @hmd @hH @x2 @e3 (And.intro @hlh (And.intro @t1 (And.intro @t2 (And.intro @t3 (And.intro @hD (And.intro @x3 @hld)))))) ?_);refine aq (gI w0 d o.bucket [] hzd' _) (@aa _ (ah @n1 ?_));refine aq (ht15 _) (@aa _ (ah @n1 ?_));refine aq (ht16 _) (@aa _ (ah @n1 ?_));rcases(by omega:o.kind=5∨o.kind=6∨o.kind=7∨o.kind=8)with k5|k6|k7|k8
 ·have e5:(o.kind=5)=True:=eq_true k5;have e7:(o.kind=7)=False:=eq_false (by omega);have e8:(o.kind=8)=False:=eq_false (by omega)
  cases bN with
  |false=>
   rw[if_pos (.inl ⟨k5,of_decide_eq_false hbN⟩)]at hq;refine @aa _ (aZ @n1 @nb @nb4 @e5 ?_);refine aq (fq _ 34 _) (@aa _ (ah @n1 ?_));exact gS hq k (.refl _ _)
  |true=>
   rw[if_neg (fun q=>q.elim (fun r=>r.2 (of_decide_eq_true hbN)) fun r=>by omega)]at hq;by_cases hI:0≤aP d o.bucket []
   ·have eI:(aP d o.bucket []≥0)=True:=eq_true hI;rw[if_pos ⟨k5,hI⟩]at hq;refine @aa _ (jL @n1 @nb @nb4 @e5 @e7 @eI ?_);refine aq (fq _ 38 _) (@aa _ (ah @n1 ?_));exact gS hq k (.refl _ _)
   have eI:(aP d o.bucket []≥0)=False:=eq_false hI;rw[if_neg (fun q=>hI q.2),if_neg (fun q=>q.1 k5),if_neg (fun q=>by omega)]at hq
   cases full with
   |true=>
    rw[if_pos rfl]at hq;refine @aa _ (kH @n1 @nb @nb4 @e5 @e7 @e8 @eI ?_);refine aq (fq _ 37 _) (@aa _ (ah @n1 ?_));exact gS hq k (.refl _ _)
   |false=>
    rw[if_neg (by simp)]at hq;have hnew:lz o d=fX d ⟨o.bucket,[],[]⟩:=by unfold lz;rw[if_pos k5]
    rw[hnew]at hq;refine @aa _ (bz @n1 @nb @nb4 @e5 @e7 @e8 @eI (And.intro @hmd (And.intro @hD (And.intro @hld (And.intro @t1 (And.intro @t2 @t3))))) ?_);obtain⟨j,f⟩:=k.Ku o.level.toNat (fX d ⟨o.bucket,[],[]⟩);refine aR (Cv w0 d ⟨o.bucket,[],[]⟩ (by omega) _) (@aa _ (bz @n1 @nb @nb4 @hmd @hD @x3 @hld (And.intro @t1 (And.intro @t2 (And.intro @t3 @eD))) ?_));exact pU hq j f
 ·have e5:(o.kind=5)=False:=eq_false (by omega);have e6:(o.kind=6)=True:=eq_true k6;have e7:(o.kind=7)=False:=eq_false (by omega);have e8:(o.kind=8)=False:=eq_false (by omega);rw[if_neg (fun q=>q.elim (fun r=>by omega) fun r=>by omega),if_neg (fun q=>by omega)]at hq;by_cases hI:0≤aP d o.bucket []
  case neg=>
   have eI:(aP d o.bucket []≥0)=False:=eq_false hI;rw[if_pos ⟨by omega,hI⟩]at hq;refine @aa _ (kH @n1 @nb @nb4 @e5 @e6 @e7 @eI ?_);refine aq (fq _ 32 _) (@aa _ (ah @n1 ?_));exact gS hq k (.refl _ _)
  have eI:(aP d o.bucket []≥0)=True:=eq_true hI;rw[if_neg (fun q=>q.2 hI),if_neg (fun q=>by omega)]at hq
  cases full with
  |true=>
   rw[if_pos rfl]at hq;refine @aa _ (bz @n1 @nb @nb4 @e5 @e6 @e7 @e8 @eI ?_);refine aq (fq _ 37 _) (@aa _ (ah @n1 ?_));exact gS hq k (.refl _ _)
  |false=>
   rw[if_neg (by simp)]at hq;have hnew:lz o d=cS d o.bucket []:=by unfold lz;rw[if_neg (by omega),if_pos k6]
   rw[hnew]at hq;refine @aa _ (bz @n1 @nb @nb4 @e5 @e6 @e7 @e8 (And.intro @eI (And.intro @hmd (And.intro @hD (And.intro @hld (And.intro @t1 (And.intro @t2 @t3)))))) ?_);obtain⟨j,f⟩:=k.Ku o.level.toNat (cS d o.bucket []);refine aR (u4 w0 d o.bucket [] (by omega) _) (@aa _ (bz @n1 @nb @nb4 @hmd @hD @x3 @hld (And.intro @t1 (And.intro @t2 (And.intro @t3 @eD))) ?_));exact pU hq j f
 ·have e5:(o.kind=5)=False:=eq_false (by omega);have e6:(o.kind=6)=False:=eq_false (by omega);have e7:(o.kind=7)=True:=eq_true k7;have e8:(o.kind=8)=False:=eq_false (by omega)
  cases bK with
  |false=>
   rw[if_pos (.inr ⟨k7,.inl (of_decide_eq_false hbK)⟩)]at hq;refine @aa _ (eQ @n1 @nb @nb4 @e5 @e7 ?_);refine aq (fq _ 34 _) (@aa _ (ah @n1 ?_));exact gS hq k (.refl _ _)
  |true=>
  by_cases hv:400<o.value.length
  ·have ev:(((tx o.value).size:Int)>400)=True:=eq_true (by omega);rw[if_pos (.inr ⟨k7,.inr hv⟩)]at hq;refine @aa _ (jL @n1 @nb @nb4 @e5 @e7 @ev ?_);refine aq (fq _ 34 _) (@aa _ (ah @n1 ?_));exact gS hq k (.refl _ _)
  have ev:(((tx o.value).size:Int)>400)=False:=eq_false (by omega);rw[if_neg (fun q=>q.elim (fun r=>by omega) fun r=>r.2.elim (fun t=>t (of_decide_eq_true hbK)) hv),if_neg (fun q=>by omega)]at hq;by_cases hI:0≤aP d o.bucket []
  case neg=>
   have eI:(aP d o.bucket []≥0)=False:=eq_false hI;rw[if_pos ⟨by omega,hI⟩]at hq;refine @aa _ (bz @n1 @nb @nb4 @e5 @e6 @e7 @eI @ev ?_);refine aq (fq _ 32 _) (@aa _ (ah @n1 ?_));exact gS hq k (.refl _ _)
  have eI:(aP d o.bucket []≥0)=True:=eq_true hI;rw[if_neg (fun q=>q.2 hI),if_neg (fun q=>by omega)]at hq
  cases full with
  |true=>
   rw[if_pos rfl]at hq;refine @aa _ (bz @n1 @nb @nb4 @e5 @e6 @e7 @e8 (And.intro @eI @ev) ?_);refine aq (fq _ 37 _) (@aa _ (ah @n1 ?_));exact gS hq k (.refl _ _)
  |false=>
   rw[if_neg (by simp)]at hq;have hnew:lz o d=fX d ⟨o.bucket,o.key,o.value⟩:=by unfold lz;rw[if_neg (by omega),if_neg (by omega),if_pos k7]
   rw[hnew]at hq;refine @aa _ (bz @n1 @nb @nb4 @e5 @e6 @e7 @e8 (And.intro @eI (And.intro @ev (And.intro @hmd (And.intro @hD (And.intro @hld (And.intro @t1 (And.intro @t2 @t3))))))) ?_);obtain⟨j,f⟩:=k.Ku o.level.toNat (fX d ⟨o.bucket,o.key,o.value⟩);refine aR (Cv w0 d ⟨o.bucket,o.key,o.value⟩ (by omega) _) (@aa _ (bz @n1 @nb @nb4 @hmd @hD @x3 @hld (And.intro @t1 (And.intro @t2 (And.intro @t3 @eD))) ?_));exact pU hq j f
 ·have e5:(o.kind=5)=False:=eq_false (by omega);have e6:(o.kind=6)=False:=eq_false (by omega);have e7:(o.kind=7)=False:=eq_false (by omega);have e8:(o.kind=8)=True:=eq_true k8;rw[if_neg (fun q=>q.elim (fun r=>by omega) fun r=>by omega),if_neg (fun q=>by omega)]at hq;by_cases hI:0≤aP d o.bucket []
  case neg=>
   have eI:(aP d o.bucket []≥0)=False:=eq_false hI;rw[if_pos ⟨by omega,hI⟩]at hq;refine @aa _ (kH @n1 @nb @nb4 @e5 @e6 @e7 @eI ?_);refine aq (fq _ 32 _) (@aa _ (ah @n1 ?_));exact gS hq k (.refl _ _)
  have eI:(aP d o.bucket []≥0)=True:=eq_true hI;rw[if_neg (fun q=>q.2 hI)]at hq
  cases bK with
  |false=>
   rw[if_pos ⟨k8,.inl (of_decide_eq_false hbK)⟩]at hq;refine @aa _ (bz @n1 @nb @nb4 @e5 @e6 @e7 @e8 @eI ?_);refine aq (fq _ 33 _) (@aa _ (ah @n1 ?_));exact gS hq k (.refl _ _)
  |true=>
  refine @aa _ (bz @n1 @nb @nb4 @e5 @e6 @e7 @e8 @eI ?_);by_cases hf:aP d o.bucket o.key<0
  ·have ef:(aP d o.bucket o.key<0)=True:=eq_true hf;rw[if_pos ⟨k8,.inr hf⟩]at hq;refine aq (gI w0 d o.bucket o.key hzd' _) (@aa _ (bz @n1 @nb @nb4 @e5 @e6 @e7 @e8 @ef ?_));refine aq (fq _ 33 _) (@aa _ (ah @n1 ?_));exact gS hq k (.refl _ _)
  have ef:(aP d o.bucket o.key<0)=False:=eq_false hf;rw[if_neg (fun q=>q.2.elim (fun t=>t (of_decide_eq_true hbK)) hf)]at hq
  cases full with
  |true=>
   rw[if_pos rfl]at hq;refine aq (gI w0 d o.bucket o.key hzd' _) (@aa _ (bz @n1 @nb @nb4 @e5 @e6 @e7 @e8 @ef ?_));refine aq (fq _ 37 _) (@aa _ (ah @n1 ?_));exact gS hq k (.refl _ _)
  |false=>
   rw[if_neg (by simp)]at hq;have hnew:lz o d=cS d o.bucket o.key:=by unfold lz;rw[if_neg (by omega),if_neg (by omega),if_neg (by omega)]
   rw[hnew]at hq;refine aq (gI w0 d o.bucket o.key hzd' _) (@aa _ (bz @n1 @nb @nb4 @e5 @e6 @e7 @e8 (And.intro @ef (And.intro @hmd (And.intro @hD (And.intro @hld (And.intro @t1 (And.intro @t2 @t3)))))) ?_));obtain⟨j,f⟩:=k.Ku o.level.toNat (cS d o.bucket o.key);refine aR (u4 w0 d o.bucket o.key (by omega) _) (@aa _ (bz @n1 @nb @nb4 @hmd @hD @x3 @hld (And.intro @t1 (And.intro @t2 (And.intro @t3 @eD))) ?_));exact pU hq j f
theorem Rz(w0:W0){S:St}{h:RG}{c:Cf}{m:fU}(k:jf S h c m)(o:aV)(full:Bool)(hcl:c.up.length=m.l.length)(hgr:c.gr.length≤1048576)(hzl:∀l,l∈m.l→l.length≤1000000∧∀x,x∈l→x.v.length≤1000000)(hza:∀l,l∈m.au→l.length≤1000000):ab Tryz.prog w0 47 [bC h.m,uB o,dB full] S (Mh S h c (qO c m o full)):=by
 have hmd:=k.md;have hL:=k.L;have hH:=k.H;have hA:=k.A;have hlh:=k.lh;have hla:=k.la;have hup:=k.up;have hm8:maxLen=9223372036854775807:=rfl;obtain⟨⟨a1,a2,a3,a4⟩,⟨b1,b2,b3⟩,⟨c1,c2⟩,d1⟩:=k.ne;have aLA:(h.L=h.A)=False:=eq_false a1;have aAL:(h.A=h.L)=False:=eq_false (abx a1);unfold pE at hmd;generalize hq:qO c m o full=q;unfold qO at hq;refine mh [1,19] mx Tryz.func47 rfl rfl (by kernel_rfl) ?_;refine @aa _ (ah @Tryz.ntmps47 ?_);intro b b4;have n1:=an b4 b.n (by exact @aa _ bY);have nb:=an b h.m (by rw[hmd];rfl);have nb4:=an b4 h.m (by exact @aa _ (di @nb @hmd));obtain⟨cb,hcb⟩:∃cb:Bool,cb=decide (gM c.up o.label o.level=true∧gM c.up o.cz o.level=true∧(⟨o.level,o.label,o.cz⟩:G)∈c.gr):=⟨_,rfl⟩;refine oN (σ:=Unit) [] [0,2,4,6,49] (fun _=>[(49,dB (!cb))]) (fun _=>⟨(b4.n,[dI 0,dI 0,.sl 0 true [],dI 0,dI 0,dI 0,dI 0,.sl 0 true []])::(b.n,o.ds)::S.box,S.acc⟩) (fun _=>True) mx (by kernel_rfl) ?_ ?_
 ·have l1:=qb w0 c.up hup o.label o.level;have l2:=qb w0 c.up hup o.cz o.level;have l3:=ZM w0 c.gr ⟨o.level,o.label,o.cz⟩ (by omega)
  cases e1:gM c.up o.label o.level with
  |false=>
   rw[e1]at l1 hcb;simp only[abQ,false_and,decide_false]at hcb;subst hcb;refine @aa _ (aZ @n1 @nb @nb4 @hmd ?_);refine aR (l1 _) (@aa _ (av ?_));exact⟨(),trivial⟩
  |true=>
  cases e2:gM c.up o.cz o.level with
  |false=>
   rw[e1]at l1 hcb;rw[e2]at l2 hcb;simp only[abQ,false_and,and_false,decide_false]at hcb;subst hcb;refine @aa _ (aZ @n1 @nb @nb4 @hmd ?_);refine aR (l1 _) (@aa _ (aZ @n1 @nb @nb4 @hmd ?_));refine aR (l2 _) (@aa _ (av ?_));exact⟨(),trivial⟩
  |true=>
   rw[e1]at l1 hcb;rw[e2]at l2 hcb;simp only[true_and]at hcb;rw[←hcb]at l3;refine @aa _ (aZ @n1 @nb @nb4 @hmd ?_);refine aR (l1 _) (@aa _ (aZ @n1 @nb @nb4 @hmd ?_));refine aR (l2 _) (@aa _ (aZ @n1 @nb @nb4 @hmd ?_));refine aR (l3 _) (@aa _ (av ?_));exact⟨(),trivial⟩
 rintro _ _;by_cases hP:gM c.up o.label o.level=true∧gM c.up o.cz o.level=true∧(⟨o.level,o.label,o.cz⟩:G)∈c.gr
 case neg=>
  rw[decide_eq_false hP]at hcb;subst hcb;simp only at hq;rw[if_pos hP]at hq;refine @aa _ (aZ @n1 @nb @nb4 @hmd ?_);refine aq (fq _ 31 _) (@aa _ (ah @n1 ?_));exact gS hq k (.refl _ _)
 rw[decide_eq_true hP]at hcb;subst hcb;obtain⟨f0,f1⟩:=kZ hP.1;obtain⟨g0,g1⟩:=kZ hP.2.1;have y1:m.l[o.label.toNat]? =some (m.l[o.label.toNat]'(by omega)):=aac _;have y2:m.l[o.cz.toNat]? =some (m.l[o.cz.toNat]'(by omega)):=aac _;have y3:m.hs[o.cz.toNat]? =some (m.hs[o.cz.toNat]'(by omega)):=aac _;have y4:m.au[o.cz.toNat]? =some (m.au[o.cz.toNat]'(by omega)):=aac _;have z1:=hzl _ (aaf y1);have z2:=hzl _ (aaf y2);have z4:=hza _ (aaf y4);generalize m.l[o.label.toNat]'_=lf at y1 z1;generalize m.l[o.cz.toNat]'_=lt at y2 z2;generalize m.hs[o.cz.toNat]'_=hh at y3;generalize m.au[o.cz.toNat]'_=a at y4 z4;simp only[bJ y1,bJ y2,bJ y3,bJ y4]at hq;rw[if_neg (fun r=>r hP)]at hq;have t1:(0≤o.label)=True:=eq_true f0;have t2:(o.label<(m.l.length:Int))=True:=eq_true (by omega);have t3:(o.label.toNat<m.l.length)=True:=eq_true (by omega);have t4:(0≤o.cz)=True:=eq_true g0;have t5:(o.cz<(m.l.length:Int))=True:=eq_true (by omega);have t6:(o.cz.toNat<m.l.length)=True:=eq_true (by omega);by_cases hg:0<hh
 ·have eg:(hh>0)=True:=eq_true hg;rw[if_pos hg]at hq;refine @aa _ (bz @n1 @nb @nb4 @hmd @hH @y3 @hlh (And.intro @t4 (And.intro @t5 (And.intro @t6 @eg))) ?_);refine aq (fq _ 36 _) (@aa _ (ah @n1 ?_));exact gS hq k (.refl _ _)
 have eg:(hh>0)=False:=eq_false hg;rw[if_neg hg]at hq;refine @aa _ (bz @n1 @nb @nb4 @hmd @hH @y3 @hlh (And.intro @t4 (And.intro @t5 (And.intro @t6 (And.intro @eg (And.intro @hL (And.intro @y1 (And.intro @t1 (And.intro @t2 @t3)))))))) ?_);by_cases hf1:aP lf o.bucket []<0
 ·have ef1:(aP lf o.bucket []<0)=True:=eq_true hf1;rw[if_pos hf1]at hq;refine aR (gI w0 lf o.bucket [] (by omega) _) (@aa _ (cK @n1 @ef1 ?_));refine aq (fq _ 32 _) (@aa _ (ah @n1 ?_));exact gS hq k (.refl _ _)
 have ef1:(aP lf o.bucket []<0)=False:=eq_false hf1;rw[if_neg hf1]at hq;refine aR (gI w0 lf o.bucket [] (by omega) _) (@aa _ (bz @n1 @nb @nb4 @hmd @ef1 @hL @y1 (And.intro @t1 (And.intro @t2 @t3)) ?_));by_cases hf2:aP lf o.bucket o.key<0
 ·have ef2:(aP lf o.bucket o.key<0)=True:=eq_true hf2;rw[if_pos (.inl hf2)]at hq;refine aR (gI w0 lf o.bucket o.key (by omega) _) (@aa _ (cK @n1 @ef2 ?_));refine aq (fq _ 33 _) (@aa _ (ah @n1 ?_));exact gS hq k (.refl _ _)
 have ef2:(aP lf o.bucket o.key<0)=False:=eq_false hf2;by_cases hk0:o.key=[]
 ·have ek:(o.key=[])=True:=eq_true hk0;rw[if_pos (.inr hk0)]at hq;refine aR (gI w0 lf o.bucket o.key (by omega) _) (@aa _ (cL @n1 @ef2 @ek ?_));refine aq (fq _ 33 _) (@aa _ (ah @n1 ?_));exact gS hq k (.refl _ _)
 have ek:(o.key=[])=False:=eq_false hk0;rw[if_neg (fun r=>r.elim hf2 hk0)]at hq;refine aR (gI w0 lf o.bucket o.key (by omega) _) (@aa _ (bz @n1 @nb @nb4 @hmd @ef2 @ek @hL (And.intro @y2 (And.intro @t4 (And.intro @t5 @t6))) ?_));by_cases hf3:aP lt o.bucket []<0
 ·have ef3:(aP lt o.bucket []<0)=True:=eq_true hf3;rw[if_pos hf3]at hq;refine aR (gI w0 lt o.bucket [] (by omega) _) (@aa _ (cK @n1 @ef3 ?_));refine aq (fq _ 32 _) (@aa _ (ah @n1 ?_));exact gS hq k (.refl _ _)
 have ef3:(aP lt o.bucket []<0)=False:=eq_false hf3;rw[if_neg hf3]at hq
 cases full with
 |true=>
  rw[if_pos rfl]at hq;refine aR (gI w0 lt o.bucket [] (by omega) _) (@aa _ (cK @n1 @ef3 ?_));refine aq (fq _ 37 _) (@aa _ (ah @n1 ?_));exact gS hq k (.refl _ _)
 |false=>
  rw[if_neg (by simp)]at hq;have hfi:0≤aP lf o.bucket o.key:=by omega
  have hfl:aP lf o.bucket o.key<lf.length:=by unfold aP at hfi ⊢;split <;>omega
  have yv:lf[(aP lf o.bucket o.key).toNat]? =some (lf[(aP lf o.bucket o.key).toNat]'(by omega)):=aac _;have zv:=z1.2 _ (aaf yv);have hv:Ff lf o.bucket o.key=(lf[(aP lf o.bucket o.key).toNat]'(by omega)).v:=by unfold Ff;rw[yv];rfl
  rw[hv]at hq;clear hv;generalize lf[(aP lf o.bucket o.key).toNat]'_=ev at yv zv hq;have u1:(0≤aP lf o.bucket o.key)=True:=eq_true hfi;have u2:(aP lf o.bucket o.key<(lf.length:Int))=True:=eq_true hfl;have u3:((aP lf o.bucket o.key).toNat<lf.length)=True:=eq_true (by omega);have eL:∀x:List En,(m.l.map dQ).set o.cz.toNat (DV.sl 3 false (x.map xS))=(m.l.set o.cz.toNat x).map dQ:=fun a=>adv.symm;refine aR (gI w0 lt o.bucket [] (by omega) _) (@aa _ (bz @n1 @nb @nb4 @hmd @ef3 @hL @y1 (And.intro @y2 (And.intro @t1 (And.intro @t2 (And.intro @t3 (And.intro @t4 (And.intro @t5 (And.intro @t6 (And.intro @yv (And.intro @u1 (And.intro @u2 @u3)))))))))) ?_));refine aR (Cv w0 lt ⟨o.bucket,o.key,ev.v⟩ (by omega) _) (@aa _ (bz @n1 @nb @nb4 @hmd @hL @y2 @t4 (And.intro @t5 (And.intro @t6 (And.intro @eL (And.intro @hA (And.intro @y4 (And.intro @hla (And.intro @aLA @aAL))))))) ?_));refine⟨by omega,by omega,fun lb=>?_⟩;have nA:=an lb h.A (by rw[ae a1,hA];rfl);refine aR (YR w0 ev.v (by omega) _) (@aa _ (jL @n1 @nb @nb4 @hmd @hL @eL ?_));refine⟨by omega,by omega,?_⟩;refine HX [] [9] mx (by kernel_rfl) ?_;have hw:IntKind.i64.wrap (((a.length+1:Nat):Int)-1)=(a.length:Int):=by rw[nJ (by omega) (by omega)];omega
  refine @aa _ (bz @n1 @nb @nb4 @hmd @t4 @t5 @t6 (And.intro @hA (And.intro @y4 (And.intro @hla (And.intro @aLA (And.intro @aAL (And.intro @nA @hw)))))) ?_);obtain⟨j1,f1⟩:=k.qs o.cz.toNat (fX lt ⟨o.bucket,o.key,ev.v⟩);obtain⟨j2,f2⟩:=j1.YU o.cz.toNat (a++[⟨o.level,o.label,o.cz,o.bucket,o.key,fw ev.v⟩])
  have e:(m.au.set o.cz.toNat (a++[⟨o.level,o.label,o.cz,o.bucket,o.key,fw ev.v⟩])).map sP=(m.au.map sP).set o.cz.toNat (DV.sl 6 false (a.map uA++[uA ⟨o.level,o.label,o.cz,o.bucket,o.key,fw ev.v⟩])):=by
   rw[adv];show _=_;unfold sP;rw[aaZ];rfl
  simp only at j2 f2;rw[e]at j2 f2;exact⟨_,_,rO 0 _,.aN (.aN (.nq (.refl _))),by rw[←hq];rfl,h,by rw[←hq];exact j2,f1.trans f2⟩
theorem Y3{S T:St}{h h':RG}{c:Cf}{m:fU}{b:Nat}(k:jf T h' c m)(hF:qQ S T h h')(hb:lk S.box b=none)(hg:b≠h.m)(v:List DV):jf ⟨Aml.up T.box b v,T.acc⟩ h' c m∧qQ S ⟨Aml.up T.box b v,T.acc⟩ h h':=
 ⟨⟨by show lk (Aml.up _ _ _) _=_;rw[ae (fun e=>hg (by rw[e];exact hF.m))];exact k.md,k.L,k.A,k.H,k.D,k.P,k.nd,k.la,k.lh,k.ld,k.up⟩,hF.m,fun i w q1 q2=>by show lk (Aml.up _ _ _) i=_;rw[ae (fun e=>by rw[←e,hb]at q2;cases q2)];exact hF.box i w q1 q2,hF.acc,hF.na⟩
structure RSz(m:fU):Prop where
 n:m.l.length≤64
 r:m.r.length≤1000000
 s:∀s,s∈m.r→s.sn.length≤1000000∧0≤s.last∧s.last≤1000000
 ps:m.ps.length≤1000000
 pl:∀p,p∈m.ps→p.l.length=m.l.length∧∀e,e∈p.l→e.length≤10000
 l:∀e,e∈m.l→e.length≤10000∧∀x,x∈e→x.v.length≤1000000
 d:∀e,e∈m.ds→e.length≤10000
 a:∀e,e∈m.au→e.length≤1000000
theorem v7{S T:St}{h:RG}{c:Cf}{r:pr}{m':fU}{q:pr×fU}{b b4:Nat}{ov v4:List DV}{d':DV}(hq:(r,m')=q)(hb:lk S.box b=none)(hb4:lk S.box b4=none)(hST:Has S ⟨(b4,v4)::(b,ov)::S.box,S.acc⟩)(hbm:b4≠h.m){h':RG}(j:jf T h' c m')(f:qQ ⟨(b4,v4)::(b,ov)::S.box,S.acc⟩ T h h')(hw:Wk d' (uM r))(v:List DV):∃d S'',Wk d' d∧Aml.Sub S'' ⟨Aml.up T.box b4 v,T.acc⟩∧Mh S h c q d S'':=by
 obtain⟨j2,f2⟩:=Y3 j ((qQ.has hST).trans f) hb4 hbm v;exact⟨_,_,hw,.refl _,by rw[←hq],h',by rw[←hq];exact j2,f2⟩
theorem Mu{S:St}{h:RG}{c:Cf}{m':fU}{r:pr}{q:pr×fU}{A B:Nat×List DV}(hq:(r,m')=q)(k:jf S h c m'):∃d' S'',Wk (uM r) d'∧Aml.Sub S'' ⟨A::B::S.box,S.acc⟩∧Mh S h c q d' S'':=
 ⟨_,S,.refl _,.aN (.aN (.refl _)),by rw[←hq],h,by rw[←hq];exact k,.refl _ _⟩
theorem WC(w0:W0){S:St}{h:RG}{c:Cf}{m:fU}(k:jf S h c m)(hz:RSz m)(o:aV)(full:Bool)(hcl:c.up.length=m.l.length)(hgr:c.gr.length≤1048576)(hse:∀x,x<m.l.length→(ed m o x).length≤10000)(hss:(lL m.r o.level o.az).length≤1000000):ab Tryz.prog w0 13 [bC h.m,uB o,dB full] S (Mh S h c (Mf c m o full)):=by
 have hmd:=k.md;have hmd':=hmd;have hn:=hz.n;unfold pE at hmd;generalize hq:Mf c m o full=q;unfold Mf at hq;refine mh [] mx Tryz.func13 rfl rfl (by kernel_rfl) ?_;refine @aa _ (ah @Tryz.ntmps13 ?_);intro b b4;have n1:=an b4 b.n (by exact @aa _ bY);have nb:=an b h.m (by rw[hmd];rfl);have nb4:=an b4 h.m (by exact @aa _ (di @nb @hmd));have hbS:lk S.box b.n=none:=ao b
 have hb4S:lk S.box b4.n=none:=by
  have q:=ao b4;simp only[lk]at q;rw[if_neg (fun e=>by rw[←n1];exact e.symm)]at q;exact q
 obtain⟨T,hT⟩:∃T:St,T=⟨(b4.n,[dI 0,dI 0,.sl 0 true [],dI 0,dI 0,dI 0,dI 0,.sl 0 true []])::(b.n,o.ds)::S.box,S.acc⟩:=⟨_,rfl⟩;have hST:Has S T:=by rw[hT];exact⟨fun i x q=>ai (ao b4) (ai (ao b) q),fun _ _ q=>q⟩
 have kT:=k.has hST;have hT4:lk T.box b4.n=some [dI 0,dI 0,.sl 0 true [],dI 0,dI 0,dI 0,dI 0,.sl 0 true []]:=by rw[hT];exact ey _ _ _
 have hbm:b4.n≠h.m:=by rw[Ne,nb4];exact id
 subst hT;refine @aa _ (aZ @n1 @nb @nb4 @hmd ?_);have hck:=NN w0 (m.l.length:Int) o
 cases hok:r6 (m.l.length:Int) o with
 |false=>
  rw[if_pos hok]at hq;rw[hok]at hck;refine aR (hck _) (@aa _ (ah @n1 ?_));refine aq (fq _ 40 _) (@aa _ (ah @n1 ?_));exact gS hq k (.refl _ _)
 |true=>
 rw[if_neg (by rw[hok];simp)]at hq;rw[hok]at hck;have hok':(0≤o.kind∧o.kind<17)∧(o.kind=16∨(0≤o.level∧o.level<(m.l.length:Int))):=of_decide_eq_true hok;refine aR (hck _) (@aa _ (aZ @n1 @nb @nb4 @hmd ?_));refine⟨fun k0=>?_,fun k0=>⟨fun Me=>?_,fun Me=>?_⟩⟩
 ·rw[if_pos k0]at hq;have hlv:=hok'.2.resolve_left (by omega);obtain⟨j,f⟩:=k.ML (oB m.r o.level).1;unfold pE at j f;refine aR (Q2 w0 m.r o.level _ hz.r) (@aa _ (aZ @n1 @nb @nb4 @hmd ?_));exact pU hq j f
 ·rw[if_neg k0,if_pos Me]at hq;refine aw (Ny w0 kT o full hn) ?_;rintro _ T' ⟨rfl,h',j,f⟩;have t4:=f.box _ _ hbm hT4;refine @aa _ (ah @t4 ?_);exact v7 hq hbS hb4S hST hbm j f (.refl _) _
 rw[if_neg k0,if_neg Me]at hq;have hlv:=hok'.2.resolve_left Me;have hfd:=fun S=>zq w0 m.r o.level o.az S (by have:=hz.r;omega);by_cases hi:dm m.r o.level o.az<m.r.length
 case neg=>
  rw[if_pos hi]at hq;have efn:sS m.r o.level o.az= -1:=by unfold sS;rw[if_neg hi]
  rw[efn]at hfd;refine aR (hfd _) (@aa _ (ah @n1 ?_));refine aq (fq _ 30 _) (@aa _ (ah @n1 ?_));exact gS hq k (.refl _ _)
 rw[if_neg (fun r=>r hi)]at hq;have efn:0≤sS m.r o.level o.az:=by unfold sS;rw[if_pos hi];omega
 generalize sS m.r o.level o.az=fi at hfd efn;have efi:(fi<0)=False:=eq_false (by omega);rcases(by omega:o.kind=9∨o.kind=10∨o.kind=11∨o.kind=12∨o.kind=13∨o.kind=14∨o.kind=15∨o.kind=5∨o.kind=6∨o.kind=7∨o.kind=8∨(1≤o.kind∧o.kind≤4))with kk|kk|kk|kk|kk|kk|kk|kk|kk|kk|kk|kk
 ·have e9:(o.kind=9)=True:=eq_true kk;have e10:(o.kind=10)=False:=eq_false (by omega);have e11:(o.kind=11)=False:=eq_false (by omega);have e12:(o.kind=12)=False:=eq_false (by omega);have e13:(o.kind=13)=False:=eq_false (by omega);have e14:(o.kind=14)=False:=eq_false (by omega);have e15:(o.kind=15)=False:=eq_false (by omega);have e5:(o.kind=5)=False:=eq_false (by omega);have e6:(o.kind=6)=False:=eq_false (by omega);have e7:(o.kind=7)=False:=eq_false (by omega);have e8:(o.kind=8)=False:=eq_false (by omega);rw[if_pos (by omega)]at hq;refine aR (hfd _) (@aa _ (bz @n1 @nb @nb4 @hmd @efi @e9 @e10 (And.intro @e11 (And.intro @e12 (And.intro @e13 (And.intro @e14 (And.intro @e15 (And.intro @e5 (And.intro @e6 (And.intro @e7 @e8)))))))) ?_));refine aq (Hf w0 kT o (by have:=hz.ps;omega) (fun p hp=>(hz.pl p hp).1) hn hz.r hss hse) (@aa _ (ah @n1 ?_));exact Mu hq k
 ·have e9:(o.kind=9)=False:=eq_false (by omega);have e10:(o.kind=10)=True:=eq_true kk;have e11:(o.kind=11)=False:=eq_false (by omega);have e12:(o.kind=12)=False:=eq_false (by omega);have e13:(o.kind=13)=False:=eq_false (by omega);have e14:(o.kind=14)=False:=eq_false (by omega);have e15:(o.kind=15)=False:=eq_false (by omega);have e5:(o.kind=5)=False:=eq_false (by omega);have e6:(o.kind=6)=False:=eq_false (by omega);have e7:(o.kind=7)=False:=eq_false (by omega);have e8:(o.kind=8)=False:=eq_false (by omega);rw[if_pos (by omega)]at hq;refine aR (hfd _) (@aa _ (bz @n1 @nb @nb4 @hmd @efi @e9 @e10 (And.intro @e11 (And.intro @e12 (And.intro @e13 (And.intro @e14 (And.intro @e15 (And.intro @e5 (And.intro @e6 (And.intro @e7 @e8)))))))) ?_));refine aq (Hf w0 kT o (by have:=hz.ps;omega) (fun p hp=>(hz.pl p hp).1) hn hz.r hss hse) (@aa _ (ah @n1 ?_));exact Mu hq k
 ·have e9:(o.kind=9)=False:=eq_false (by omega);have e10:(o.kind=10)=False:=eq_false (by omega);have e11:(o.kind=11)=True:=eq_true kk;have e12:(o.kind=12)=False:=eq_false (by omega);have e13:(o.kind=13)=False:=eq_false (by omega);have e14:(o.kind=14)=False:=eq_false (by omega);have e15:(o.kind=15)=False:=eq_false (by omega);have e5:(o.kind=5)=False:=eq_false (by omega);have e6:(o.kind=6)=False:=eq_false (by omega);have e7:(o.kind=7)=False:=eq_false (by omega);have e8:(o.kind=8)=False:=eq_false (by omega);rw[if_neg (by omega),if_pos (by omega)]at hq;refine aR (hfd _) (@aa _ (bz @n1 @nb @nb4 @hmd @efi @e9 @e10 (And.intro @e11 (And.intro @e12 (And.intro @e13 (And.intro @e14 (And.intro @e15 (And.intro @e5 (And.intro @e6 (And.intro @e7 @e8)))))))) ?_));refine aw (J9 w0 kT o hz.r hz.s hn hz.ps) ?_;rintro _ T' ⟨rfl,h',j,f⟩;have t4:=f.box _ _ hbm hT4;refine @aa _ (ah @t4 ?_);exact v7 hq hbS hb4S hST hbm j f (.refl _) _
 ·have e9:(o.kind=9)=False:=eq_false (by omega);have e10:(o.kind=10)=False:=eq_false (by omega);have e11:(o.kind=11)=False:=eq_false (by omega);have e12:(o.kind=12)=True:=eq_true kk;have e13:(o.kind=13)=False:=eq_false (by omega);have e14:(o.kind=14)=False:=eq_false (by omega);have e15:(o.kind=15)=False:=eq_false (by omega);have e5:(o.kind=5)=False:=eq_false (by omega);have e6:(o.kind=6)=False:=eq_false (by omega);have e7:(o.kind=7)=False:=eq_false (by omega);have e8:(o.kind=8)=False:=eq_false (by omega);rw[if_neg (by omega),if_pos (by omega)]at hq;refine aR (hfd _) (@aa _ (bz @n1 @nb @nb4 @hmd @efi @e9 @e10 (And.intro @e11 (And.intro @e12 (And.intro @e13 (And.intro @e14 (And.intro @e15 (And.intro @e5 (And.intro @e6 (And.intro @e7 @e8)))))))) ?_));refine aw (J9 w0 kT o hz.r hz.s hn hz.ps) ?_;rintro _ T' ⟨rfl,h',j,f⟩;have t4:=f.box _ _ hbm hT4;refine @aa _ (ah @t4 ?_);exact v7 hq hbS hb4S hST hbm j f (.refl _) _
 ·have e9:(o.kind=9)=False:=eq_false (by omega);have e10:(o.kind=10)=False:=eq_false (by omega);have e11:(o.kind=11)=False:=eq_false (by omega);have e12:(o.kind=12)=False:=eq_false (by omega);have e13:(o.kind=13)=True:=eq_true kk;have e14:(o.kind=14)=False:=eq_false (by omega);have e15:(o.kind=15)=False:=eq_false (by omega);have e5:(o.kind=5)=False:=eq_false (by omega);have e6:(o.kind=6)=False:=eq_false (by omega);have e7:(o.kind=7)=False:=eq_false (by omega);have e8:(o.kind=8)=False:=eq_false (by omega);rw[if_neg (by omega),if_neg (by omega),if_pos (by omega)]at hq;refine aR (hfd _) (@aa _ (bz @n1 @nb @nb4 @hmd @efi @e9 @e10 (And.intro @e11 (And.intro @e12 (And.intro @e13 (And.intro @e14 (And.intro @e15 (And.intro @e5 (And.intro @e6 (And.intro @e7 @e8)))))))) ?_));refine aq (L5 w0 kT hcl o hz.a) (@aa _ (ah @n1 ?_));exact Mu hq k
 ·have e9:(o.kind=9)=False:=eq_false (by omega);have e10:(o.kind=10)=False:=eq_false (by omega);have e11:(o.kind=11)=False:=eq_false (by omega);have e12:(o.kind=12)=False:=eq_false (by omega);have e13:(o.kind=13)=False:=eq_false (by omega);have e14:(o.kind=14)=True:=eq_true kk;have e15:(o.kind=15)=False:=eq_false (by omega);have e5:(o.kind=5)=False:=eq_false (by omega);have e6:(o.kind=6)=False:=eq_false (by omega);have e7:(o.kind=7)=False:=eq_false (by omega);have e8:(o.kind=8)=False:=eq_false (by omega);rw[if_neg (by omega),if_neg (by omega),if_pos (by omega)]at hq;refine aR (hfd _) (@aa _ (bz @n1 @nb @nb4 @hmd @efi @e9 @e10 (And.intro @e11 (And.intro @e12 (And.intro @e13 (And.intro @e14 (And.intro @e15 (And.intro @e5 (And.intro @e6 (And.intro @e7 @e8)))))))) ?_));refine aq (L5 w0 kT hcl o hz.a) (@aa _ (ah @n1 ?_));exact Mu hq k
 ·have e9:(o.kind=9)=False:=eq_false (by omega);have e10:(o.kind=10)=False:=eq_false (by omega);have e11:(o.kind=11)=False:=eq_false (by omega);have e12:(o.kind=12)=False:=eq_false (by omega);have e13:(o.kind=13)=False:=eq_false (by omega);have e14:(o.kind=14)=False:=eq_false (by omega);have e15:(o.kind=15)=True:=eq_true kk;have e5:(o.kind=5)=False:=eq_false (by omega);have e6:(o.kind=6)=False:=eq_false (by omega);have e7:(o.kind=7)=False:=eq_false (by omega);have e8:(o.kind=8)=False:=eq_false (by omega);rw[if_neg (by omega),if_neg (by omega),if_neg (by omega),if_pos (by omega)]at hq;refine aR (hfd _) (@aa _ (bz @n1 @nb @nb4 @hmd @efi @e9 @e10 (And.intro @e11 (And.intro @e12 (And.intro @e13 (And.intro @e14 (And.intro @e15 (And.intro @e5 (And.intro @e6 (And.intro @e7 @e8)))))))) ?_));refine aw (Rz w0 kT o full hcl hgr (fun l hl=>⟨by have:=(hz.l l hl).1;omega,(hz.l l hl).2⟩) hz.a) ?_;rintro _ T' ⟨rfl,h',j,f⟩;have t4:=f.box _ _ hbm hT4;refine @aa _ (ah @t4 ?_);exact v7 hq hbS hb4S hST hbm j f (.refl _) _
 ·have e9:(o.kind=9)=False:=eq_false (by omega);have e10:(o.kind=10)=False:=eq_false (by omega);have e11:(o.kind=11)=False:=eq_false (by omega);have e12:(o.kind=12)=False:=eq_false (by omega);have e13:(o.kind=13)=False:=eq_false (by omega);have e14:(o.kind=14)=False:=eq_false (by omega);have e15:(o.kind=15)=False:=eq_false (by omega);have e5:(o.kind=5)=True:=eq_true kk;have e6:(o.kind=6)=False:=eq_false (by omega);have e7:(o.kind=7)=False:=eq_false (by omega);have e8:(o.kind=8)=False:=eq_false (by omega);rw[if_neg (by omega),if_neg (by omega),if_neg (by omega),if_neg (by omega),if_pos (by omega)]at hq;refine aR (hfd _) (@aa _ (bz @n1 @nb @nb4 @hmd @efi @e9 @e10 (And.intro @e11 (And.intro @e12 (And.intro @e13 (And.intro @e14 (And.intro @e15 (And.intro @e5 (And.intro @e6 (And.intro @e7 @e8)))))))) ?_));refine aw (rM w0 kT o full hlv.1 hlv.2 (by omega) (fun l hl=>by have:=hz.d l hl;omega)) ?_;rintro _ T' ⟨rfl,h',j,f⟩;have t4:=f.box _ _ hbm hT4;refine @aa _ (ah @t4 ?_);exact v7 hq hbS hb4S hST hbm j f (.refl _) _
 ·have e9:(o.kind=9)=False:=eq_false (by omega);have e10:(o.kind=10)=False:=eq_false (by omega);have e11:(o.kind=11)=False:=eq_false (by omega);have e12:(o.kind=12)=False:=eq_false (by omega);have e13:(o.kind=13)=False:=eq_false (by omega);have e14:(o.kind=14)=False:=eq_false (by omega);have e15:(o.kind=15)=False:=eq_false (by omega);have e5:(o.kind=5)=False:=eq_false (by omega);have e6:(o.kind=6)=True:=eq_true kk;have e7:(o.kind=7)=False:=eq_false (by omega);have e8:(o.kind=8)=False:=eq_false (by omega);rw[if_neg (by omega),if_neg (by omega),if_neg (by omega),if_neg (by omega),if_pos (by omega)]at hq;refine aR (hfd _) (@aa _ (bz @n1 @nb @nb4 @hmd @efi @e9 @e10 (And.intro @e11 (And.intro @e12 (And.intro @e13 (And.intro @e14 (And.intro @e15 (And.intro @e5 (And.intro @e6 (And.intro @e7 @e8)))))))) ?_));refine aw (rM w0 kT o full hlv.1 hlv.2 (by omega) (fun l hl=>by have:=hz.d l hl;omega)) ?_;rintro _ T' ⟨rfl,h',j,f⟩;have t4:=f.box _ _ hbm hT4;refine @aa _ (ah @t4 ?_);exact v7 hq hbS hb4S hST hbm j f (.refl _) _
 ·have e9:(o.kind=9)=False:=eq_false (by omega);have e10:(o.kind=10)=False:=eq_false (by omega);have e11:(o.kind=11)=False:=eq_false (by omega);have e12:(o.kind=12)=False:=eq_false (by omega);have e13:(o.kind=13)=False:=eq_false (by omega);have e14:(o.kind=14)=False:=eq_false (by omega);have e15:(o.kind=15)=False:=eq_false (by omega);have e5:(o.kind=5)=False:=eq_false (by omega);have e6:(o.kind=6)=False:=eq_false (by omega);have e7:(o.kind=7)=True:=eq_true kk;have e8:(o.kind=8)=False:=eq_false (by omega);rw[if_neg (by omega),if_neg (by omega),if_neg (by omega),if_neg (by omega),if_pos (by omega)]at hq;refine aR (hfd _) (@aa _ (bz @n1 @nb @nb4 @hmd @efi @e9 @e10 (And.intro @e11 (And.intro @e12 (And.intro @e13 (And.intro @e14 (And.intro @e15 (And.intro @e5 (And.intro @e6 (And.intro @e7 @e8)))))))) ?_));refine aw (rM w0 kT o full hlv.1 hlv.2 (by omega) (fun l hl=>by have:=hz.d l hl;omega)) ?_;rintro _ T' ⟨rfl,h',j,f⟩;have t4:=f.box _ _ hbm hT4;refine @aa _ (ah @t4 ?_);exact v7 hq hbS hb4S hST hbm j f (.refl _) _
 ·have e9:(o.kind=9)=False:=eq_false (by omega);have e10:(o.kind=10)=False:=eq_false (by omega);have e11:(o.kind=11)=False:=eq_false (by omega);have e12:(o.kind=12)=False:=eq_false (by omega);have e13:(o.kind=13)=False:=eq_false (by omega);have e14:(o.kind=14)=False:=eq_false (by omega);have e15:(o.kind=15)=False:=eq_false (by omega);have e5:(o.kind=5)=False:=eq_false (by omega);have e6:(o.kind=6)=False:=eq_false (by omega);have e7:(o.kind=7)=False:=eq_false (by omega);have e8:(o.kind=8)=True:=eq_true kk;rw[if_neg (by omega),if_neg (by omega),if_neg (by omega),if_neg (by omega),if_pos (by omega)]at hq;refine aR (hfd _) (@aa _ (bz @n1 @nb @nb4 @hmd @efi @e9 @e10 (And.intro @e11 (And.intro @e12 (And.intro @e13 (And.intro @e14 (And.intro @e15 (And.intro @e5 (And.intro @e6 (And.intro @e7 @e8)))))))) ?_));refine aw (rM w0 kT o full hlv.1 hlv.2 (by omega) (fun l hl=>by have:=hz.d l hl;omega)) ?_;rintro _ T' ⟨rfl,h',j,f⟩;have t4:=f.box _ _ hbm hT4;refine @aa _ (ah @t4 ?_);exact v7 hq hbS hb4S hST hbm j f (.refl _) _
 ·have e9:(o.kind=9)=False:=eq_false (by omega);have e10:(o.kind=10)=False:=eq_false (by omega);have e11:(o.kind=11)=False:=eq_false (by omega);have e12:(o.kind=12)=False:=eq_false (by omega);have e13:(o.kind=13)=False:=eq_false (by omega);have e14:(o.kind=14)=False:=eq_false (by omega);have e15:(o.kind=15)=False:=eq_false (by omega);have e5:(o.kind=5)=False:=eq_false (by omega);have e6:(o.kind=6)=False:=eq_false (by omega);have e7:(o.kind=7)=False:=eq_false (by omega);have e8:(o.kind=8)=False:=eq_false (by omega);rw[if_neg (by omega),if_neg (by omega),if_neg (by omega),if_neg (by omega),if_neg (by omega)]at hq;refine aR (hfd _) (@aa _ (bz @n1 @nb @nb4 @hmd @efi @e9 @e10 (And.intro @e11 (And.intro @e12 (And.intro @e13 (And.intro @e14 (And.intro @e15 (And.intro @e5 (And.intro @e6 (And.intro @e7 @e8)))))))) ?_));refine aw (Xk w0 kT o hlv.1 hlv.2 hz.r) ?_;rintro _ T' ⟨rfl,h',j,f⟩;have t4:=f.box _ _ hbm hT4;refine @aa _ (ah @t4 ?_);exact v7 hq hbS hb4S hST hbm j f (.refl _) _
end Go.Proofs.YtoepfmhnapedoaaGreatDoor
namespace Aml.Y
open Go Go.RowKit
section
variable {P:Program} {w0:W0} {S0 S1:St} {gs ns:List Nat} {ops:Array Oper}
theorem Ic{o:Oper}{t:TypeId}{parts:List (Nat×Operand)}(ho:o.op= .build t parts.toArray){fr:List DV}{d:DV}(h:eS P t ((parts.map (·.1)).zip (parts.map fun p=>ev fr p.2)) (·=d))(S:St):QY P w0 S o fr d:=by
 intro g w ρ h1 h2 hcst;have hR:=jx (g:=g) (ρD:=ev fr) (ρ:=ρ) parts (fun p hp=>h2 p.2 (by simp only[ho,Op.operands];simp;exact⟨p.1,hp⟩));have hlen:(parts.map (·.1)).length=(parts.map fun p=>ev fr p.2).length:=by simp
 obtain⟨d',u,e1,e2,e3⟩:=sk (P:=P) (w:=w) (g:=g) (t:=t) (parts:=(parts.map (·.1)).zip (parts.map fun p=>ev fr p.2)) (vs:=parts.map fun p=>(p.1,ρ p.2)) (by rw[zip_fst hlen];simp) (by rw[sd hlen];simpa[Function.comp_def]using hR) h
 have hrun:(execOp ρ o).run P w= .ok (.value u) w:=by
  have e:(parts.toArray.map fun(i,x)=>(i,ρ x))=(parts.map fun p=>(p.1,ρ p.2)).toArray:=by simp
  simp only[execOp,ho,Sem.run_bind];rw[e,e1];rfl
 rw[hrun];exact⟨g,d',S,.refl g,h1,e2,e3,rfl⟩
theorem wX{i:Nat}{o:Oper}{t:TypeId}{x y:Operand}(ho:ops[i]? =some o)(hop:o.op= .makeSlice t x y)(hgd:o.guard=none)(hc:cls gs ns i o.op=2){fr:List DV}{S:St}{K:List DV→St→Prop}(hv:dX (tk P t) (zD P (dO P t)) (ev fr x) (ev fr y) S (fun d S'=>Hm S0 S'∧K (pt fr o.dst d) S')):eP P w0 S0 S1 gs ns ops i fr S K:=by
 unfold eP;rw[ho];exact .inl ⟨by rw[hgd];rfl,.inr (.inr (.inl ⟨hc,l9 hop hv⟩))⟩
theorem M6{md:Region.Mode}{K:List DV→St→Prop}{n:Nat}{listed:Array Bool}{fr:List DV}{S:St}(R:List Nat)(hr:Region.ready md ops listed=R)(hne:R≠[])(h:∀i,i∈R→eP P w0 S0 S1 gs ns ops i fr S fun fr S=>Ci P w0 S0 S1 gs ns md ops K n (listed.setIfInBounds i true) fr S):Ci P w0 S0 S1 gs ns md ops K (n+1) listed fr S:=by
 refine⟨fun q=>absurd (hr.symm.trans q) hne,fun i hi=>?_⟩;have:=h i (hr▸hi);unfold eP at this ⊢;split at this
 ·exact⟨S,.refl S,this⟩
 ·exact dF (fun fr S q=>⟨S,.refl S,q⟩) this
theorem Np{id:Nat}{l:List Oper}{fr:List DV}{S:St}{Q:Exit→List DV→St→Prop}(hm:P.follows .mixedOrders=true)(h:Ci P w0 S0 S1 gs ns .any l.toArray (fun fr S=>Q .normal fr S) l.length (Array.replicate l.length false) fr S):fV P w0 (.region id l.toArray true) fr S Q:=by
 intro g a' w h1 h2 h3;refine cD hm fun ro=>?_;have hR:Rel w0 g S {w with drawn:=w.drawn+1}:=h1.grow (eK w);have:=gj (ro:=ro) (g0:=g) (Q:=Q) _ _ fr S g a' _ (.refl g) hR h2 (h3.cC rfl fun _ _ h _=>h) h;simpa using this
theorem YN{n m:Nat}(hn:n≤m):∀l':List Nat,l'.Nodup→(∀k,k∈l'→(Array.replicate n false).getD k true=false)→l'.length≤m:=by
 intro l' hd hl
 have hsub:∀k,k∈l'→k∈List.range n:=fun k hk=>by
  have:=hl k hk;rw[ace];rcases abz k n with h|h
  ·exact h
  ·rw[aaI,abG (by simpa using h)]at this;cases this
 have:=hd.length_le_of_subset (l₂:=List.range n) hsub;simp at this;omega
theorem Tu{l:List Oper}(h:l.all (fun o=>eo o.op)=true):∀(i:Nat) (o:Oper),l.toArray[i]? =some o→eo o.op=true:=fun i o ho=>by
 have:l[i]? =some o:=by simpa using ho
 exact aa8.1 h o (aaf this)
end
end Aml.Y
namespace Go.Proofs.YtoepfmhnapedoaaGreatDoor
open Aml Go Rn Lat Grs
def lM(n:Nat):Ob:= .arr 1 (List.replicate n (.sl 0 true []))
def Ee(n:Nat):Ob:= .arr 1 (List.replicate n (dI 0))
structure RS(S T:St)(B:List (Nat×List DV))(n:Nat)(x15 x17 x19 x21:Option Nat):Prop where
 box:T.box=B
 old:∀l o,lk S.acc l=some o→lk T.acc l=some o
 Iy:∀L,x15=some L→lk T.acc L=some (lM n)∧lk S.acc L=none
 G8:∀L,x17=some L→lk T.acc L=some (lM n)∧lk S.acc L=none
 IG:∀L,x19=some L→lk T.acc L=some (Ee n)∧lk S.acc L=none
 Hc:∀L,x21=some L→lk T.acc L=some (lM n)∧lk S.acc L=none
 Zh:∀a b,x15=some a→x17=some b→a≠b
 Zm:∀a b,x15=some a→x19=some b→a≠b
 Zw:∀a b,x15=some a→x21=some b→a≠b
 Yx:∀a b,x17=some a→x19=some b→a≠b
 Yt:∀a b,x17=some a→x21=some b→a≠b
 Yz:∀a b,x19=some a→x21=some b→a≠b
theorem RS.s15{S T:St}{B:List (Nat×List DV)}{n:Nat}{x17 x19 x21:Option Nat}(h:RS S T B n none x17 x19 x21)(l:FN T.acc):RS S ⟨T.box,(l.n,lM n)::T.acc⟩ B n (some l.n) x17 x19 x21:=by
 have hl:=ao l;have old:∀i o,lk T.acc i=some o→i≠l.n∧lk ((l.n,lM n)::T.acc) i=some o:=fun i o q=>⟨fun e=>(by rw[e,hl]at q;cases q),ai hl q⟩
 have new:lk ((l.n,lM n)::T.acc) l.n=some (lM n)∧lk S.acc l.n=none:=⟨ey _ _ _,by
  cases hx:lk S.acc l.n with
  |none=>rfl
  |some v=>rw[h.old _ _ hx]at hl;cases hl⟩
 exact⟨h.box,fun i o q=>ai hl (h.old i o q),fun L q=>(by cases q;exact new),fun L q=>⟨(old _ _ (h.G8 L q).1).2,(h.G8 L q).2⟩,fun L q=>⟨(old _ _ (h.IG L q).1).2,(h.IG L q).2⟩,fun L q=>⟨(old _ _ (h.Hc L q).1).2,(h.Hc L q).2⟩,fun a b q r=>(by cases q;exact abx (old _ _ (h.G8 b r).1).1),fun a b q r=>(by cases q;exact abx (old _ _ (h.IG b r).1).1),fun a b q r=>(by cases q;exact abx (old _ _ (h.Hc b r).1).1),h.Yx,h.Yt,h.Yz⟩
theorem RS.s17{S T:St}{B:List (Nat×List DV)}{n:Nat}{x15 x19 x21:Option Nat}(h:RS S T B n x15 none x19 x21)(l:FN T.acc):RS S ⟨T.box,(l.n,lM n)::T.acc⟩ B n x15 (some l.n) x19 x21:=by
 have hl:=ao l;have old:∀i o,lk T.acc i=some o→i≠l.n∧lk ((l.n,lM n)::T.acc) i=some o:=fun i o q=>⟨fun e=>(by rw[e,hl]at q;cases q),ai hl q⟩
 have new:lk ((l.n,lM n)::T.acc) l.n=some (lM n)∧lk S.acc l.n=none:=⟨ey _ _ _,by
  cases hx:lk S.acc l.n with
  |none=>rfl
  |some v=>rw[h.old _ _ hx]at hl;cases hl⟩
 exact⟨h.box,fun i o q=>ai hl (h.old i o q),fun L q=>⟨(old _ _ (h.Iy L q).1).2,(h.Iy L q).2⟩,fun L q=>(by cases q;exact new),fun L q=>⟨(old _ _ (h.IG L q).1).2,(h.IG L q).2⟩,fun L q=>⟨(old _ _ (h.Hc L q).1).2,(h.Hc L q).2⟩,fun a b q r=>(by cases r;exact(old _ _ (h.Iy a q).1).1),h.Zm,h.Zw,fun a b q r=>(by cases q;exact abx (old _ _ (h.IG b r).1).1),fun a b q r=>(by cases q;exact abx (old _ _ (h.Hc b r).1).1),h.Yz⟩
theorem RS.s19{S T:St}{B:List (Nat×List DV)}{n:Nat}{x15 x17 x21:Option Nat}(h:RS S T B n x15 x17 none x21)(l:FN T.acc):RS S ⟨T.box,(l.n,Ee n)::T.acc⟩ B n x15 x17 (some l.n) x21:=by
 have hl:=ao l;have old:∀i o,lk T.acc i=some o→i≠l.n∧lk ((l.n,Ee n)::T.acc) i=some o:=fun i o q=>⟨fun e=>(by rw[e,hl]at q;cases q),ai hl q⟩
 have new:lk ((l.n,Ee n)::T.acc) l.n=some (Ee n)∧lk S.acc l.n=none:=⟨ey _ _ _,by
  cases hx:lk S.acc l.n with
  |none=>rfl
  |some v=>rw[h.old _ _ hx]at hl;cases hl⟩
 exact⟨h.box,fun i o q=>ai hl (h.old i o q),fun L q=>⟨(old _ _ (h.Iy L q).1).2,(h.Iy L q).2⟩,fun L q=>⟨(old _ _ (h.G8 L q).1).2,(h.G8 L q).2⟩,fun L q=>(by cases q;exact new),fun L q=>⟨(old _ _ (h.Hc L q).1).2,(h.Hc L q).2⟩,h.Zh,fun a b q r=>(by cases r;exact(old _ _ (h.Iy a q).1).1),h.Zw,fun a b q r=>(by cases r;exact(old _ _ (h.G8 a q).1).1),h.Yt,fun a b q r=>(by cases q;exact abx (old _ _ (h.Hc b r).1).1)⟩
theorem RS.s21{S T:St}{B:List (Nat×List DV)}{n:Nat}{x15 x17 x19:Option Nat}(h:RS S T B n x15 x17 x19 none)(l:FN T.acc):RS S ⟨T.box,(l.n,lM n)::T.acc⟩ B n x15 x17 x19 (some l.n):=by
 have hl:=ao l;have old:∀i o,lk T.acc i=some o→i≠l.n∧lk ((l.n,lM n)::T.acc) i=some o:=fun i o q=>⟨fun e=>(by rw[e,hl]at q;cases q),ai hl q⟩
 have new:lk ((l.n,lM n)::T.acc) l.n=some (lM n)∧lk S.acc l.n=none:=⟨ey _ _ _,by
  cases hx:lk S.acc l.n with
  |none=>rfl
  |some v=>rw[h.old _ _ hx]at hl;cases hl⟩
 exact⟨h.box,fun i o q=>ai hl (h.old i o q),fun L q=>⟨(old _ _ (h.Iy L q).1).2,(h.Iy L q).2⟩,fun L q=>⟨(old _ _ (h.G8 L q).1).2,(h.G8 L q).2⟩,fun L q=>⟨(old _ _ (h.IG L q).1).2,(h.IG L q).2⟩,fun L q=>(by cases q;exact new),h.Zh,h.Zm,fun a b q r=>(by cases r;exact(old _ _ (h.Iy a q).1).1),h.Yx,fun a b q r=>(by cases r;exact(old _ _ (h.G8 a q).1).1),fun a b q r=>(by cases r;exact(old _ _ (h.IG a q).1).1)⟩
def UH(n:Nat):Option Nat→DV
 |none=> .any
 |some l=> .acc l n
def zQ(p cf:DV)(n:Nat)(x15 x17 x19 x21:Option Nat):List DV:=[.any,p,.any,.any,.any,dI n,.any,.any,.any,.any,.any,.any,.any,cf,dI n,UH n x15,dI n,UH n x17,dI n,UH n x19,dI n,UH n x21,.any,.any]
theorem Ss(w0:W0)(c:Cf)(hc:zu c)(S:St):
 ab Tryz.prog w0 11 [QK c] S (fun d S'=>(¬Ef c∧d= .cW [.v (.pointer none),dI 1]∧S'=S)∨(Ef c∧∃m L A H D:Nat,d= .cW [bC m,dI 0]∧Has S S'∧lk S.box m=none∧(lk S.acc L=none∧lk S.acc A=none∧lk S.acc H=none∧lk S.acc D=none)∧[L,A,H,D].Nodup∧lk S'.box m=some [.sl 1 false (aA c.nm),dH c.up,iH c.qu,gL c.gr,.acc L c.up.length,.acc A c.up.length,.acc H c.up.length,.acc D c.up.length,.sl 0 true [],.sl 0 true []]∧lk S'.acc L=some (.arr 1 (List.replicate c.up.length (.sl 0 true [])))∧lk S'.acc A=some (.arr 1 (List.replicate c.up.length (.sl 0 true [])))∧lk S'.acc H=some (.arr 1 (List.replicate c.up.length (dI 0)))∧lk S'.acc D=some (.arr 1 (List.replicate c.up.length (.sl 0 true []))))):=by
 have h1:=hc.PL;refine mh [4,5] mx Tryz.func11 rfl rfl (by kernel_rfl) ?_;refine @aa _ (ah @Tryz.ntmps11 ?_);intro b;refine aq (SA _ c hc _) ?_;by_cases hP:Ef c
 case neg=>
  rw[kG hP];refine @aa _ (av ?_);exact⟨_,_,.refl _,.aN (.refl _),.inl ⟨hP,rfl,rfl⟩⟩
 rw[fK hP];refine @aa _ (av ?_);refine oN (σ:=Unit) [] [1,5] (fun _=>[(5,dI c.up.length)]) (fun _=>⟨(b.n,[.sl 1 false (aA c.nm),dH c.up,iH c.qu,gL c.gr])::S.box,S.acc⟩) (fun _=>True) mx (by kernel_rfl) ?_ ?_
 ·refine @aa _ (av ?_);exact⟨(),trivial⟩
 rintro _ _;refine @aa _ (av ?_);obtain⟨S0,hS0⟩:∃S0:St,S0=⟨(b.n,[.sl 1 false (aA c.nm),dH c.up,iH c.qu,gL c.gr])::S.box,[]⟩:=⟨_,rfl⟩;obtain⟨n,hn⟩:∃n:Nat,n=c.up.length:=⟨_,rfl⟩;obtain⟨p,hp⟩:∃p:DV,p= .v (.pointer (some ⟨b.n,0,none⟩)):=⟨_,rfl⟩;obtain⟨cf,hcf⟩:∃cf:DV,cf= .agg [.sl 1 false (aA c.nm),dH c.up,iH c.qu,gL c.gr]:=⟨_,rfl⟩;refine Y.Np (S0:=S0) (S1:=⟨[],[]⟩) (gs:=[2,4,6,8]) (ns:=[]) mx ?_;generalize hops:List.toArray (α:=Oper) _=ops;generalize hlen:List.length (α:=Oper) _=len;have h13:len=13:=by rw[←hlen];rfl
 subst h13;have hnb:n≤1048576:=by omega
 have hsl:∀(i:Nat) (o:Oper),ops[i]? =some o→eo o.op=true:=by rw[←hops];exact Y.Tu (by kernel_rfl)
 have mk2:∀(x17 x19 x21:Option Nat) (T':St) (K:List DV→St→Prop),Y.Hm S0 T'→(∀l:FN T'.acc,K (zQ p cf n (some l.n) x17 x19 x21) ⟨T'.box,(l.n,lM n)::T'.acc⟩)→Y.eP Tryz.prog w0 S0 ⟨[],[]⟩ [2,4,6,8] [] ops 2 (zQ p cf n none x17 x19 x21) T' K:=fun x17 x19 x21 T' K hT hK=>by
  obtain⟨o,g1,g2,g3,g4⟩:∃o,ops[2]? =some o∧o.op= .makeSlice 50 (.tmp 14) (.tmp 14)∧o.guard=none∧o.dst=some 15:=by rw[←hops];exact⟨_,rfl,rfl,rfl,rfl⟩
  refine Y.wX g1 g2 g3 (by rw[g2];rfl) ?_;rw[g4];have hb:=hnb;simp(maxDischargeDepth:=12) (maxSteps:=1000000) -implicitDefEqProofs only[go_sem,Nat.reduceAdd,Nat.reduceSub,Nat.reduceMul,Nat.reduceLeDiff,Nat.reduceEqDiff,Nat.reduceGT,Nat.reduceBEq,reduceCtorEq,↓reduceIte,Int.reduceToNat,Int.reduceLE,Int.reduceLT,Int.reduceNe,Int.reduceEq,zQ];exact⟨by omega,by omega,fun l=>⟨⟨hT.box,fun i o q=>aat _ (hT.acc i o q)⟩,hK l⟩⟩
 have mk4:∀(x15 x19 x21:Option Nat) (T':St) (K:List DV→St→Prop),Y.Hm S0 T'→(∀l:FN T'.acc,K (zQ p cf n x15 (some l.n) x19 x21) ⟨T'.box,(l.n,lM n)::T'.acc⟩)→Y.eP Tryz.prog w0 S0 ⟨[],[]⟩ [2,4,6,8] [] ops 4 (zQ p cf n x15 none x19 x21) T' K:=fun x15 x19 x21 T' K hT hK=>by
  obtain⟨o,g1,g2,g3,g4⟩:∃o,ops[4]? =some o∧o.op= .makeSlice 51 (.tmp 16) (.tmp 16)∧o.guard=none∧o.dst=some 17:=by rw[←hops];exact⟨_,rfl,rfl,rfl,rfl⟩
  refine Y.wX g1 g2 g3 (by rw[g2];rfl) ?_;rw[g4];have hb:=hnb;simp(maxDischargeDepth:=12) (maxSteps:=1000000) -implicitDefEqProofs only[go_sem,Nat.reduceAdd,Nat.reduceSub,Nat.reduceMul,Nat.reduceLeDiff,Nat.reduceEqDiff,Nat.reduceGT,Nat.reduceBEq,reduceCtorEq,↓reduceIte,Int.reduceToNat,Int.reduceLE,Int.reduceLT,Int.reduceNe,Int.reduceEq,zQ];exact⟨by omega,by omega,fun l=>⟨⟨hT.box,fun i o q=>aat _ (hT.acc i o q)⟩,hK l⟩⟩
 have mk6:∀(x15 x17 x21:Option Nat) (T':St) (K:List DV→St→Prop),Y.Hm S0 T'→(∀l:FN T'.acc,K (zQ p cf n x15 x17 (some l.n) x21) ⟨T'.box,(l.n,Ee n)::T'.acc⟩)→Y.eP Tryz.prog w0 S0 ⟨[],[]⟩ [2,4,6,8] [] ops 6 (zQ p cf n x15 x17 none x21) T' K:=fun x15 x17 x21 T' K hT hK=>by
  obtain⟨o,g1,g2,g3,g4⟩:∃o,ops[6]? =some o∧o.op= .makeSlice 24 (.tmp 18) (.tmp 18)∧o.guard=none∧o.dst=some 19:=by rw[←hops];exact⟨_,rfl,rfl,rfl,rfl⟩
  refine Y.wX g1 g2 g3 (by rw[g2];rfl) ?_;rw[g4];have hb:=hnb;simp(maxDischargeDepth:=12) (maxSteps:=1000000) -implicitDefEqProofs only[go_sem,Nat.reduceAdd,Nat.reduceSub,Nat.reduceMul,Nat.reduceLeDiff,Nat.reduceEqDiff,Nat.reduceGT,Nat.reduceBEq,reduceCtorEq,↓reduceIte,Int.reduceToNat,Int.reduceLE,Int.reduceLT,Int.reduceNe,Int.reduceEq,zQ];exact⟨by omega,by omega,fun l=>⟨⟨hT.box,fun i o q=>aat _ (hT.acc i o q)⟩,hK l⟩⟩
 have mk8:∀(x15 x17 x19:Option Nat) (T':St) (K:List DV→St→Prop),Y.Hm S0 T'→(∀l:FN T'.acc,K (zQ p cf n x15 x17 x19 (some l.n)) ⟨T'.box,(l.n,lM n)::T'.acc⟩)→Y.eP Tryz.prog w0 S0 ⟨[],[]⟩ [2,4,6,8] [] ops 8 (zQ p cf n x15 x17 x19 none) T' K:=fun x15 x17 x19 T' K hT hK=>by
  obtain⟨o,g1,g2,g3,g4⟩:∃o,ops[8]? =some o∧o.op= .makeSlice 50 (.tmp 20) (.tmp 20)∧o.guard=none∧o.dst=some 21:=by rw[←hops];exact⟨_,rfl,rfl,rfl,rfl⟩
  refine Y.wX g1 g2 g3 (by rw[g2];rfl) ?_;rw[g4];have hb:=hnb;simp(maxDischargeDepth:=12) (maxSteps:=1000000) -implicitDefEqProofs only[go_sem,Nat.reduceAdd,Nat.reduceSub,Nat.reduceMul,Nat.reduceLeDiff,Nat.reduceEqDiff,Nat.reduceGT,Nat.reduceBEq,reduceCtorEq,↓reduceIte,Int.reduceToNat,Int.reduceLE,Int.reduceLT,Int.reduceNe,Int.reduceEq,zQ];exact⟨by omega,by omega,fun l=>⟨⟨hT.box,fun i o q=>aat _ (hT.acc i o q)⟩,hK l⟩⟩
 generalize hK:(fun(fr:List DV) (S_1:St)=>_)=Kf
 have leaf:∀(L A H D:Nat) (T':St),RS S T' S0.box n (some L) (some A) (some H) (some D)→Y.Ci Tryz.prog w0 S0 ⟨[],[]⟩ [2,4,6,8] [] .any ops Kf 4 #[true,true,true,true,true,true,true,true,true,false,false,false,false] (zQ p cf n (some L) (some A) (some H) (some D)) T':=by
  intro L A H D T' hR;refine Y.oQ (fun T _=>Y.kQ T) [9,10,11,12] _ _ _ (fun l' hd hl=>?_) (by rw[←hops];kernel_rfl) ?_
  ·have key:∀k,k<13→(#[true,true,true,true,true,true,true,true,true,false,false,false,false]:Array Bool).getD k true=false→k∈[9,10,11,12]:=by decide
   exact hd.length_le_of_subset (l₂:=[9,10,11,12]) fun k hk=>by
    rcases abz k 13 with h|h
    ·exact key k h (hl k hk)
    ·have:=hl k hk;rw[aaI,abG (by simpa using h)]at this;cases this
  ·obtain⟨o,g1,g2,g3,g4⟩:∃o,ops[9]? =some o∧o.op= .build 55 [(0,.tmp 13),(1,.tmp 15),(2,.tmp 17),(3,.tmp 19),(4,.tmp 21)].toArray∧o.guard=none∧o.dst=some 22:=by rw[←hops];exact⟨_,rfl,rfl,rfl,rfl⟩
   unfold Y.LO;rw[g1];refine .inl ⟨by rw[g3];rfl,.inl ⟨by rw[g2];rfl,.agg [.sl 1 false (aA c.nm),dH c.up,iH c.qu,gL c.gr,.acc L n,.acc A n,.acc H n,.acc D n,.sl 0 true [],.sl 0 true []],fun S'=>Y.Ic g2 ?_ S',?_⟩⟩
   ·rw[hcf];simp(maxDischargeDepth:=12) (maxSteps:=1000000) -implicitDefEqProofs only[go_sem,Nat.reduceAdd,Nat.reduceSub,Nat.reduceMul,Nat.reduceLeDiff,Nat.reduceEqDiff,Nat.reduceGT,Nat.reduceBEq,reduceCtorEq,↓reduceIte,Int.reduceToNat,Int.reduceLE,Int.reduceLT,Int.reduceNe,Int.reduceEq,zQ,UH]
   ·rw[g4];refine Y.cB hsl _ ?_;rw[←hops,←hK];simp(maxDischargeDepth:=12) (maxSteps:=1000000) -implicitDefEqProofs only[go_sem,Nat.reduceAdd,Nat.reduceSub,Nat.reduceMul,Nat.reduceLeDiff,Nat.reduceEqDiff,Nat.reduceGT,Nat.reduceBEq,reduceCtorEq,↓reduceIte,Int.reduceToNat,Int.reduceLE,Int.reduceLT,Int.reduceNe,Int.reduceEq,zQ,UH];intro mb;have hT':∀i v,lk S.box i=some v→lk T'.box i=some v:=fun i v q=>by rw[hR.box,hS0];exact ai (ao b) q
    have hm0:lk S.box mb.n=none:=by
     cases hx:lk S.box mb.n with
     |none=>rfl
     |some v=>
      have:=ao mb;rw[hT' _ _ hx]at this;cases this
    have nd:[L,A,H,D].Nodup:=by
     simp only[aaV,aaJ,aca,or_false,not_or,not_false_eq_true,acT,and_true];exact⟨⟨hR.Zh _ _ rfl rfl,hR.Zm _ _ rfl rfl,hR.Zw _ _ rfl rfl⟩,⟨hR.Yx _ _ rfl rfl,hR.Yt _ _ rfl rfl⟩,hR.Yz _ _ rfl rfl⟩
    exact⟨_,_,.refl _,.refl _,.inr ⟨hP,mb.n,L,A,H,D,rfl,⟨fun i v q=>ai (ao mb) (hT' i v q),hR.old⟩,hm0,⟨(hR.Iy L rfl).2,(hR.G8 A rfl).2,(hR.IG H rfl).2,(hR.Hc D rfl).2⟩,nd,by rw[←hn];exact ey _ _ _,by rw[←hn];exact(hR.Iy L rfl).1,by rw[←hn];exact(hR.G8 A rfl).1,by rw[←hn];exact(hR.IG H rfl).1,by rw[←hn];exact(hR.Hc D rfl).1⟩⟩
 have node:∀(k:Nat) (x15 x17 x19 x21:Option Nat) (T':St),(x15.isNone.toNat+x17.isNone.toNat+x19.isNone.toNat+x21.isNone.toNat=k)→RS S T' S0.box n x15 x17 x19 x21→Y.Hm S0 T'→Y.Ci Tryz.prog w0 S0 ⟨[],[]⟩ [2,4,6,8] [] .any ops Kf (k+4) #[true,true,x15.isSome,true,x17.isSome,true,x19.isSome,true,x21.isSome,false,false,false,false] (zQ p cf n x15 x17 x19 x21) T':=by
  intro k
  induction k with
  |zero=>
   intro x15 x17 x19 x21 T' hk hR hm
   cases x15 with
   |none=>simp at hk
   |some L=>cases x17 with
    |none=>simp at hk
    |some A=>cases x19 with
     |none=>simp at hk
     |some H=>cases x21 with
      |none=>simp at hk
      |some D=>exact leaf L A H D T' hR
  |succ k ih=>
   intro x15 x17 x19 x21 T' hk hR hm;have hmc:∀(l:FN T'.acc) (r:Ob),Y.Hm S0 ⟨T'.box,(l.n,r)::T'.acc⟩:=fun l r=>⟨hm.box,fun i o q=>aat _ (hm.acc i o q)⟩;refine Y.M6 ((if x15.isNone then [2]else [])++(if x17.isNone then [4]else [])++(if x19.isNone then [6]else [])++(if x21.isNone then [8]else [])) ?_ ?_ ?_
   ·rw[←hops];cases x15 <;>cases x17 <;>cases x19 <;>cases x21 <;>first|(simp at hk;done)|kernel_rfl
   ·cases x15 <;>cases x17 <;>cases x19 <;>cases x21 <;>simp at hk ⊢
   ·intro i hi;simp only[aaD]at hi;rcases hi with((hi|hi)|hi)|hi
    ·cases x15 with
     |some _=>simp at hi
     |none=>
      have hi:i=2:=by simpa using hi
      subst hi;exact mk2 _ _ _ _ _ hm fun l=>ih (some l.n) x17 x19 x21 _ (by simp at hk ⊢;omega) (hR.s15 l) (hmc l _)
    ·cases x17 with
     |some _=>simp at hi
     |none=>
      have hi:i=4:=by simpa using hi
      subst hi;exact mk4 _ _ _ _ _ hm fun l=>ih x15 (some l.n) x19 x21 _ (by simp at hk ⊢;omega) (hR.s17 l) (hmc l _)
    ·cases x19 with
     |some _=>simp at hi
     |none=>
      have hi:i=6:=by simpa using hi
      subst hi;exact mk6 _ _ _ _ _ hm fun l=>ih x15 x17 (some l.n) x21 _ (by simp at hk ⊢;omega) (hR.s19 l) (hmc l _)
    ·cases x21 with
     |some _=>simp at hi
     |none=>
      have hi:i=8:=by simpa using hi
      subst hi;exact mk8 _ _ _ _ _ hm fun l=>ih x15 x17 x19 (some l.n) _ (by simp at hk ⊢;omega) (hR.s21 l) (hmc l _)
 refine Y.L2 (m:=8) (G:=fun fr T=>fr=zQ p cf n none none none none∧T=⟨S0.box,S.acc⟩) (F:=fun x=>x== #[true,true,false,true,false,true,false,true,false,false,false,false,false]) (fun T _=>Y.kQ T) ?_ [1,3,5,7,0] _ _ _ (Y.YN (n:=13) (by decide)) (by rw[←hops];kernel_rfl) (Y.cB hsl _ ?_)
 ·rintro listed fr T' hF hcnt ⟨rfl,rfl⟩;have hF:=eq_of_beq hF;subst hF;exact node 4 none none none none _ rfl ⟨rfl,fun _ _ q=>q,fun _ q=>(by cases q),fun _ q=>(by cases q),fun _ q=>(by cases q),fun _ q=>(by cases q),fun _ _ q=>(by cases q),fun _ _ q=>(by cases q),fun _ _ q=>(by cases q),fun _ _ q=>(by cases q),fun _ _ q=>(by cases q),fun _ _ q=>(by cases q)⟩ (by rw[hS0];exact⟨fun i x q=>bV q,fun i o q=>(by cases q)⟩)
 ·rw[←hops,hS0];refine @aa _ (av ?_);rw[hp,hn,hcf];rfl
theorem rP{a b:DV}(h:Wk a b):∀n:Nat,ej (List.replicate n a) (List.replicate n b)
 |0=>trivial
 |n+1=>⟨h,rP h n⟩
theorem QF(w0:W0)(c:Cf)(hc:zu c)(S:St):ab Tryz.prog w0 11 [QK c] S (fun d S'=>(¬Ef c∧d= .cW [.v (.pointer none),dI 1]∧S'=S)∨(Ef c∧∃h,d= .cW [bC h.m,dI 0]∧jf S' h c (LU c.up.length)∧Has S S'∧lk S.box h.m=none∧∀i,i∈h.ax→lk S.acc i=none)):=by
 refine D3 (Ss w0 c hc S) ?_;rintro d S' (⟨h1,rfl,rfl⟩|⟨hP,m,L,A,H,D,rfl,hHas,hm,⟨f1,f2,f3,f4⟩,hnd,b0,c1,c2,c3,c4⟩) g w u hR hu
 ·exact⟨g,_,_,.refl g,hR,hu,.inl ⟨h1,rfl,rfl⟩⟩
 simp only[aaV,aaJ,aca,or_false,not_or,not_false_eq_true,acT,and_true]at hnd;obtain⟨⟨a1,a2,a3⟩,⟨b1,b2⟩,d1⟩:=hnd;have hwk:ej [.sl 1 false (aA c.nm),dH c.up,iH c.qu,gL c.gr,.acc L c.up.length,.acc A c.up.length,.acc H c.up.length,.acc D c.up.length,.sl 0 true [],.sl 0 true []] [.sl 1 false (aA c.nm),dH c.up,iH c.qu,gL c.gr,.acc L c.up.length,.acc A c.up.length,.acc H c.up.length,.acc D c.up.length,.sl 5 false [],.sl 0 true []]:=⟨.refl _,.refl _,.refl _,.refl _,.refl _,.refl _,.refl _,.refl _,.nil _ _ _,.refl _,trivial⟩;have R1:=hR.Am b0 fun us e _ r=>hwk.spec r;obtain⟨P,g',hle,R2⟩:=R1.Pr m 9 4 (by omega) (bd b0) rfl;have hPn:lk S'.acc P.n=none:=ao P;have hPne:∀i v,lk S'.acc i=some v→i≠P.n:=fun i v q e=>by rw[e,hPn]at q;cases q
 have z1:=hPne _ _ c1;have z2:=hPne _ _ c2;have z3:=hPne _ _ c3;have z4:=hPne _ _ c4
 have hPS:lk S.acc P.n=none:=by
  cases hx:lk S.acc P.n with
  |none=>rfl
  |some v=>rw[hHas.acc _ _ hx]at hPn;cases hPn
 have e1:=ai (y:=Ob.arr 4 []) hPn c1;have e2:=ai (y:=Ob.arr 4 []) hPn c2;have e3:=ai (y:=Ob.arr 4 []) hPn c3;have e4:=ai (y:=Ob.arr 4 []) hPn c4;have R3:=R2.JB (ys:=List.replicate c.up.length (dQ [])) e1 (rP (Wk.nil _ _ _) _);have R4:=R3.JB (ys:=List.replicate c.up.length (sP [])) (by show lk (Aml.up _ L _) A=_;rw[ae a1];exact e2) (rP (Wk.nil _ _ _) _);have R5:=R4.JB (ys:=List.replicate c.up.length (dQ [])) (by show lk (Aml.up (Aml.up _ L _) A _) D=_;rw[ae b2,ae a3];exact e4) (rP (Wk.nil _ _ _) _);refine⟨g',_,_,hle,R5,hu.mono hle,.inr ⟨hP,⟨m,L,A,H,D,P.n⟩,rfl,⟨?_,?_,?_,?_,?_,?_,?_,by simp[LU],by simp[LU],by simp[LU],hc.A8⟩,⟨fun i v q=>?_,fun i v q=>?_⟩,hm,fun i q=>?_⟩⟩
 ·show lk (Aml.up (Aml.up S'.box m _) m _) m=some (pE c L A H D (List.replicate c.up.length ([]:List En)).length _ _);rw[List.length_replicate];exact bd (bd b0)
 ·show lk (Aml.up (Aml.up (Aml.up _ L _) A _) D _) L=some (Ob.arr 1 ((List.replicate c.up.length ([]:List En)).map dQ));rw[ae (abx a3),ae (abx a1),adT];exact bd e1
 ·show lk (Aml.up (Aml.up (Aml.up _ L _) A _) D _) A=some (Ob.arr 1 ((List.replicate c.up.length ([]:List Cs)).map sP));rw[ae (abx b2),adT];exact bd (by rw[ae a1];exact e2)
 ·show lk (Aml.up (Aml.up (Aml.up _ L _) A _) D _) H=some (Ob.arr 1 ((List.replicate c.up.length (0:Int)).map dI));rw[ae (abx d1),ae b1,ae a2,adT];exact e3
 ·show lk (Aml.up (Aml.up (Aml.up _ L _) A _) D _) D=some (Ob.arr 1 ((List.replicate c.up.length ([]:List En)).map dQ));rw[adT];exact bd (by rw[ae b2,ae a3];exact e4)
 ·show lk (Aml.up (Aml.up (Aml.up _ L _) A _) D _) P.n=_;rw[ae z4,ae z2,ae z1];exact ey _ _ _
 ·unfold RG.ax;simp only[aaV,aaJ,aca,or_false,not_or,not_false_eq_true,acT,and_true];exact⟨⟨a1,a2,a3,z1⟩,⟨b1,b2,z2⟩,⟨d1,z3⟩,z4⟩
 ·have:i≠m:=fun e=>by rw[e,hm]at q;cases q
  show lk (Aml.up (Aml.up S'.box m _) m _) i=some v;rw[ae (abx this),ae (abx this)];exact hHas.box i v q
 ·have n1:L≠i:=fun e=>by rw[←e,f1]at q;cases q
  have n2:A≠i:=fun e=>by rw[←e,f2]at q;cases q
  have n4:D≠i:=fun e=>by rw[←e,f4]at q;cases q
  show lk (Aml.up (Aml.up (Aml.up _ L _) A _) D _) i=some v;rw[ae n4,ae n2,ae n1];exact ai hPn (hHas.acc i v q)
 ·unfold RG.ax at q;simp only[aaJ,aca,or_false]at q;rcases q with rfl|rfl|rfl|rfl|rfl <;>assumption
end Go.Proofs.YtoepfmhnapedoaaGreatDoor
namespace Go.Proofs.YtoepfmhnapedoaaGreatDoor
open Aml Go Rn Lat Grs
theorem TV{w0:W0}{S:St}{o:aV}{full:Bool}:
 ab Tryz.prog w0 12 [.v (.pointer none),uB o,dB full] S (fun d S'=>Wk d (uM (dP 1))∧Has S S'):=by
 refine vP fun nb na=>?_;refine sw (P:=Tryz.prog) (fn:=Tryz.f12) (cl:=32) (caps:=[6]) (t1:=8) Tryz.func12 rfl rfl ⟨rfl,rfl,rfl⟩ ⟨rfl,rfl,rfl⟩ (by kernel_rfl) (by kernel_rfl) ⟨rfl,by rw[Tryz.ntmps12];decide,by simp⟩ ?_;refine C4 ?_;simp(maxDischargeDepth:=12) (maxSteps:=1000000) -implicitDefEqProofs only[go_sem,Nat.reduceAdd,Nat.reduceSub,Nat.reduceMul,Nat.reduceLeDiff,Nat.reduceEqDiff,Nat.reduceGT,Nat.reduceBEq,reduceCtorEq,↓reduceIte,Int.reduceToNat,Int.reduceLE,Int.reduceLT,Int.reduceNe,Int.reduceEq,Tryz.ntmps12];intro b4 b6;have n1:=an b6 b4.n (by simp(maxDischargeDepth:=12) (maxSteps:=1000000) -implicitDefEqProofs only[go_sem,Nat.reduceAdd,Nat.reduceSub,Nat.reduceMul,Nat.reduceLeDiff,Nat.reduceEqDiff,Nat.reduceGT,Nat.reduceBEq,reduceCtorEq,↓reduceIte,Int.reduceToNat,Int.reduceLE,Int.reduceLT,Int.reduceNe,Int.reduceEq])
 have h6S:lk S.box b6.n=none:=by
  have q:=ao b6;simp only[lk]at q;rw[if_neg (fun e=>by rw[←n1];exact e.symm)]at q;exact q
 obtain⟨X,hX⟩:∃X:St,X=⟨(b6.n,[dI 0,dI 0,.sl 0 true [],dI 0,dI 0,dI 0,dI 0,.sl 0 true []])::(b4.n,[dI o.kind,dI o.level,dI o.az,dI o.snap,dS (tx o.bucket),dS (tx o.key),dS (tx o.value),dI o.label,dI o.cz,dI o.n,.sl 1 false (aA o.cC)])::S.box,S.acc⟩:=⟨_,rfl⟩;have hHX:Has S X:=by rw[hX];exact⟨fun b x q=>ai (ao b6) (ai (ao b4) q),fun _ _ q=>q⟩
 have x6:lk X.box b6.n=some [dI 0,dI 0,.sl 0 true [],dI 0,dI 0,dI 0,dI 0,.sl 0 true []]:=by rw[hX];simp(maxDischargeDepth:=12) (maxSteps:=1000000) -implicitDefEqProofs only[go_sem,Nat.reduceAdd,Nat.reduceSub,Nat.reduceMul,Nat.reduceLeDiff,Nat.reduceEqDiff,Nat.reduceGT,Nat.reduceBEq,reduceCtorEq,↓reduceIte,Int.reduceToNat,Int.reduceLE,Int.reduceLT,Int.reduceNe,Int.reduceEq]
 obtain⟨pq,hpq⟩:∃pq:DV→St→Prop,pq=fun d T=>d= .jM 33 (dI 1)∧Has X T:=⟨_,rfl⟩;subst hX;refine⟨[.pointer (some ⟨b6.n,0,none⟩)],rfl,pq,?_,?_,?_⟩
 ·refine gp (ss:=[3,6,10,11,12]) _ (by kernel_rfl) ?_;simp(maxDischargeDepth:=12) (maxSteps:=1000000) -implicitDefEqProofs only[go_sem,Nat.reduceAdd,Nat.reduceSub,Nat.reduceMul,Nat.reduceLeDiff,Nat.reduceEqDiff,Nat.reduceGT,Nat.reduceBEq,reduceCtorEq,↓reduceIte,Int.reduceToNat,Int.reduceLE,Int.reduceLT,Int.reduceNe,Int.reduceEq];refine aw (aI _ false 1 _ fun _ T hT=>?_) ?_
  ·rw[hpq];exact⟨rfl,hT⟩
  rintro _ _ ⟨q,_⟩;cases q
 ·intro w;exact eY (zR (fz none) (fun _=>trivial) rfl ⟨b6.n,0,none⟩ w) fun e u w' h=>⟨⟨_,h.1⟩,h.2.1,h.2.2⟩
 ·rintro g0 T w v d r hv hq;rw[hpq]at hq;obtain⟨rfl,hFT⟩:=hq;obtain⟨u,rfl,hu⟩:=kN hv;have hu:=ay hu;subst hu;have t6:lk T.box b6.n=some [dI 0,dI 0,.sl 0 true [],dI 0,dI 0,dI 0,dI 0,.sl 0 true []]:=hFT.box _ _ x6;obtain⟨us,e1,hh,hru,hone,hset⟩:=r.xA (ds':=[dI 1,dI 0,.sl 0 true [],dI 0,dI 0,dI 0,dI 0,.sl 0 true []]) t6;have hus:us.size=8:=by have:=hru.len;simpa using this.symm
  refine eY (DB (fz none) (fun _=>trivial) rfl b6.n e1 us 1 [] w hh hus) ?_;rintro e' u' w' ⟨h1,h2,h3⟩;refine⟨⟨_,h1⟩,h2,g0,⟨up T.box b6.n [dI 1,dI 0,.sl 0 true [],dI 0,dI 0,dI 0,dI 0,.sl 0 true []],T.acc⟩,.refl g0,?_,?_⟩
  ·rw[h3];refine hset _ ?_ ?_
   ·exact af.cons (.v _ rfl) (af.cons (.v _ rfl) (af.cons (.nil 0 true none 0 fun _=>rfl) (af.cons (.v _ rfl) (af.cons (.v _ rfl) (af.cons (.v _ rfl) (af.cons (.v _ rfl) (af.cons (.nil 0 true none 0 fun _=>rfl) (af.nil _))))))))
   ·intro u hu;simp at hu
    repeat' first|(rcases hu with rfl|hu;rfl)|(subst hu;rfl)
  ·simp(maxDischargeDepth:=12) (maxSteps:=1000000) -implicitDefEqProofs only[go_sem,Nat.reduceAdd,Nat.reduceSub,Nat.reduceMul,Nat.reduceLeDiff,Nat.reduceEqDiff,Nat.reduceGT,Nat.reduceBEq,reduceCtorEq,↓reduceIte,Int.reduceToNat,Int.reduceLE,Int.reduceLT,Int.reduceNe,Int.reduceEq,t6];refine⟨.agg ⟨.refl _,.refl _,.nil _ _ _,.refl _,.refl _,.refl _,.refl _,.nil _ _ _,trivial⟩,fun i v q=>?_,fun i v q=>hFT.acc i v q⟩;show lk (up T.box b6.n _) i=_;rw[ae (fun e=>by rw[←e,h6S]at q;cases q)];exact hFT.box i v (hHX.box i v q)
theorem U3{w0:W0}{S:St}{o:aV}{full:Bool}:ab Tryz.prog w0 12 [.v (.pointer none),uB o,dB full] S (fun d S'=>d=uM (dP 1)∧Has S S'):=
 iL TV (ej.refl _) fun d S' h=>⟨_,h.1,rfl,h.2⟩
theorem OQ(w0:W0)(x:Int)(S:St):ab Tryz.prog w0 15 [.v (.pointer none),dI x] S (fun d S'=>d=dI 0∧S'=S):=by
 refine bI [] mx Tryz.func15 rfl rfl (by kernel_rfl) ?_;simp(maxDischargeDepth:=12) (maxSteps:=1000000) -implicitDefEqProofs only[Tryz.ntmps15,go_sem,Nat.reduceAdd,Nat.reduceSub,Nat.reduceMul,Nat.reduceLeDiff,Nat.reduceEqDiff,Nat.reduceGT,Nat.reduceBEq,reduceCtorEq,↓reduceIte,Int.reduceToNat,Int.reduceLE,Int.reduceLT,Int.reduceNe,Int.reduceEq];refine aq (ofN w0 x _) ?_;simp(maxDischargeDepth:=12) (maxSteps:=1000000) -implicitDefEqProofs only[go_sem,Nat.reduceAdd,Nat.reduceSub,Nat.reduceMul,Nat.reduceLeDiff,Nat.reduceEqDiff,Nat.reduceGT,Nat.reduceBEq,reduceCtorEq,↓reduceIte,Int.reduceToNat,Int.reduceLE,Int.reduceLT,Int.reduceNe,Int.reduceEq]
theorem Bq(w0:W0)(x:Int)(S:St):ab Tryz.prog w0 17 [.v (.pointer none),dI x] S (fun d S'=>d= .sl 0 true []∧S'=S):=by
 refine bI [] mx Tryz.func17 rfl rfl (by kernel_rfl) ?_;simp(maxDischargeDepth:=12) (maxSteps:=1000000) -implicitDefEqProofs only[Tryz.ntmps17,go_sem,Nat.reduceAdd,Nat.reduceSub,Nat.reduceMul,Nat.reduceLeDiff,Nat.reduceEqDiff,Nat.reduceGT,Nat.reduceBEq,reduceCtorEq,↓reduceIte,Int.reduceToNat,Int.reduceLE,Int.reduceLT,Int.reduceNe,Int.reduceEq];refine aq (ofN w0 x _) ?_;simp(maxDischargeDepth:=12) (maxSteps:=1000000) -implicitDefEqProofs only[go_sem,Nat.reduceAdd,Nat.reduceSub,Nat.reduceMul,Nat.reduceLeDiff,Nat.reduceEqDiff,Nat.reduceGT,Nat.reduceBEq,reduceCtorEq,↓reduceIte,Int.reduceToNat,Int.reduceLE,Int.reduceLT,Int.reduceNe,Int.reduceEq]
end Go.Proofs.YtoepfmhnapedoaaGreatDoor
namespace Go.Proofs.YtoepfmhnapedoaaGreatDoor
open Aml Go Rn Lat Grs
structure yN(T:St)(ga gb:MG)(N:Nat)(c:Cf)(a b:bM):Prop where
 Ia:MI T ga N c a
 Ib:MI T gb N c b
 Ma:ij N c a
 Mb:ij N c b
 db:∀i,i∈ga.bx→i∉gb.bx
 da:∀i,ga.own i≠ .no→gb.own i= .no
section
variable {T T':St} {ga gb g':MG} {N:Nat} {c:Cf} {a b a':bM}
theorem yN.symm(h:yN T ga gb N c a b):yN T gb ga N c b a:=⟨h.Ib,h.Ia,h.Mb,h.Ma,fun i q r=>h.db i r q,fun i q=>abF fun r=>q (h.da i r)⟩
theorem yN.step(h:yN T ga gb N c a b)(hI:MI T' g' (N+1) c a')(hM:ij (N+1) c a')(hF:iO T T' ga g'):yN T' g' gb (N+1) c a' b:=
 ⟨hI,h.Ib.to (abp N) (fun i v q r=>hF.box i v (fun e=>h.db i e q) r) (fun i v q r=>hF.acc i v (abF fun e=>q (h.da i e)) r),hM,h.Mb.le (abp N),
  fun i q r=>(hF.nb i q).elim (fun e=>h.db i e r) fun e=>h.Ib.ny r e,fun i q=>(hF.na i q).elim (h.da i) fun e=>abF fun r=>h.Ib.mU i r e⟩
theorem yN.has(h:yN T ga gb N c a b)(k:Has T T'):yN T' ga gb N c a b:=⟨h.Ia.has k,h.Ib.has k,h.Ma,h.Mb,h.db,h.da⟩
theorem yN.le{M:Nat}(h:yN T ga gb N c a b)(k:N≤M):yN T ga gb M c a b:=⟨h.Ia.le k,h.Ib.le k,h.Ma.le k,h.Mb.le k,h.db,h.da⟩
theorem yN.new(h:MI T ga N c a)(hM:ij N c a)(hA:zV T T' gb)(hI:MI T' gb N c b)(hMb:ij N c b):yN T' ga gb N c a b:=
 ⟨h.has hA.out,hI,hM,hMb,fun i q=>by
  obtain⟨v,hv⟩:=bF (h.ny q);exact(hA.box i v hv).no,fun i q=>by
  obtain⟨v,hv⟩:=bF (h.mU i q);exact(hA.acc i v hv).no⟩
theorem yN.out(h:yN T ga gb N c a b)(n:FN T.box)(v:List DV):l5 ⟨(n.n,v)::T.box,T.acc⟩ ga n.n v∧l5 ⟨(n.n,v)::T.box,T.acc⟩ gb n.n v:=⟨h.Ia.Jz n v,h.Ib.Jz n v⟩
end
theorem l5.two{T T':St}{ga gb g':MG}{i:Nat}{v:List DV}(h:l5 T ga i v)(k:l5 T gb i v)(hF:iO T T' ga g'):l5 T' g' i v∧l5 T' gb i v:=⟨h.fr hF,(h.fr hF).at_,k.no⟩
@[go_sem] def Qf (r:pr):List DV:=[dI r.e,dI r.n,.sl 3 false (r.rows.map oR),dI 0,dI 0,dI 0,dI 0,.sl 6 false (r.rz.map uA)]
structure HI1(ma mb ll:Nat)(c:Cf)(x:Int)(bc:Nat)(s:Nat×St×MG×MG×bM×bM):Prop where
 le:s.1≤ll
 ma:s.2.2.1.m=ma
 mb:s.2.2.2.1.m=mb
 W:yN s.2.1 s.2.2.1 s.2.2.2.1 (2*s.1) c s.2.2.2.2.1 s.2.2.2.2.2
 A:l5 s.2.1 s.2.2.1 bc [.sl 1 false (aA c.nm),dH c.up,iH c.qu,gL c.gr]
 B:l5 s.2.1 s.2.2.2.1 bc [.sl 1 false (aA c.nm),dH c.up,iH c.qu,gL c.gr]
 H:Hd (fun k=>gM c.up k x=true) s.2.2.2.2.1 s.2.2.2.2.2
end Go.Proofs.YtoepfmhnapedoaaGreatDoor
namespace Go.Proofs.YtoepfmhnapedoaaGreatDoor
open Aml Go Rn Lat Grs
structure Jn(T:St)(g:MG)(h:RG)(N:Nat)(c:Cf)(μ:bM)(m:fU):Prop where
 I:MI T g N c μ
 R:jf T h c m
 db:h.m∉g.bx
 da:∀i,i∈h.ax→g.own i= .no
structure Ot(T:St)(g:MG)(h:RG)(b:Nat)(v:List DV):Prop where
 at_:lk T.box b=some v
 no:b∉g.bx
 nr:b≠h.m
section
variable {T T':St} {g g':MG} {h h':RG} {N:Nat} {c:Cf} {μ μ':bM} {m m':fU} {b:Nat} {v:List DV}
theorem Jn.vo(J:Jn T g h N c μ m)(hI:MI T' g' (N+1) c μ')(hF:iO T T' g g'):Jn T' g' h (N+1) c μ' m:=by
 have ka:∀i v,i∈h.ax→lk T.acc i=some v→lk T'.acc i=some v:=fun i v q1 q2=>hF.acc i v (J.da i q1) q2;refine⟨hI,⟨hF.box _ _ J.db J.R.md,ka _ _ (by simp[RG.ax]) J.R.L,ka _ _ (by simp[RG.ax]) J.R.A,ka _ _ (by simp[RG.ax]) J.R.H,ka _ _ (by simp[RG.ax]) J.R.D,ka _ _ (by simp[RG.ax]) J.R.P,J.R.nd,J.R.la,J.R.lh,J.R.ld,J.R.up⟩,fun q=>?_,fun i q=>abF fun r=>?_⟩
 ·exact(hF.nb _ q).elim J.db fun e=>by rw[J.R.md]at e;cases e
 ·rcases hF.na i r with z|z
  ·exact z (J.da i q)
  ·obtain⟨o,ho⟩:=J.R.xn q;rw[ho]at z;cases z
theorem Jn.rn(J:Jn T g h N c μ m)(hR:jf T' h' c m')(hF:qQ T T' h h'):Jn T' g h' N c μ m':=by
 refine⟨J.I.to (aar _) (fun i v q1 q2=>hF.box i v (fun e=>J.db (e▸q1)) q2) (fun i v q1 q2=>hF.acc i v (fun r=>q1 (J.da i r)) q2),hR,by rw[hF.m];exact J.db,fun i q=>?_⟩;rcases hF.na i q with r|r
 ·exact J.da i r
 ·exact abF fun z=>J.I.mU i z r
theorem Jn.has(J:Jn T g h N c μ m)(q:Has T T'):Jn T' g h N c μ m:=⟨J.I.has q,J.R.has q,J.db,J.da⟩
theorem Jn.ot(J:Jn T g h N c μ m)(b:FN T.box)(v:List DV):Ot ⟨(b.n,v)::T.box,T.acc⟩ g h b.n v:=⟨ey _ _ _,fun q=>J.I.ny q (ao b),fun e=>by
 have:=ao b;rw[e,J.R.md]at this;cases this⟩
theorem Ot.vo(o:Ot T g h b v)(hF:iO T T' g g'):Ot T' g' h b v:=⟨hF.box _ _ o.no o.at_,fun q=>(hF.nb _ q).elim o.no fun e=>(by rw[o.at_]at e;cases e),o.nr⟩
theorem Ot.rn(o:Ot T g h b v)(hF:qQ T T' h h'):Ot T' g h' b v:=⟨hF.box _ _ o.nr o.at_,o.no,by rw[hF.m];exact o.nr⟩
theorem Jn.upB(J:Jn T g h N c μ m)(o:Ot T g h b v)(v':List DV):Jn ⟨Aml.up T.box b v',T.acc⟩ g h N c μ m:=
 ⟨J.I.to (aar _) (fun i w q1 q2=>by show lk (Aml.up _ _ _) i=_;rw[ae (fun e=>o.no (by rw[e];exact q1))];exact q2) fun _ _ _ q=>q,⟨by show lk (Aml.up _ _ _) _=_;rw[ae o.nr];exact J.R.md,J.R.L,J.R.A,J.R.H,J.R.D,J.R.P,J.R.nd,J.R.la,J.R.lh,J.R.ld,J.R.up⟩,J.db,J.da⟩
theorem Ot.upS(o:Ot T g h b v)(v':List DV):Ot ⟨Aml.up T.box b v',T.acc⟩ g h b v':=⟨bd o.at_,o.no,o.nr⟩
theorem Ot.PL(o:Ot T g h b v){a:Nat}(hne:a≠b)(w:List DV):Ot ⟨Aml.up T.box a w,T.acc⟩ g h b v:=⟨by show lk (Aml.up _ _ _) _=_;rw[ae hne];exact o.at_,o.no,o.nr⟩
theorem Ot.has(o:Ot T g h b v)(q:Has T T'):Ot T' g h b v:=⟨q.box _ _ o.at_,o.no,o.nr⟩
end
structure P16(gm:Nat)(h:RG)(N:Nat)(c:Cf)(q:pr×bM)(m:fU)(bc:Nat)(cv:List DV)(s:St×MG×Nat):Prop where
 J:Jn s.1 s.2.1 h N c q.2 m
 gm:s.2.1.m=gm
 r:Ot s.1 s.2.1 h s.2.2 (Qf q.1)
 cb:Ot s.1 s.2.1 h bc cv
structure P17(g:MG)(hm:Nat)(N:Nat)(c:Cf)(q:pr×bM)(p:pr×fU)(bc br:Nat)(cv:List DV)(s:St×RG×Nat):Prop where
 J:Jn s.1 g s.2.1 N c q.2 p.2
 hm:s.2.1.m=hm
 r:Ot s.1 g s.2.1 br (Qf q.1)
 p:Ot s.1 g s.2.1 s.2.2 (Qf p.1)
 cb:Ot s.1 g s.2.1 bc cv
structure DI(gm hm ll:Nat)(c:Cf)(bc:Nat)(cv:List DV)(s:Nat×St×MG×RG×bM×fU):Prop where
 le:s.1≤ll
 gm:s.2.2.1.m=gm
 hm:s.2.2.2.1.m=hm
 J:Jn s.2.1 s.2.2.1 s.2.2.2.1 s.1 c s.2.2.2.2.1 s.2.2.2.2.2
 M:ij s.1 c s.2.2.2.2.1
 F:Rf s.1 s.2.2.2.2.2 s.2.2.2.2.1
 cb:Ot s.2.1 s.2.2.1 s.2.2.2.1 bc cv
theorem T8{N:Nat}{m:fU}{μ:bM}(h:Rf N m μ){c:Cf}(hM:ij N c μ){x:Nat}{l:List En}(hx:m.l[x]? =some l):l.length≤N∧∀e,e∈l→e.b.length≤1000∧e.k.length≤1000:=by
 have hlt:=(aad.1 hx).1;rw[h.l]at hlt;have hy:μ.l[x]? =some μ.l[x]:=aac hlt;have hm:=acH hlt;generalize μ.l[x]=y at hy hm;obtain⟨e,d,q1,_,_,_,q5⟩:=h.at_ x y hy;rw[hx]at q1;cases q1;have hz:=(hM.sz y hm).1;refine⟨q5.nF,fun e he=>?_⟩;rcases(q5.F.mem e).1 he with⟨k1,k2,k3⟩|⟨k1,f,k2,k3⟩
 ·obtain⟨f,hf⟩:=abr.1 k3;exact⟨(hz _ f hf).1,by rw[k1];exact aa6 _⟩
 ·exact⟨(hz _ f k2).1,((hz _ f k2).2 _ _ k3).1⟩
section
variable {N:Nat} {m:fU} {μ:bM} {c:Cf} {o:aV} {T:St} {θ:fI}
theorem SS(h:Rf N m μ)(hM:ij N c μ)(hT:TI T θ μ.r)(hN:N≤10000):RSz m where
 n:=by rw[h.l];exact hM.n
 r:=by rw[h.r];have:=hM.r;omega
 s:=fun s hs=>by
  rw[h.r]at hs;have h1:=xp hT hM.la hs;have h2:=hM.la s hs;have h3:=hM.CA.la s hs;exact⟨by omega,h3,by omega⟩
 ps:=by have:=h.pn;omega
 pl:=fun p hp=>by
  have:=h.pl p hp;exact⟨by rw[this.1,h.l],fun e he=>by have:=this.2 e he;omega⟩
 l:=fun e he=>by
  obtain⟨x,hx⟩:=abv.1 he;have hlt:=(aad.1 hx).1;rw[h.l]at hlt;have hy:μ.l[x]? =some μ.l[x]:=aac hlt;have hm:=acH hlt;generalize μ.l[x]=y at hy hm;obtain⟨e',d,q1,_,_,_,q5⟩:=h.at_ x y hy;rw[hx]at q1;cases q1;have hz:=(hM.sz y hm).1;refine⟨by have:=q5.nF;omega,fun z hz'=>?_⟩;rcases(q5.F.mem z).1 hz' with⟨k1,k2,k3⟩|⟨k1,f,k2,k3⟩
  ·rw[k2];exact aa6 _
  ·have:=((hz _ f k2).2 _ _ k3).2;omega
 d:=fun e he=>by
  obtain⟨x,hx⟩:=abv.1 he;have hlt:=(aad.1 hx).1;rw[h.ld]at hlt;obtain⟨e',d,_,_,_,q4,q5⟩:=h.at_ x _ (aac hlt);rw[hx]at q4;cases q4;have:=q5.nD;omega
 a:=fun e he=>by
  obtain⟨x,hx⟩:=abv.1 he;have hlt:=(aad.1 hx).1;rw[h.la]at hlt;have hm:=acH hlt;obtain⟨e',d,_,q2,_,_,q5⟩:=h.at_ x _ (aac hlt);rw[hx]at q2;cases q2;have:=hM.au _ hm;omega
theorem Gw(h:Rf N m μ)(hN:N≤10000):∀x,x<m.l.length→(ed m o x).length≤10000:=fun x hx=>by
 obtain⟨e,d,q1,q2,q3,q4,q5⟩:=h.at_ x _ (aac (by rw[←h.l];exact hx));have z1:=q5.nF;have z2:=q5.nD;unfold ed;split
 ·rename_i p hp;split at hp
  ·have hm:=List.mem_of_find?_eq_some hp;have hl:=h.pl p hm;have hy:p.l[x]? =some (p.l[x]'(by rw[hl.1,←h.l];exact hx)):=aac _;rw[bJ hy];have:=hl.2 _ (acH (by rw[hl.1,←h.l];exact hx));omega
  ·cases hp
 ·rw[bJ q4,bJ q1];split <;>omega
theorem Pu(h:Rf N m μ)(hM:ij N c μ)(hT:TI T θ μ.r)(hN:N≤10000)(lv n:Int):(lL m.r lv n).length≤1000000:=by
 rw[h.r];unfold lL;split
 ·rename_i s hs;have:=xp hT hM.la (aaf hs);omega
 ·simp
end
theorem V0{w0:W0}(hgT:jv w0)(hk:KU w0)(hgO:qZ w0)(hgC:nE w0)(c:Cf)(hc:zu c)(l:List aV)(full:List Bool)(hl:l.length≤1048576)(hfl:full.length≤4611686018427387904)(S:St):ab Tryz.prog w0 3 [QK c,Pv l,.sl 1 false (full.map dB)] S (fun d S'=>d=dB true):=by
 have hgr:=hc.XU;have hu:=hc.A8;refine lO [16,17] mx Tryz.func3 rfl rfl (by kernel_rfl) ?_;refine @aa _ (ah @Tryz.ntmps3 ?_);intro b;refine aw (Td hgT hk hgO hgC _) ?_;rintro _ T ⟨rfl,hT⟩;have hbx:=hT.box b.n _ (ey _ _ _);refine @aa _ (ah @hbx ?_);refine aq (RE w0 l (by omega) _) (@aa _ (ah @hbx ?_));intro hsm hup hnm hfl2;have hsm:=abe.1 hsm;have hl120:=hsm.2;refine aw (Vj hgT hk c hc _) ?_;rintro _ T0 (⟨hP,rfl,rfl⟩|⟨hP,g0,rfl,hI0,k1,k2,k3,k4⟩)
 ·refine @aa _ (ah @hbx ?_);refine aw (QF w0 c hc _) ?_;rintro _ T1 (⟨_,rfl,rfl⟩|⟨h,_⟩)
  ·exact @aa _ bY
  ·exact absurd h hP
 have hM0:ij 0 c (uV c.up.length):=WU hP (by omega);have hA0:zV T T0 g0:= .new k1 k2 k3 k4;have hB0:=hA0.box _ _ hbx;have hbx0:=hB0.at_;refine @aa _ (ah @hbx0 ?_);refine aw (QF w0 c hc _) ?_;rintro _ T1 (⟨h,_⟩|⟨_,h0,rfl,hR0,hH0,hm0,ha0⟩)
 ·exact absurd hP h
 have hJ0:Jn T1 g0 h0 0 c (uV c.up.length) (LU c.up.length):=⟨hI0.has hH0,hR0,fun q=>hI0.ny q hm0,fun i q=>abF fun r=>hI0.mU i r (ha0 i q)⟩;have hO0:Ot T1 g0 h0 b.n [.sl 1 false (aA c.nm),dH c.up,iH c.qu,gL c.gr]:=⟨hH0.box _ _ hbx0,hB0.no,fun e=>by rw[e,hm0]at hbx0;cases hbx0⟩;refine @aa _ (av ?_);refine fZ [16,17] [1,2,3,9,11,13] (σ:=Nat×St×MG×RG×bM×fU) (fun s=>[(1,Pv l),(2,.sl 1 false (full.map dB)),(3,.v (.pointer (some ⟨b.n,0,none⟩))),(9,bC g0.m),(11,bC h0.m),(13,dI s.1)]) (fun s=>s.2.1) (DI g0.m h0.m l.length c b.n [.sl 1 false (aA c.nm),dH c.up,iH c.qu,gL c.gr]) (fun s=>l.length-s.1) (0,T1,g0,h0,uV c.up.length,LU c.up.length) mx (by kernel_rfl) ⟨⟨aa6 _,rfl,rfl,hJ0,hM0,rf0 _,hO0⟩,?_⟩ ?_
 ·exact @aa _ bY
 rintro⟨i,T2,g,h,μ,m⟩ ⟨hi,hgm,hhm,hJ,hM,hF,hcb⟩;simp only at hi hgm hhm hJ hM hF hcb;have e1:IntKind.i64.wrap ((i:Int)+1)=((i+1:Nat):Int):=aJ (by omega);have hbx2:=hcb.at_;have hnl:=hM.nl;by_cases hil:i<l.length
 ·have hx:l[i]? =some l[i]:=aac hil;have hy:full[i]? =some (full[i]'(by omega)):=aac _;have hilT:(i<l.length)=True:=eq_true hil;have hifT:(i<full.length)=True:=eq_true (by omega);generalize l[i]=o at hx;generalize full[i]'_=fu at hy;refine @aa _ (eQ @hx @hy @e1 @hilT @hifT ?_);rw[←hgm,←hhm];refine oN (σ:=St×MG×Nat) [16] [1,2,3,9,11,13,14] (fun s=>[(14,.v (.pointer (some ⟨s.2.2,0,none⟩)))]) (fun s=>s.1) (P16 g.m h (i+1) c (iy fw c μ o fu) m b.n [.sl 1 false (aA c.nm),dH c.up,iH c.qu,gL c.gr]) mx (by kernel_rfl) ?_ ?_
  ·refine Y.Rj ⟨[],[]⟩ ⟨[],[]⟩ [9,10] [] (.br [0,1,2,3,4,5,6,7,8] 9 (.ord [10,11]) 10 (.ord [9,11])) mx (by kernel_rfl) (fun T _=>Y.kQ T) ?_;refine @aa _ (aZ @hx @hy @hilT @hifT ?_);refine⟨?_,fun br=>?_⟩
   ·refine aw (Ze (o:=o) (full:=fu) hgO hgC hJ.I hM hgr (by omega)) ?_;rintro _ T3 ⟨rfl,g',j1,j2⟩;have hJ':=hJ.vo j1 j2;refine @aa _ (av ?_);intro br;exact⟨(⟨(br.n,Qf (iy fw c μ o fu).1)::T3.box,T3.acc⟩,g',br.n),⟨hJ'.has (jn br _),j2.m,hJ'.ot br _,(hcb.vo j2).has (jn br _)⟩,.refl _,.refl _⟩
   ·have hbr:=jn br [dI 0,dI 0,.sl 0 true [],dI 0,dI 0,dI 0,dI 0,.sl 0 true []];refine aw (Ze (o:=o) (full:=fu) hgO hgC (hJ.has hbr).I hM hgr (by omega)) ?_;rintro _ T3 ⟨rfl,g',j1,j2⟩;have hJ':=(hJ.has hbr).vo j1 j2;have o1:=(hJ.ot br [dI 0,dI 0,.sl 0 true [],dI 0,dI 0,dI 0,dI 0,.sl 0 true []]).vo j2;have o1a:=o1.at_;have f1:=an br b.n (by rw[hbx2];rfl);refine @aa _ (ah @o1a ?_);exact⟨(⟨Aml.up T3.box br.n (Qf (iy fw c μ o fu).1),T3.acc⟩,g',br.n),⟨hJ'.upB o1 _,j2.m,o1.upS _,((hcb.has hbr).vo j2).PL (by rw[Ne,f1];exact id) _⟩,.refl _,.refl _⟩
  rintro⟨T3,g',ba⟩ ⟨hJ',hgm',hra,hcb'⟩;simp only at hJ' hgm' hra hcb';refine @aa _ (av ?_);obtain⟨hE,hFn⟩:=VG (o:=o) (full:=fu) hF hM;have hRS:=SS hF hM hJ.I.tb (by omega);have hcl:c.up.length=m.l.length:=by rw[←hnl,hF.l]
  have hse:=Gw (o:=o) hF (by omega:i≤10000);have hss:=Pu hF hM hJ.I.tb (by omega:i≤10000) o.level o.az;refine oN (σ:=St×RG×Nat) [17] [1,2,3,9,11,13,14,15] (fun s=>[(15,.v (.pointer (some ⟨s.2.2,0,none⟩)))]) (fun s=>s.1) (P17 g' h.m (i+1) c (iy fw c μ o fu) (Mf c m o fu) b.n ba [.sl 1 false (aA c.nm),dH c.up,iH c.qu,gL c.gr]) mx (by kernel_rfl) ?_ ?_
  ·refine Y.Rj ⟨[],[]⟩ ⟨[],[]⟩ [9,10] [] (.br [0,1,2,3,4,5,6,7,8] 9 (.ord [10,11]) 10 (.ord [9,11])) mx (by kernel_rfl) (fun T _=>Y.kQ T) ?_;refine @aa _ (aZ @hx @hy @hilT @hifT ?_);refine⟨?_,fun br=>?_⟩
   ·refine aw (WC w0 hJ'.R hRS o fu hcl (by omega) hse hss) ?_;rintro _ T4 ⟨rfl,h',j1,j2⟩;have hK':=hJ'.rn j1 j2;refine @aa _ (av ?_);intro br;exact⟨(⟨(br.n,Qf (Mf c m o fu).1)::T4.box,T4.acc⟩,h',br.n),⟨hK'.has (jn br _),j2.m,(hra.rn j2).has (jn br _),hK'.ot br _,(hcb'.rn j2).has (jn br _)⟩,.refl _,.refl _⟩
   ·have hbr:=jn br [dI 0,dI 0,.sl 0 true [],dI 0,dI 0,dI 0,dI 0,.sl 0 true []];refine aw (WC w0 (hJ'.has hbr).R hRS o fu hcl (by omega) hse hss) ?_;rintro _ T4 ⟨rfl,h',j1,j2⟩;have hK':=(hJ'.has hbr).rn j1 j2;have o1:=(hJ'.ot br [dI 0,dI 0,.sl 0 true [],dI 0,dI 0,dI 0,dI 0,.sl 0 true []]).rn j2;have o1a:=o1.at_;have f1:=an br b.n (by rw[hcb'.at_];rfl);have f2:=an br ba (by rw[hra.at_];rfl);refine @aa _ (ah @o1a ?_);exact⟨(⟨Aml.up T4.box br.n (Qf (Mf c m o fu).1),T4.acc⟩,h',br.n),⟨hK'.upB o1 _,j2.m,((hra.has hbr).rn j2).PL (by rw[Ne,f2];exact id) _,o1.upS _,((hcb'.has hbr).rn j2).PL (by rw[Ne,f1];exact id) _⟩,.refl _,.refl _⟩
  rintro⟨T4,h',bb⟩ ⟨hK,hhm',hra2,hrb,hcb2⟩;simp only at hK hhm' hra2 hrb hcb2;rw[hE]at hrb;have y1:=hra2.at_;have y2:=hrb.at_;have y3:=hcb2.at_;have hsz:=Wz (dg:=fw) (c:=c) (o:=o) (full:=fu) hM.n;have hM':=A4 (o:=o) (full:=fu) hM;generalize (iy fw c μ o fu).1=r at hra2 hrb y1 y2 hsz;generalize (iy fw c μ o fu).2=μ' at hK hFn hM';generalize (Mf c m o fu).2=m' at hK hFn;refine @aa _ (cK @y1 @y2 ?_);refine aq (Tm w0 r r (by omega) (by omega) _) ?_;rw[fK rfl];refine @aa _ (cK @y1 @y2 ?_);rw[←hgm',←hhm'];have hmd:=hK.R.md;have hHr:=hK.R.H;have hlh:=hK.R.lh;have hll:m'.l.length=c.up.length:=by rw[hFn.l,hM'.nl]
  unfold pE at hmd;refine aQ [] c.up.length [1,2,3,9,11,13,16] (fun k=>[(16,dI k)]) (fun k=>T4) (fun _=>True) mx (by kernel_rfl) ?_ ?_
  ·exact @aa _ bY
  intro kk hkk _;have e2:IntKind.i64.wrap ((kk:Int)+1)=((kk+1:Nat):Int):=aJ (by omega);by_cases hkl:kk<c.up.length
  ·have hkT:(kk<c.up.length)=True:=eq_true hkl;obtain⟨en,dn,p0,p1,p2,p3,p4,p5⟩:=hFn.mM (x:=(kk:Int)) (by omega) (by rw[hM'.nl];omega);have hent:=hFn.Zv (x:=(kk:Int)) (by omega) (by rw[hM'.nl];omega);rw[acI]at p1 p3 hent;rw[bJ p1]at hent;have hez:=T8 hFn hM' p1;have hbl:=hK.I.Zv (by omega) (kk:Int) (by rw[hM'.nl];omega);have t1:(kk<m'.l.length)=True:=eq_true (by omega);refine @aa _ (cL @y3 @e2 @hkT ?_);refine aR (IC _ hK.I (kk:Int)) (@aa _ (eQ @hmd @hHr @p3 @hlh @t1 ?_));refine aR (zF _ hK.I hM' (by omega) (x:=(kk:Int)) (by rw[hM'.nl];omega)) (@aa _ (av ?_));refine aR (GM _ hK.R.md hK.R.L rfl p1 (by omega) hez.2) ?_;rw[hent];refine @aa _ (av ?_);refine aR (Ji w0 (nU (kk:Int) (aE μ' (kk:Int)).F) (nU (kk:Int) (aE μ' (kk:Int)).F) (by omega) _) ?_;rw[fK rfl];refine @aa _ (ah @e2 ?_);exact hkl
  ·have hkF:(kk<c.up.length)=False:=eq_false hkl;refine @aa _ (cL @y3 @hkF @e1 ?_);exact⟨(i+1,T4,g',h',μ',m'),⟨hil,rfl,rfl,hK,hM',hFn,hcb2⟩,by show l.length-(i+1)<l.length-i;omega,rfl,.refl _⟩
 ·have hilF:(i<l.length)=False:=eq_false hil;rw[←hgm];refine @aa _ (ah @hilF ?_);refine aw (U3 (w0:=w0) (S:=T2) (o:=⟨0,0,0,0,[],[],[],0,0,0,[]⟩) (full:=false)) ?_ ⟨.refl _,JX (o:=⟨0,0,0,0,[],[],[],0,0,0,[]⟩) rfl,.refl _,trivial⟩;rintro _ T5 ⟨rfl,hH5⟩;have hJ5:=hJ.has hH5;refine @aa _ (av ?_);intro b18;have hJ6:=hJ5.has (jn b18 (Qf (dP 1)));refine⟨fun _=>?_,fun q=>absurd rfl q⟩;refine aq (OQ w0 0 _) (@aa _ (av ?_));refine aq (Bq w0 0 _) (@aa _ (av ?_));refine aq (IC _ hJ6.I (-1)) ?_;rw[y0 (x:= -1) (by omega)];refine @aa _ (av ?_);refine aq (JS _ hJ6.I (x:=99) (by omega)) ?_;exact @aa _ bY
end Go.Proofs.YtoepfmhnapedoaaGreatDoor
namespace Go.Proofs.YtoepfmhnapedoaaGreatDoor
open Aml Go Go.RowKit Go.ChangeShapes
def gW(W:World):Gh:=⟨fun b i=>W.cell? ⟨b,i,none⟩,fun _ _=>none,fun _=>none,[]⟩
theorem A6{w0:W0}{W:World}(hw:w0.w={W with drawn:=0})(h:w0.gh.sub (gW W)):Rel w0 (gW W) ⟨[],[]⟩ W:=by
 have hh:w0.heap=W.heap:=by unfold W0.heap;rw[hw]
 exact⟨⟨by rw[hh,hw];exact⟨rfl,rfl,rfl,aar _,fun _ _=>rfl,aa6 _⟩,fun _ _ h=>(by cases h),h⟩,fun _ _ _ h=>h,by simp,by simp,fun _ _ _ h=>(by cases h),⟨0,fun _ _ _=>rfl⟩,fun _ _ h=>(by cases h),fun _=>none,fun _ _ h=>(by cases h),fun _ _ h=>(by cases h)⟩
def Rd(P:Program)(W:World)(t:TypeId){α:Type}(en:α→List DV)(sz:α→Nat)(ok:α→Prop):Prop:=
 ∀(H:Type) (enc:TypeId×Value→H) (n:Nat) (cs:List Value) (x:DataW H×List MemPlace),DataW.trod enc P W 0 (fun _=>true) true n t cs=some x→
  ∃a,ok a∧sz a≤Rows.uptoBulk x.1∧af (gW W) (en a) cs∧∀u,u∈cs→u.oneCell'=true
section
variable {P:Program} {W:World}
theorem Rd.conv{t:TypeId}{α β:Type}{en:α→List DV}{sz:α→Nat}{ok:α→Prop}{en':β→List DV}{sz':β→Nat}{ok':β→Prop}(h:Rd P W t en sz ok)(f:α→β)(he:∀a,en a=en' (f a))(hs:∀a,sz' (f a)≤sz a)(ho:∀a,ok a→ok' (f a)):Rd P W t en' sz' ok':=
 fun H enc n cs x hx=>let⟨a,h1,h2,h3,h4⟩:=h H enc n cs x hx;⟨f a,ho a h1,ack (hs a) h2,by rw[←he];exact h3,h4⟩
theorem JK{t:TypeId}(k:IntKind)(ht:P.underlying t=some (.int k)):Rd P W t (fun n:Int=>[.v (.int k n)]) (fun _=>1) (fun n=>(Lit.int k n).wf=true):=by
 intro H enc n cs x hx;obtain⟨m,rfl,rfl,hw⟩:=DataW.trod_int ht hx;exact⟨m,hw,by simp[Rows.uptoBulk],af.cons (.v _ rfl) (af.nil _),by simp[Value.oneCell']⟩
theorem AZ{t:TypeId}(ht:P.underlying t=some (.int .i64)):Rd P W t (fun n:Int=>[dI n]) (fun _=>1) (fun n=> -9223372036854775808≤n∧n≤9223372036854775807):=
 (JK .i64 ht).conv id (fun _=>rfl) (fun _=>aar _) fun _ h=>bounds_i64 h
theorem Sq{t:TypeId}(ht:P.underlying t=some (.int .u64)):Rd P W t (fun n:Int=>[dU n]) (fun _=>1) (fun n=>0≤n∧n≤18446744073709551615):=
 (JK .u64 ht).conv id (fun _=>rfl) (fun _=>aar _) fun _ h=>bounds_u64 h
theorem OC{t:TypeId}(ht:P.underlying t=some .bool):Rd P W t (fun b:Bool=>[dB b]) (fun _=>1) (fun _=>True):=by
 intro H enc n cs x hx;obtain⟨m,rfl,rfl⟩:=DataW.trod_bool ht hx;exact⟨m,trivial,by simp[Rows.uptoBulk],af.cons (.v _ rfl) (af.nil _),by simp[Value.oneCell']⟩
theorem Lc{t:TypeId}(ht:P.underlying t=some .string):Rd P W t (fun s:ByteArray=>[dS s]) (fun s=>s.size+1) (fun _=>True):=by
 intro H enc n cs x hx;obtain⟨s,rfl,rfl,hs⟩:=DataW.trod_string ht hx;exact⟨s,trivial,(show s.size+1≤s.data.toList.length+1 by rw[acs];exact aar _),af.cons (.v _ rfl) (af.nil _),by simp[Value.oneCell']⟩
theorem vI{α:Type}{Q:Nat→α→Prop}:∀(n:Nat),(∀i,i<n→∃a,Q i a)→∃l:List α,l.length=n∧∀(i:Nat) (a:α),l[i]? =some a→Q i a
 |0,_=>⟨[],rfl,by simp⟩
 |n+1,h=>by
  obtain⟨l,h1,h2⟩:=vI n fun i hi=>h i (by omega);obtain⟨a,ha⟩:=h n (by omega);refine⟨l++[a],by simp[h1],fun i b hb=>?_⟩;by_cases hi:i<n
  ·rw[abE (by omega)]at hb;exact h2 i b hb
  ·have hlt:i<(l++[a]).length:=(aad.1 hb).1;have:i=n:=by simp at hlt;omega
   subst this;rw[abl (by omega),h1]at hb;simp at hb;subst hb;exact ha
theorem Av{H α:Type}{sz:α→Nat}:∀{l:List α} {es:List (DataW H)},l.length=es.length→(∀(i:Nat) (a:α) (e:DataW H),l[i]? =some a→es[i]? =some e→sz a≤Rows.uptoBulk e)→(l.map sz).sum≤Rows.uptoBulkAll es
 |[],[],_,_=>by simp[Rows.uptoBulkAll]
 |[],_::_,h,_=>by simp at h
 |_::_,[],h,_=>by simp at h
 |a::l,e::es,h,hs=>by
  have h1:=hs 0 a e rfl rfl;have h2:=Av (l:=l) (es:=es) (by simpa using h) fun i a e x y=>hs (i+1) a e (by simpa using x) (by simpa using y);simp only[abB,ac6,Rows.uptoBulkAll];omega
theorem nQ{a:Addr}{k:Nat}{cs:List Value}(h:W.cells? 0 a k=some cs):cs.length=k∧∀j,j<k→W.cell? (a.add j)=cs[j]? :=by
 unfold World.cells? at h;rw[if_pos (aa6 _)]at h;exact⟨by simpa using mapM_some_length h,fun j hj=>mapM_some_get h j j (by simp[hj])⟩
theorem vr{t e:TypeId}{α:Type}{en:α→List DV}{sz:α→Nat}{ok:α→Prop}(h:Rd P W e en sz ok)(ht:P.underlying t=some (.slice e)){k:Nat}(hk:P.cellsOf e=k)(hk0:0<k)(enE:α→DV)(mk:List Value→Value)
 (hmk:∀a cs,af (gW W) (en a) cs→(∀u,u∈cs→u.oneCell'=true)→cs.length=k→aG (gW W) (enE a) (mk cs)∧(mk cs).cells.toList=cs):
 Rd P W t (fun l:List α=>[.sl k false (l.map enE)]) (fun l=>(l.map sz).sum+1) (fun l=>∀a,a∈l→ok a):=by
 intro H enc n cs x hx;rcases DataW.trod_slice ht hx with⟨rfl,rfl⟩|⟨a,len,cap,elems,rest,n',rfl,rfl,rfl, -,hlc,hcm,hel,hget, -, -⟩
 ·exact⟨[],by simp,by simp[Rows.uptoBulk],af.cons (.nil _ _ _ _ (by simp)) (af.nil _),by simp[Value.oneCell']⟩
 ·have hq:∀i,i<len→∃p:α×List Value,ok p.1∧(∀y,elems[i]? =some y→sz p.1≤Rows.uptoBulk y.1)∧W.cells? 0 (a.add (i*k)) k=some p.2∧af (gW W) (en p.1) p.2∧∀u,u∈p.2→u.oneCell'=true:=by
   intro i hi;have h1:=hget i hi;rw[hk]at h1;have h2:elems[i]? =some elems[i]:=aac (by omega);rw[h2,acJ]at h1;obtain⟨ci,hc,htr⟩:=h1;obtain⟨b,b1,b2,b3,b4⟩:=h H enc n' ci _ htr;exact⟨(b,ci),b1,fun y hy=>by rw[h2]at hy;cases hy;exact b2,hc,b3,b4⟩
  obtain⟨ps,hpl,hps⟩:=vI len hq;refine⟨ps.map (·.1),fun b hb=>?_,?_,?_,by simp[Value.oneCell']⟩
  ·obtain⟨p,hp,rfl⟩:=aaT.1 hb;obtain⟨i,hi⟩:=List.getElem?_of_mem hp;exact(hps i p hi).1
  ·have:=Av (sz:=sz) (l:=ps.map (·.1)) (es:=elems.map (·.1)) (by simp[hpl,hel]) fun i b e x y=>by
    rw[aaE,aay]at x y;obtain⟨p,hp,rfl⟩:=x;obtain⟨y,hy,rfl⟩:=y;exact(hps i p hp).2.1 y hy
   simp only[Rows.uptoBulk];omega
  ·refine af.cons ?_ (af.nil _);by_cases h0:len=0
   ·subst h0;have:ps=[]:=aa0 hpl;subst this;exact .nil _ _ _ _ (by simp)
   ·have hspot:a.spot=none:=by
     obtain⟨p,hp⟩:∃p,ps[0]? =some p:=⟨_,aac (by omega)⟩;obtain⟨hl,hc⟩:=nQ (hps 0 p hp).2.2.1;have:=hc 0 (by omega);rw[aac (by omega)]at this;simp only[Nat.zero_mul,Addr.add,if_true]at this;unfold World.cell? at this;split at this
     ·split at this
      ·cases this
      ·rename_i hs;simpa using hs
     ·cases this
    obtain⟨b,o,sp⟩:=a;simp only at hspot;subst hspot;have hus:(ps.map fun p=>mk p.2).length=len:=by simp[hpl]
    have hmk':∀(i:Nat) (p:α×List Value),ps[i]? =some p→aG (gW W) (enE p.1) (mk p.2)∧(mk p.2).cells.toList=p.2∧p.2.length=k:=fun i p hp=>by
     have hc:=(nQ (hps i p hp).2.2.1).1;have:=hmk p.1 p.2 (hps i p hp).2.2.2.1 (hps i p hp).2.2.2.2 hc;exact⟨this.1,this.2,hc⟩
    have:=aG.sl (g:=gW W) k false ((ps.map (·.1)).map enE) b o cap (ps.map fun p=>mk p.2) (by simp) (by simp) (by rw[hus];exact hlc) hcm
     (fun i d u hd hu=>by
      simp only[adu,aaE,aay]at hd hu;obtain⟨p,hp,rfl⟩:=hd;obtain⟨q,hq,rfl⟩:=hu;rw[hp]at hq;cases hq;exact(hmk' i p hp).1)
     (fun i u hu=>by
      rw[aaE,aay]at hu;obtain⟨p,hp,rfl⟩:=hu;have:=hmk' i p hp;rw[←acs,this.2.1,this.2.2])
     (fun u hu x hx=>by
      obtain⟨p,hp,rfl⟩:=aaT.1 hu;obtain⟨i,hi⟩:=List.getElem?_of_mem hp;rw[(hmk' i p hi).2.1]at hx;exact(hps i p hi).2.2.2.2 x hx)
     (fun i u j x hu hx=>by
      rw[aaE,aay]at hu;obtain⟨p,hp,rfl⟩:=hu;have hm:=hmk' i p hp;have hc:=(nQ (hps i p hp).2.2.1).2;rw[←acv,hm.2.1]at hx;have hj:j<k:=by rw[←hm.2.2];exact(aad.1 hx).1
      have:=hc j hj;rw[hx]at this;show W.cell? ⟨b,o+i*k+j,none⟩=some x
      have e:(Addr.add ⟨b,o,none⟩ (i*k)).add j=⟨b,o+i*k+j,none⟩:=by
       unfold Addr.add;split <;>split <;>simp_all
      rw[←e];exact this)
    rw[hus]at this;exact this
theorem mP{t e:TypeId}{α:Type}{en:α→DV}{sz:α→Nat}{ok:α→Prop}(h:Rd P W e (fun a=>[en a]) sz ok)(ht:P.underlying t=some (.slice e))(hk:P.cellsOf e=1):
 Rd P W t (fun l:List α=>[.sl 1 false (l.map en)]) (fun l=>(l.map sz).sum+1) (fun l=>∀a,a∈l→ok a):=
 vr h ht hk (by omega) en (fun cs=>cs.headD undef) fun a cs hr h1 hl=>by
  obtain⟨u,us,rfl,r1,r2⟩:=hr.dJ;have:us=[]:=aa0 (by simpa using hl);subst this;have hu:=h1 u aaQ;refine⟨r1,?_⟩;cases u <;>simp_all [Value.cells,Value.oneCell']
theorem u6{t e:TypeId}{α:Type}{en:α→List DV}{sz:α→Nat}{ok:α→Prop}(h:Rd P W e en sz ok)(ht:P.underlying t=some (.slice e)){k:Nat}(hk:P.cellsOf e=k)(hk0:0<k):
 Rd P W t (fun l:List α=>[.sl k false (l.map fun a=> .agg (en a))]) (fun l=>(l.map sz).sum+1) (fun l=>∀a,a∈l→ok a):=
 vr h ht hk hk0 (fun a=> .agg (en a)) (fun cs=> .agg cs.toArray) fun a cs hr h1 hl=>⟨.agg _ _ hr.len hr.at_ h1,rfl⟩
def XP(P:Program)(W:World)(total off:Nat)(fs:List Field){α:Type}(en:α→List DV)(sz:α→Nat)(ok:α→Prop):Prop:=
 ∀(H:Type) (enc:TypeId×Value→H) (n:Nat) (cs:List Value) (xs:List (DataW H×List MemPlace)),cs.length=total→xs.length=fs.length→
  (∀(i:Nat) (f:Field),fs[i]? =some f→DataW.trod enc P W 0 (fun _=>true) true n f.type ((cs.drop f.offset).take (P.cellsOf f.type))=xs[i]?)→
  ∃a,ok a∧sz a≤Rows.uptoBulkAll (xs.map (·.1))∧af (gW W) (en a) (cs.drop off)∧∀u,u∈cs.drop off→u.oneCell'=true
theorem xM{total:Nat}:XP P W total total [] (fun _:Unit=>[]) (fun _=>0) (fun _=>True):=by
 intro H enc n cs xs hc hx hg;refine⟨(),trivial,aa6 _,?_,?_⟩
 ·rw[List.drop_eq_nil_of_le (by omega)];exact af.nil _
 ·rw[List.drop_eq_nil_of_le (by omega)];simp
theorem bO{total off k:Nat}{f:Field}{fs:List Field}{α β:Type}{en:α→List DV}{sz:α→Nat}{ok:α→Prop}{en':β→List DV}{sz':β→Nat}{ok':β→Prop}(h:Rd P W f.type en sz ok)(hf:f.offset=off)(hk:P.cellsOf f.type=k)(h':XP P W total (off+k) fs en' sz' ok'):
 XP P W total off (f::fs) (fun p:α×β=>en p.1++en' p.2) (fun p=>sz p.1+sz' p.2) (fun p=>ok p.1∧ok' p.2):=by
 intro H enc n cs xs hc hx hg
 cases xs with
 |nil=>simp at hx
 |cons x xs=>
  have h0:=hg 0 f rfl;rw[hf,hk]at h0;obtain⟨a,a1,a2,a3,a4⟩:=h H enc n _ x h0;obtain⟨b,b1,b2,b3,b4⟩:=h' H enc n cs xs hc (by simpa using hx) fun i f hf=>by have:=hg (i+1) f (by simpa using hf);simpa using this
  have e:cs.drop off=(cs.drop off).take k++cs.drop (off+k):=by rw[←acP,adf]
  refine⟨(a,b),⟨a1,b1⟩,?_,?_,?_⟩
  ·simp only[abB,Rows.uptoBulkAll];omega
  ·rw[e];exact a3.append b3
  ·intro u hu;rw[e,aaD]at hu;exact hu.elim (a4 u) (b4 u)
theorem qK{t:TypeId}{fs:Array Field}{α:Type}{en:α→List DV}{sz:α→Nat}{ok:α→Prop}(ht:P.underlying t=some (.struct fs)){total:Nat}(hc:P.cellsOf t=total){fl:List Field}(hfl:fs.toList=fl)(h:XP P W total 0 fl en sz ok):
 Rd P W t en (fun a=>sz a+1) ok:=by
 intro H enc n cs x hx;subst hfl;obtain⟨xs,n',rfl,rfl,h1,h2,h3⟩:=DataW.trod_struct ht hx;obtain⟨a,a1,a2,a3,a4⟩:=h H enc n' cs xs (by rw[h1,hc]) (by simpa using h2) fun i f hf=>h3 i f (by simpa using hf);exact⟨a,a1,by simp only[Rows.uptoBulk];omega,by simpa using a3,by simpa using a4⟩
def UY(P:Program)(W:World)(ts:List TypeId){α:Type}(en:α→List DV)(sz:α→Nat)(ok:α→Prop):Prop:=
 ∀(H:Type) (enc:TypeId×Value→H) (base:Nat) (vs:List Value) (ds:List (DataW H)) (p:List MemPlace),(∀(j:Nat) t v,ts[j]? =some t→vs[j]? =some v→Value.okWide P W .any base t v)→DataW.TrodAll enc P W 0 (fun _=>true) true ts vs ds p→
  ∃a,ok a∧sz a≤Rows.uptoBulkAll ds∧af (gW W) (en a) vs
theorem MZ:UY P W [] (fun _:Unit=>[]) (fun _=>0) (fun _=>True):=by
 intro H enc base vs ds p hv h;obtain⟨rfl,rfl,rfl⟩:=trodAll_nil h;exact⟨(),trivial,aa6 _,af.nil _⟩
def RW(P:Program)(t:TypeId):Bool:=match P.underlying t with
 |some .bool|some .string|some (.int _)|some (.slice _)=>true
 |_=>false
theorem BA{t:TypeId}(ht:RW P t=true){base:Nat}{v:Value}(h:Value.okWide P W .any base t v):v.cells= #[v]∧v.oneCell'=true:=by
 unfold RW at ht;unfold Value.okWide Cell.okWide Cell.ok at h;split at ht
 ·rename_i hu;rw[hu]at h;cases v <;>simp_all [Value.cells,Value.oneCell']
 ·rename_i hu;rw[hu]at h;cases v <;>simp_all [Value.cells,Value.oneCell']
 ·rename_i hu;rw[hu]at h;cases v <;>simp_all [Value.cells,Value.oneCell']
 ·rename_i hu;rw[hu]at h;cases v <;>simp_all [Value.cells,Value.oneCell']
 ·cases ht
theorem DF{t:TypeId}{ts:List TypeId}{α β:Type}{en:α→DV}{sz:α→Nat}{ok:α→Prop}{en':β→List DV}{sz':β→Nat}{ok':β→Prop}(h:Rd P W t (fun a=>[en a]) sz ok)(ht:RW P t=true)(h':UY P W ts en' sz' ok'):
 UY P W (t::ts) (fun p:α×β=>en p.1::en' p.2) (fun p=>sz p.1+sz' p.2) (fun p=>ok p.1∧ok' p.2):=by
 intro H enc base vs ds p hv hA;obtain⟨v,vs',d,ds',p1,q1,rfl,rfl,rfl,h1,h2⟩:=trodAll_cons hA;obtain⟨b,b1,b2,b3⟩:=h' H enc base vs' ds' q1 (fun j t v x y=>hv (j+1) t v (by simpa using x) (by simpa using y)) h2;obtain⟨n,hn⟩:=h1;obtain⟨a,a1,a2,a3,a4⟩:=h H enc n _ _ hn;obtain⟨hc,ho⟩:=BA ht (hv 0 t v rfl rfl);rw[hc]at a3;refine⟨(a,b),⟨a1,b1⟩,by simp only[Rows.uptoBulkAll];simp only at a2;omega,af.cons ?_ b3⟩;obtain⟨u,us,he,r1,r2⟩:=a3.dJ;simp only[adz]at he;rw[he.1];exact r1
theorem Nj{t:TypeId}{ts:List TypeId}{fs:Array Field}{α β:Type}{en:α→List DV}{sz:α→Nat}{ok:α→Prop}{en':β→List DV}{sz':β→Nat}{ok':β→Prop}(h:Rd P W t en sz ok)(ht:P.underlying t=some (.struct fs))(h':UY P W ts en' sz' ok'):
 UY P W (t::ts) (fun p:α×β=> .agg (en p.1)::en' p.2) (fun p=>sz p.1+sz' p.2) (fun p=>ok p.1∧ok' p.2):=by
 intro H enc base vs ds p hv hA;obtain⟨v,vs',d,ds',p1,q1,rfl,rfl,rfl,h1,h2⟩:=trodAll_cons hA;obtain⟨b,b1,b2,b3⟩:=h' H enc base vs' ds' q1 (fun j t v x y=>hv (j+1) t v (by simpa using x) (by simpa using y)) h2;obtain⟨n,hn⟩:=h1;obtain⟨a,a1,a2,a3,a4⟩:=h H enc n _ _ hn;have ho:=hv 0 t v rfl rfl;unfold Value.okWide at ho;rw[ht]at ho;obtain⟨cs,rfl,_,_⟩:=ho;refine⟨(a,b),⟨a1,b1⟩,by simp only[Rows.uptoBulkAll];simp only at a2;omega,af.cons ?_ b3⟩;have:(Value.agg cs)= .agg cs.toList.toArray:=by simp
 rw[this];exact .agg _ _ (by simpa[Value.cells]using a3.len) (by simpa[Value.cells]using a3.at_) (by simpa[Value.cells]using a4)
theorem nh{H:Type}{enc:TypeId×Value→H}(hl:laidOutB P=true){W':World}(hb:Below W.heap.size W W'){sp:Nat→Bool}:∀{ts:List TypeId} {vs:List Value} {ds:List (DataW H)} {ps:List MemPlace},(∀t,t∈ts→P.readableRec t=true∧t<P.types.size)→
 DataW.TrodAll enc P W 0 (fun _=>true) true ts vs ds ps→(∀p,p∈ps→p.block<W.heap.size∧sp p.block=true)→DataW.TrodAll enc P W' 0 sp true ts vs ds ps
 |[],vs,ds,ps,_,h,_=>by
  obtain⟨rfl,rfl,rfl⟩:=trodAll_nil h;exact rfl
 |t::ts,vs,ds,ps,ht,h,hp=>by
  obtain⟨v,vs',d,ds',p1,q1,rfl,rfl,rfl,h1,h2⟩:=trodAll_cons h
  exact⟨p1,q1,WideElems.Trod_stays hl (ht t aaQ).1 (ht t aaQ).2 h1 (fun x hx=>hb.same (hp x (acp _ hx)).1) (fun x hx=>(hp x (acp _ hx)).2),
   nh hl hb (fun t' ht'=>ht t' (aat _ ht')) h2 fun x hx=>hp x (ac0 _ hx),rfl⟩
theorem uL{w0:W0}(hw0:w0.w={W with drawn:=0})(hg0:w0.gh.sub (gW W)){H:Type}(enc:TypeId×Value→H){f:FuncId}{fn:Func}{s:ChangeSpec}{ts:List TypeId}{α:Type}{en:α→List DV}{sz:α→Nat}{ok:α→Prop}{tb:TypeId}(hr:UY P W ts en sz ok)(hts:fn.params=ts.toArray)(hres:fn.resultTypes= #[tb])(htb:P.underlying tb=some .bool)(hvars:s.vars=[])
 (hl:laidOutB P=true) (hT:∀t,t∈ts→P.readableRec t=true∧t<P.types.size) (hspec:∀ds:List (DataW H),ds.length=ts.length→s.fn H ds={results:=[.lit (.bool true)],args:=ds})
 (hcall:∀a,ok a→sz a≤1048576→ab P w0 f (en a) ⟨[],[]⟩ fun d _=>d=dB true)
 (base:Nat) (args:Array Value) (ds gs:List (DataW H)) (before:List MemPlace) (hval:∀(j:Nat) t v,fn.params[j]? =some t→args[j]? =some v→Value.okWide P W .any base t v)
 (hW:DataW.Whole enc P fn.params.toList s.vars false W args.toList ds gs before) (hk:Rows.uptoBulkAll (ds++gs)≤1048576) (hpq:∀d S,¬w0.pq d S:=by exact fun _ _ h=>h):
 Calls P f args W fun e W'=>∃v,e= .returned v∧s.post enc P fn false true false false W args v W':=by
 have hW':=hW;obtain⟨p,q,hA,hV,rfl,hfz,hnd⟩:=hW;rw[hvars]at hV
 have hgs:gs=[]∧q=[]:=by
  cases gs with
  |nil=>exact⟨rfl,hV⟩
  |cons g gs=>exact hV.elim
 obtain⟨rfl,rfl⟩:=hgs;rw[hts]at hA;simp only[aco]at hk;obtain⟨a,a1,a2,a3⟩:=hr H enc base args.toList ds p (fun j t v x y=>hval j t v (by rw[hts];simpa using x) (by simpa using y)) (by simpa using hA);have hc:=hcall a a1 (ack a2 hk) (gW W) args W (A6 hw0 hg0) a3;refine hc.mono ?_;rintro e W' (⟨r,g',d,S',rfl,hle,hR,hd,rfl⟩|⟨_,_,_,_,_,_,_,_,hF⟩)
 rotate_left
 ·exact(hpq _ _ hF).elim
 have hb0:=hR.below.base;unfold W0.heap at hb0;rw[hw0]at hb0;have hb:Below W.heap.size W W':=⟨hb0.os,hb0.tape,hb0.output,hb0.size,hb0.block⟩;have hrv:r= .bool true:=mj hd;subst hrv
 have hlen:ds.length=ts.length:=by
  have:∀{ts:List TypeId} {vs:List Value} {ds:List (DataW H)} {ps:List MemPlace},DataW.TrodAll enc P W 0 (fun _=>true) true ts vs ds ps→ds.length=ts.length:=by
   intro ts
   induction ts with
   |nil=>intro vs ds ps h;obtain⟨rfl,rfl,rfl⟩:=trodAll_nil h;rfl
   |cons t ts ih=>
    intro vs ds ps h;obtain⟨v,vs',d,ds',p1,q1,rfl,rfl,rfl,h1,h2⟩:=trodAll_cons h;simp[ih h2]
  exact this (by simpa using hA)
 have hsp:=hspec ds hlen;have hold:∀x,x∈p→x.block<W.heap.size:=fun x hx=>hW'.lt x (by simpa using hx)
 have hres':∀(b:Nat) (sp:Nat→Bool) (hd:Bool),DataW.TrodAll enc P W' b sp hd fn.resultTypes.toList ((Value.bool true).resultList fn.resultTypes.size) (s.fn H (ds++[])).results []:=by
  intro b sp hd;rw[aco,hsp,hres];exact trodAll_cons_mk (shut_bool htb _) trodAll_mk0
 have hargs':∀sp:Nat→Bool,(∀x,x∈p→sp x.block=true)→DataW.TrodAll enc P W' 0 sp true fn.params.toList args.toList (s.fn H (ds++[])).args p:=by
  intro sp hs;rw[aco,hsp,hts];exact nh hl hb hT (by simpa using hA) fun x hx=>⟨hold x hx,hs x hx⟩
 have hvars':∀sp:Nat→Bool,DataW.TrodVars enc P W' sp s.vars (s.fn H (ds++[])).vars []:=by
  intro sp;rw[aco,hsp,hvars];exact rfl
 refine⟨.bool true,rfl,ds,[],p++[],[],p,[],hW',hres' _ _ _,hargs' _ (fun x hx=>by simpa using hold x hx),hvars' _,World.keptBut_mono (fun x hx=>⟨hx,.inr (by simpa using hx)⟩) (hb.frame _),fun _=>?_⟩;refine⟨?_,_,_,([]++p)++[],⟨[]++p,[],trodAll_append (hargs' _ (fun _ _=>rfl)) (hres' _ _ _),hvars' _,rfl,?_,?_⟩,?_⟩
 ·exact ok_one hres rfl (okWide_bool_mk htb _)
 ·intro b off hp;have hp:MemPlace.cell b off∈p:=by simpa using hp
  rw[hb.frozen (hold _ hp)];exact hfz b off (by simpa using hp)
 ·intro ha;cases ha
 ·intro x hx _;simpa using hx
end
end Go.Proofs.YtoepfmhnapedoaaGreatDoor
