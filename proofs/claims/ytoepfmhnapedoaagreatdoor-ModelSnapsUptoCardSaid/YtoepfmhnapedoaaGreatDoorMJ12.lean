/-
  Part 12 of the proof that the last text ends: from 'Functions that recover, on: regions whose order is open, behind the defer' to 'What a snapshot is told stays: plain'. By an AI agent.
-/
import Derived.Test.YtoepfmhnapedoaaGreatDoorMJ7
import Derived.Test.YtoepfmhnapedoaaGreatDoorMJ5
import Derived.Test.YtoepfmhnapedoaaGreatDoorMJ10
import Derived.Test.YtoepfmhnapedoaaGreatDoorMJ11
import Derived.Test.YtoepfmhnapedoaaGreatDoorRows
import Derived.Test.YtoepfmhnapedoaaGreatDoorMJ4
import Derived.ProofKit
import Derived.OpenShut
import Derived.JoinedCond
import Derived.Carry
import Derived.Test.YtoepfmhnapedoaaGreatDoorTie
import Derived.Test.YtoepfmhnapedoaaGreatDoorCards
import Derived.Deep.DeepHandedRow
import Derived.Lib.LaidTab
import Derived.Lib.LaidU8T
import Derived.Stop.LaidErr
import Derived.Shelf.Vars
import Derived.Lib.SmallJoins
set_option linter.unusedVariables false
set_option linter.unusedSimpArgs false
set_option maxRecDepth 100000
set_option maxHeartbeats 16000000
namespace Aml
open Go Go.RowKit
section
variable {P:Program} {w0:W0} {S0 S1:St} {md:Region.Mode} {ops:Array Oper}
theorem Y.gB{T:List Nat}{a0:Act}(hdst:∀(i:Nat) o,ops[i]? =some o→jB T o=true){gs ns:List Nat}{ro:Option Nat}{g0:Gh}{Q:Exit→List DV→St→Prop}:∀(fuel:Nat) (listed:Array Bool) (fr:List DV) (S:St) (g:Gh) (a:Act) (w:World),Same T a0 a→g0.le g→Rel w0 g S w→ae g fr a.tmps.toList→Dk w0 g a w→
 Y.HK P w0 S0 S1 gs ns md ops (fun fr S=>Q .normal fr S) fuel listed fr S→wpAnyIn (fz ro) 0 P md ops (Kt T a0 (Good w0 g0 Q)) fuel listed a w
 |0,listed,fr,S,g,a,w,hs,k,h1,h2,h3,h=>⟨h.1,⟨k.kd h3,g,fr,S,k,h1,h2,h.2⟩,hs⟩
 |fuel+1,listed,fr,S,g,a,w,hs,k,h1,h2,h3,h=>by
  refine⟨fun h0=>⟨⟨k.kd h3,g,fr,S,k,h1,h2,h.1 h0⟩,hs⟩,fun i hi=>?_⟩;have hq:=h.2 i hi;unfold pJ at hq;unfold wpOpIn;split
  ·rename_i ho;simp only[ho]at hq;obtain⟨T',hp,hq⟩:=hq;exact Y.gB hdst fuel _ fr T' g a w hs k (hp.symm.rel h1) h2 h3 hq
  ·rename_i o ho;simp only[ho]at hq;rcases hq with⟨hw,hb⟩|⟨hw,hk⟩
   ·have hw':=dm (o:=o) h2 hw;rw[if_pos hw'];refine fe (Y.lG hb) h1 (fun x _=>dR h2 x) h3 k h2 (Q:=Q) (fun v w' hg=>⟨hg,hs⟩) fun g' d' u S' w' k1 k2 k3 k4 k5=>?_;obtain⟨T',hp,k4⟩:=k4;exact Y.gB hdst fuel _ _ _ g' _ _ (l9 (hdst i o ho) hs u) (k.trans k1) (hp.symm.rel k2) (bz (h2.mono k1) _ k3) (k1.dk k5) k4
   ·have hw':=dm (o:=o) h2 hw;rw[if_neg (by simp[hw'])];obtain⟨T',hp,hk⟩:=hk;exact⟨fun _ _=>trivial,Y.gB hdst fuel _ _ _ g _ _ (l9 (hdst i o ho) hs undef) k (hp.symm.rel h1) (bz h2 _ (ga g)) (h3.bY (put_defers _ _ _) fun _ _ h _=>h) hk⟩
theorem Y.BJ{T:List Nat}(hSS:∀T,Hm S0 T→Hm S1 T){id:Nat}{l:List Oper}{gs ns ord:List Nat}{fr:List DV}{S:St}{Q:Exit→List DV→St→Prop}(hm:P.follows .mixedOrders=true)(hd:l.all (jB T)=true)(hB:Y.vy gs ns .any l.toArray ord (Array.replicate l.length false)=true)(hO:ord.length=l.length)(h:Y.LO P w0 S0 S1 gs ns l.toArray (fun fr S=>Q .normal fr S) ord fr S):Lg T P w0 (.region id l.toArray true) fr S Q:=by
 intro g a0 a w h1 h2 h3 hs;refine dF hm fun ro=>?_;have hR:Rel w0 g S {w with drawn:=w.drawn+1}:=h1.grow (iW w)
 have hcnt:∀l':List Nat,l'.Nodup→(∀k,k∈l'→(Array.replicate l.length false).getD k true=false)→l'.length≤ord.length:=by
  intro l' hn hl
  have hsub:∀k,k∈l'→k∈List.range l.length:=fun k hk=>by
   have:=hl k hk;rw[Yf];rcases XM k l.length with h|h
   ·exact h
   ·rw[Xx,Yc (by simpa using h)]at this;cases this
  have:=hn.length_le_of_subset (l₂:=List.range l.length) hsub;rw[hO];simpa using this
 have hdst:∀(i:Nat) o,l.toArray[i]? =some o→jB T o=true:=fun i o ho=>Xv.1 hd o (Xd (i:=i) (by simpa using ho));have:=Y.oh hSS (P:=P) (w0:=w0) (S0:=S0) (S1:=S1) (md:= .any) (ops:=l.toArray) ord (Array.replicate l.length false) fr S hcnt hB h;have:=Y.gB (T:=T) (a0:=a0) hdst (ro:=ro) (g0:=g) (Q:=Q) _ _ fr S g a _ hs (.refl g) hR h2 (h3.bY rfl fun _ _ h _=>h) this;rw[hO]at this;simpa using this
def AK(T:List Nat)(P:Program)(w0:W0)(fr:List DV)(S:St)[c:Cn (Code×(Exit→List DV→St→Prop))]:Prop:=Lg T P w0 c.k.1 fr S c.k.2
theorem Y.vz{T:List Nat}(gs ns ord:List Nat){id:Nat}{l:List Oper}{fr:List DV}{S:St}{Q:Exit→List DV→St→Prop}(hm:P.follows .mixedOrders=true)(hB:(Y.uo l gs ns ord&&l.all (jB T))=true)(h:Y.jL P w0 S ⟨[],[]⟩ gs ns l.toArray (fun fr S=>gI fr fun fr=>Q .normal fr S) ord fr S):@AK T P w0 fr S ⟨(.region id l.toArray true,Q)⟩:=by
 rw[Xe]at hB;obtain⟨hB,hd⟩:=hB;simp only[Y.uo,Xe,beq_iff_eq]at hB;refine Y.BJ (fun T _=>Y.pg T) hm hd hB.1.2 hB.2 (Y.cr (fun i o ho=>?_) ord h);have:l[i]? =some o:=by simpa using ho
 exact Xv.1 hB.1.1 o (Xd this)
def qQ(T:List Nat)(P:Program)(w0:W0)(ss:List Nat):Code→List DV→St→(Exit→List DV→St→Prop)→Prop
 | .skip,fr,S,Q=>Q .normal fr S
 | .seq x y,fr,S,Q=>qQ T P w0 ss x fr S (fV (fun fr S=>qQ T P w0 ss y fr S Q) Q)
 | .cond c x y,fr,S,Q=>cn (ev fr c) (qQ T P w0 ss x fr S Q) (qQ T P w0 ss y fr S Q)
 | .block n c,fr,S,Q=>qQ T P w0 ss c fr S (eC n Q)
 | .exit n,fr,S,Q=>Q (.exit n) fr S
 | .ret,fr,S,Q=>Q .ret fr S
 | .region n ops dr,fr,S,Q=>cc (ss.contains n) (@AK T P w0 fr S ⟨((.region n ops dr),Q)⟩) (oG P w0 ops (fun fr S=>Q .normal fr S) ops.toList fr S)
 |c,fr,S,Q=>@AK T P w0 fr S ⟨(c,Q)⟩
def rq(T ss:List Nat):Code→Bool
 | .skip=>true
 | .ret=>true
 | .exit _=>true
 | .seq a b=>rq T ss a&&rq T ss b
 | .cond _ a b=>rq T ss a&&rq T ss b
 | .block _ c=>rq T ss c
 | .region n ops dr=>ss.contains n||(!dr&&ops.toList.all (fun o=>eY o.op&&jB T o))
 |_=>false
theorem fT{T ss:List Nat}:∀(c:Code) {fr:List DV} {S:St} {Q:Exit→List DV→St→Prop},rq T ss c=true→qQ T P w0 ss c fr S Q→Lg T P w0 c fr S Q
 | .skip,fr,S,Q,_,h=>fun g v a w h1 h2 h3 h4=>lN ⟨⟨h3,g,fr,S,.refl g,h1,h2,h⟩,h4⟩
 | .ret,fr,S,Q,_,h=>fun g v a w h1 h2 h3 h4=>oT ⟨⟨h3,g,fr,S,.refl g,h1,h2,h⟩,h4⟩
 | .exit n,fr,S,Q,_,h=>fun g v a w h1 h2 h3 h4=>qx ⟨⟨h3,g,fr,S,.refl g,h1,h2,h⟩,h4⟩
 | .seq x y,fr,S,Q,ho,h=>fun g v a w h1 h2 h3 h4=>by
  simp only[rq,Xe]at ho;refine jd (aR (fT x ho.1 h g v a w h1 h2 h3 h4) ?_);intro e a' w' hg
  cases e with
  |normal=>
   obtain⟨⟨hd,g',fr',S',k1,k2,k3,k4⟩,ht⟩:=hg;exact aR (fT y ho.2 k4 g' v a' w' k2 k3 (k1.dk hd) ht) fun _ _ _ k=>k.mono fun _ _ _ k=>k.of_le k1
  |exit n=>exact hg
  |goto n=>exact hg
  |ret=>exact hg
  |panic ch=>exact hg
  |outgrown=>exact hg
 | .cond c x y,fr,S,Q,ho,h=>fun g v a w h1 h2 h3 h4=>by
  simp only[rq,Xe]at ho;have h:cn (ev fr c) (qQ T P w0 ss x fr S Q) (qQ T P w0 ss y fr S Q):=h;have hr:=dR h2 c;unfold cn at h;split at h
  ·rename_i b he;rw[he]at hr;exact cM (jH hr) (fun hb=>fT x ho.1 (h.1 hb) g v a w h1 h2 h3 h4) (fun hb=>fT y ho.2 (h.2 hb) g v a w h1 h2 h3 h4)
  ·exact h.elim
 | .block n c,fr,S,Q,ho,h=>fun g v a w h1 h2 h3 h4=>by
  unfold rq at ho;have h:qQ T P w0 ss c fr S (eC n Q):=h;refine iC (aR (fT c ho h g v a w h1 h2 h3 h4) ?_);intro e a' w' hg
  cases e with
  |exit m=>
   obtain⟨⟨hd,g',fr',S',k1,k2,k3,k4⟩,ht⟩:=hg;simp only[Exit.inBlock];simp only[Qp,eC]at k4;split
   ·rename_i e;rw[if_pos e]at k4;exact⟨⟨hd,g',fr',S',k1,k2,k3,k4⟩,ht⟩
   ·rename_i e;rw[if_neg e]at k4;exact⟨⟨hd,g',fr',S',k1,k2,k3,k4⟩,ht⟩
  |normal=>exact hg
  |goto n=>exact hg
  |ret=>exact hg
  |panic ch=>exact hg
  |outgrown=>exact hg
 | .region n ops dr,fr,S,Q,ho,h=>fun g v a w h1 h2 h3 h4=>by
  unfold rq at ho;have h:cc (ss.contains n) (@AK T P w0 fr S ⟨((.region n ops dr),Q)⟩) (oG P w0 ops (fun fr S=>Q .normal fr S) ops.toList fr S):=h
  cases hc:ss.contains n with
  |true=>
   rw[hc]at h;exact h g v a w h1 h2 h3 h4
  |false=>
   rw[hc]at h ho;simp only[YT,Xe,XK]at ho;obtain⟨hd,ho⟩:=ho;subst hd
   have ho1:ops.toList.all (fun o=>eY o.op)=true:=Xv.2 fun o hm=>by
    have:=Xv.1 ho o hm;rw[Xe]at this;exact this.1
   have ho2:ops.toList.all (jB T)=true:=Xv.2 fun o hm=>by
    have:=Xv.1 ho o hm;rw[Xe]at this;exact this.2
   have h:oG P w0 ops (fun fr S=>Q .normal fr S) ops.toList fr S:=h;have h:=fN _ ho1 h;have:=dK (P:=P) (id:=n) (l:=ops.toList) (Q:=Kt T v (Good w0 g Q)) (a:=a) (w:=w) fun ro=>iQ (ro:=ro) (g0:=g) (Q:=Q) ops.toList fr S g a w ho2 h4 (.refl g) h1 h2 h3 (by simpa using h);simpa using this
 | .loop c,fr,S,Q,ho,h=>by cases ho
 | .rangeFunc f ps a b,fr,S,Q,ho,h=>by cases ho
 | .scope c,fr,S,Q,ho,h=>by cases ho
 | .label l,fr,S,Q,ho,h=>by cases ho
 | .goto l,fr,S,Q,ho,h=>by cases ho
 | .refuse w,fr,S,Q,ho,h=>by cases ho
theorem xq{T ss:List Nat}{fr:List DV}{S:St}{Q:Exit→List DV→St→Prop}:qQ T P w0 ss .skip fr S Q=Q .normal fr S:=rfl
theorem CE{T ss:List Nat}{fr:List DV}{S:St}{Q:Exit→List DV→St→Prop}(x y:Code):qQ T P w0 ss (.seq x y) fr S Q=qQ T P w0 ss x fr S (fV (fun fr S=>qQ T P w0 ss y fr S Q) Q):=rfl
theorem xD{T ss:List Nat}{fr:List DV}{S:St}{Q:Exit→List DV→St→Prop}(c:Operand)(x y:Code):qQ T P w0 ss (.cond c x y) fr S Q=cn (ev fr c) (qQ T P w0 ss x fr S Q) (qQ T P w0 ss y fr S Q):=rfl
theorem wI{T ss:List Nat}{fr:List DV}{S:St}{Q:Exit→List DV→St→Prop}(n:Nat)(c:Code):qQ T P w0 ss (.block n c) fr S Q=qQ T P w0 ss c fr S (eC n Q):=rfl
theorem Ct{T ss:List Nat}{fr:List DV}{S:St}{Q:Exit→List DV→St→Prop}:qQ T P w0 ss .ret fr S Q=Q .ret fr S:=rfl
theorem Ci{T ss:List Nat}{fr:List DV}{S:St}{Q:Exit→List DV→St→Prop}(n:Nat)(l:List Oper)(dr:Bool):qQ T P w0 ss (.region n l.toArray dr) fr S Q=cc (ss.contains n) (@AK T P w0 fr S ⟨((.region n l.toArray dr),Q)⟩) (oG P w0 l.toArray (fun fr S=>gI fr fun fr=>Q .normal fr S) l fr S):=by simp[qQ,cc,gI]
@[congr] theorem Uf {T ss:List Nat} {Q:Exit→List DV→St→Prop} {c:Code} {fr fr':List DV} {S S':St} (h1:fr=fr') (h2:S=S'):qQ T P w0 ss c fr S Q=qQ T P w0 ss c fr' S' Q:=by cases h1;cases h2;rfl
@[congr] theorem U3 {T:List Nat} {fr fr':List DV} {S S':St} [c:Cn (Code×(Exit→List DV→St→Prop))] (h1:fr=fr') (h2:S=S'):AK T P w0 fr S=AK T P w0 fr' S':=by cases h1;cases h2;rfl
attribute [go_sem ↓] xq CE xD wI Ct Ci
theorem xC{f:FuncId}{fn:Func}{p rest:Code}{id t1:Nat}{o1 od:Oper}{rs:List ResultVar}{args:List DV}{S:St}{K:DV→St→Prop}{cl:FuncId}{caps:List Nat}
 (hf:P.funcs[f]? =some fn) (hb:fn.body=some (.seq p (.seq (.region id #[o1,od] false) rest))) (hrs:fn.results=rs.toArray)
 (ho1:o1.op= .makeFunc (.func cl) #[] (caps.map .tmp).toArray∧o1.dst=some t1∧o1.guard=none) (hod:od.op= .defer {callee:= .value (.tmp t1),args:= #[],argTypes:= #[]}∧od.dst=none∧od.guard=none)
 (hcl:okF P cl=true) (hk1:qP [] p=true) (ht1:(rs.map jf).contains t1=false∧t1<fn.ntmps∧args.length≤t1)
 (hp:vw P w0 [] p (cD (args++List.replicate (fn.ntmps-args.length) ud)) S fun e fr S1=>e= .normal∧∃bs:List Value,caps.map (fun t=>fr.getD t ud)=bs.map .v∧∃pq:DV→St→Prop,
  Lg (rs.map jf) P ⟨w0.w,w0.gh,pq⟩ rest (fr.set t1 (.v (.func (.func cl) #[] bs.toArray))) S1 (fun e _ S2=>(e= .normal∨e= .ret)∧ky P fr S2 rs fun d=>K d S2)∧
  Idle P cl bs∧LH P w0 cl bs pq fun S2=>ky P fr S2 rs fun d=>K d S2):aa P w0 f args S K:=by
 intro g vs w h1 h2;refine Calls.mono (R:=Ends w0 (g.ay []) K) ?_ fun e w'=>Ends.ay h1.below.dw;have h1:=h1.ay (w0':=w0) [] rfl h1.below.dw;have h2:ae (g.ay []) args vs.toList:=h2.ay;generalize hg:g.ay []=g0 at h1 h2 ⊢;have hgd:g0.kM=[]:=by rw[←hg];rfl
 refine(eo (ro:=none) (n:=0)).1 (callsIn_of_wp_marks hf hb trivial ?_ rfl);have hlen:args.length=vs.size:=by simpa using h2.len
 have hR0:ae g0 (args++List.replicate (fn.ntmps-args.length) ud) (vs++Array.replicate (fn.ntmps-vs.size) undef).toList:=by rw[hlen];simpa using h2.append (ae.replicate g0 (fn.ntmps-vs.size))
 obtain⟨a0,ha0⟩:∃a0:Act,a0={tmps:=vs++Array.replicate (fn.ntmps-vs.size) undef,defers:=[]}:=⟨_,rfl⟩;rw[←ha0];have hR0:ae g0 (args++List.replicate (fn.ntmps-args.length) ud) a0.tmps.toList:=by rw[ha0];exact hR0
 have hd0:a0.defers=[]:=by rw[ha0]
 have hz0:fn.ntmps≤a0.tmps.size:=by rw[ha0];simp;omega
 refine wpIn_seq (wpIn_mono (dz p hk1 hp g0 a0 a0 w h1 hR0 (.nil (hd0.trans hgd.symm)) ⟨fun _ _=>rfl,rfl,rfl⟩ none (.inl rfl)) ?_);intro e a1 w1 hg1
 cases e with
 |exit n=>obtain⟨⟨_,_,_,_,_,_,_,q,_⟩,_⟩:=hg1;cases q
 |goto n=>obtain⟨⟨_,_,_,_,_,_,_,q,_⟩,_⟩:=hg1;cases q
 |ret=>obtain⟨⟨_,_,_,_,_,_,_,q,_⟩,_⟩:=hg1;cases q
 |outgrown=>obtain⟨_,_,_,_,_,_,_,q,_⟩:=hg1;cases q
 |panic ch=>
  obtain⟨⟨_,g',fr',S',k1,k2,k3,v,d,rfl,q1,q2⟩,hs⟩:=hg1;show LeavesInM (fz none) 0 P fn a1.tmps (Ends w0 g0 K) a1.defers (.panicking _) w1;rw[hs.2.1,hd0];exact .inr ⟨v,g',d,S',rfl,k1,k2,q1,q2⟩
 |normal=>
  obtain⟨⟨_,g1,fr1,S1,k1,R1,r1,_,bs,hbs,pq,hrest,hidle,hbr⟩,hs1⟩:=hg1;have hd1:a1.defers=[]:=hs1.2.1.trans hd0;have hz1:t1<a1.tmps.size:=by rw[hs1.2.2];omega
  have hev:((caps.map Operand.tmp).toArray.map a1.eval)=bs.toArray:=by
   have:caps.map (fun t=>a1.eval (.tmp t))=bs:=by
    refine Ya fun i=>?_;have hi:=congrArg (·[i]?) hbs;simp only[Xi]at hi ⊢
    cases hc:caps[i]? with
    |none=>rw[hc]at hi;cases hb:bs[i]? with
     |none=>rfl
     |some x=>rw[hb]at hi;cases hi
    |some t=>
     rw[hc]at hi
     cases hb:bs[i]? with
     |none=>rw[hb]at hi;cases hi
     |some x=>
      rw[hb]at hi;simp only[XG,Xw]at hi ⊢;have h:=dR r1 (.tmp t);rw[show ev fr1 (.tmp t)= .v x from hi]at h;exact an h
   rw[←this];simp
  obtain⟨fv,hfv⟩:∃fv:Value,fv= .func (.func cl) #[] bs.toArray:=⟨_,rfl⟩;obtain⟨d,hd⟩:∃d:Deferred,d={target:= .fn (.func cl) bs.toArray,args:= #[]}:=⟨_,rfl⟩
  have hrun1:(execOp a1.eval o1).run P w1= .ok (.value fv) w1:=by
   have:∀(fn:Fn) (first cap:Array Value) (w:World),(Instr.makeFunc fn first cap).run P w= .ok (.func fn first cap) w:=fun _ _ _ _=>rfl;rw[hfv];unfold execOp;rw[ho1.1];simp only[hev];simp[this]
  have he2:(a1.put (some t1) fv).eval (.tmp t1)=fv:=by
   simp only[Act.put,Act.eval];rw[Xx,Array.getElem?_setIfInBounds_self_of_lt hz1];rfl
  have hrun2:(execOp (a1.put (some t1) fv).eval od).run P w1= .ok (.defer d) w1:=by
   unfold execOp;rw[hod.1,hd];have he3:=he2;rw[hfv]at he3;rw[hfv];simp only[resolve,he3];simp[Deferred.ofValue]
  refine wpIn_seq (wpIn_region_lit (l:=[o1,od]) ?_);unfold wpListIn;rw[if_pos (by simp[Region.wanted,ho1.2.2])];refine⟨fun _ _=>trivial,?_⟩;rw[show(fz none).round=none from rfl,Oper.semAt_none,hrun1];show wpListIn (fz none) 0 P _ _ [od] (a1.put o1.dst fv) w1;rw[ho1.2.1];unfold wpListIn;rw[if_pos (by simp[Region.wanted,hod.2.2])];refine⟨fun _ _=>trivial,?_⟩;rw[show(fz none).round=none from rfl,Oper.semAt_none,hrun2];obtain⟨a3,ha3⟩:∃a3:Act,a3={a1.put (some t1) fv with defers:=[d]}:=⟨_,rfl⟩;have hd3:a3.defers=[d]:=by rw[ha3]
  have e3:({a1.put (some t1) fv with defers:=d::(a1.put (some t1) fv).defers}:Act).put none undef=a3:=by
   rw[ha3];simp only[Act.put,hd1]
  show rest.wpIn (fz none) 0 P _ (({a1.put (some t1) fv with defers:=d::(a1.put (some t1) fv).defers}:Act).put od.dst undef) w1;rw[hod.2.1,e3];have t3:a3.tmps=(a1.put (some t1) fv).tmps:=by rw[ha3]
  have r3:ae (g1.ay [d]) (fr1.set t1 (.v fv)) a3.tmps.toList:=by
   rw[t3];exact(bz r1 (some t1) (d:= .v fv) (.v _ (by rw[hfv];rfl))).ay
  rw[←hfv]at hrest;have R3:Rel ⟨w0.w,w0.gh,pq⟩ (g1.ay [d]) S1 w1:=R1.ay [d] rfl R1.below.dw
  have slots:∀a4,Same (rs.map jf) a3 a4→results fn a4.tmps=results fn a1.tmps:=by
   intro a4 h4;refine ua hrs fun r hr=>?_;rw[h4.1 _ (XF hr),t3];simp only[Act.put]
   have:¬t1=jf r:=by
    rintro e;have:=ht1.1;simp only[List.contains_eq_mem,decide_eq_false_iff_not]at this;exact this (e▸XF hr)
   rw[Xz,if_neg this]
  have hinv:∀w,(invoke d.target d.args).run P w= .ok (.enter cl bs.toArray) w:=by
   intro w;unfold okF at hcl;split at hcl
   ·rename_i fn' hfn';simp only[Xe,XK]at hcl;obtain⟨hb,hname⟩:=hcl;have hbn:¬fn'.body=none:=by intro e;simp[e]at hb
    have hname':¬fn'.name= "runtime.NumGoroutine" :=by simpa using hname
    rw[hd];simp[invoke,callFunc,hfn',hname',hbn]
   ·cases hcl
  have fin:∀(g4:Gh) (S4:St) (w4:World) (a4:Act),Same (rs.map jf) a3 a4→(g1.ay [d]).le g4→Rel w0 g4 S4 w4→ky P fr1 S4 rs (fun d=>K d S4)→LeavesInM (fz none) 0 P fn a4.tmps (Ends w0 g0 K) [] .returning w4:=by
   intro g4 S4 w4 a4 hs4 k4 R4 hres;obtain⟨v,dd,e1,e2,e3⟩:=zL (P:=P) R4 ((r1.ay (ds:=[d])).mono k4) hrs hres;refine⟨v,by rw[slots a4 hs4];exact e1,.inl ⟨v,g4.ay [],dd,S4,rfl,⟨fun b i u h=>k4.aO _ _ _ (k1.aO _ _ _ h),fun b i u h=>k4.acc _ _ _ (k1.acc _ _ _ h),k4.obj.trans k1.obj,hgd.symm⟩,R4.ay [] rfl R4.below.dw,e2.ay,e3⟩⟩
  refine wpIn_mono (hrest (g1.ay [d]) a3 a3 w1 R3 r3 (.nil hd3) ⟨fun _ _=>rfl,rfl,rfl⟩ none (.inl rfl)) ?_
  have norm:∀(g4:Gh) (S4:St) (w4:World) (a4:Act),Same (rs.map jf) a3 a4→(g1.ay [d]).le g4→Rel w0 g4 S4 w4→ky P fr1 S4 rs (fun d=>K d S4)→LeavesInM (fz none) 0 P fn a4.tmps (Ends w0 g0 K) a4.defers .returning w4:=by
   intro g4 S4 w4 a4 hs4 k4 R4 hres;rw[hs4.2.1,hd3];refine⟨by simp,.inr ⟨fun h=>by simp[fz,Fence.wide]at h,.func cl,bs.toArray,cl,bs.toArray,by rw[hd],hinv w4,fun _ _=>trivial,gV (hidle w4) ?_⟩⟩;rintro e u' w' ⟨⟨r,rfl⟩,rfl,rfl⟩;exact fin g4 S4 _ a4 hs4 k4 R4 hres
  intro e a4 w4 hg
  cases e with
  |exit n=>obtain⟨⟨_,_,_,_,_,_,_,q,_⟩,_⟩:=hg;rcases q with q|q <;>cases q
  |goto n=>obtain⟨⟨_,_,_,_,_,_,_,q,_⟩,_⟩:=hg;rcases q with q|q <;>cases q
  |outgrown=>obtain⟨_,_,_,_,_,_,_,q,_⟩:=hg;rcases q with q|q <;>cases q
  |normal=>
   obtain⟨⟨_,g4,fr4,S4,k4,R4,r4,_,hres⟩,hs4⟩:=hg;exact norm g4 S4 w4 a4 hs4 k4 (R4.ay (w0':=w0) g4.kM rfl R4.below.dw) hres
  |ret=>
   obtain⟨⟨_,g4,fr4,S4,k4,R4,r4,_,hres⟩,hs4⟩:=hg;exact norm g4 S4 w4 a4 hs4 k4 (R4.ay (w0':=w0) g4.kM rfl R4.below.dw) hres
  |panic ch=>
   obtain⟨⟨_,g4,fr4,S4,k4,R4,r4,v,d',rfl,q1,q2⟩,hs4⟩:=hg;show LeavesInM (fz none) 0 P fn a4.tmps (Ends w0 g0 K) a4.defers (.panicking _) w4;rw[hs4.2.1,hd3];refine⟨by simp,.inr ⟨fun h=>by simp[fz,Fence.wide]at h,.func cl,bs.toArray,cl,bs.toArray,by rw[hd],hinv w4,fun _ _=>trivial,gV (hbr g4 S4 w4 v d' (R4.ay (w0':=w0) g4.kM rfl R4.below.dw) q1 q2) ?_⟩⟩;rintro e u' w' ⟨⟨r,rfl⟩,rfl,g5,T5,k5,R5,hres⟩;exact fin g5 T5 _ a4 hs4 (k4.trans k5) R5 hres
end
end Aml
namespace Go.Proofs.YtoepfmhnapedoaaGreatDoor
open Aml Go Rn Lat Grs
theorem SU{P:Program}{w0:W0}{f:FuncId}{args args':List DV}{S:St}{K K':DV→St→Prop}(h:aa P w0 f args' S K')(hk:∀d S',K' d S'→∃e,Wk d e∧K e S')(ha:eW args args':=by exact eW.refl _):@AC P w0 f args S ⟨K⟩:=iD h ha hk
theorem CH{P:Program}{w0:W0}{f:FuncId}{args:List DV}{S:St}{K:DV→St→Prop}(h:(S.box.map (·.1)).Nodup→(S.acc.map (·.1)).Nodup→aa P w0 f args S K):aa P w0 f args S K:=
 fun g vs w h1 h2=>h h1.nb h1.na g vs w h1 h2
def SF(fr:List DV)(S:St)[K:Cn (List DV→St→Prop)]:Prop:=K.k fr S
theorem Ku{P:Program}{w0:W0}{c:Code}{fr:List DV}{S:St}{K:List DV→St→Prop}(h:vw P w0 [] c fr S fun e fr S1=>e= .normal∧@SF fr S1 ⟨K⟩):vw P w0 [] c fr S fun e fr S1=>e= .normal∧K fr S1:=h
theorem tS{S T:St}{g g':MG}{M b:Nat}{c:Cf}{μ:bc}(h:MI T g' M c μ)(hF:gz S T g g')(hb:lk S.box b=none)(hg:b∉g'.bx)(v:List DV):MI ⟨Aml.up T.box b v,T.acc⟩ g' M c μ∧gz S ⟨Aml.up T.box b v,T.acc⟩ g g':=
 ⟨h.to (Xg _) (fun i w q1 q2=>by show lk (Aml.up _ _ _) i=_;rw[ab (fun e=>hg (by rw[e];exact q1))];exact q2) fun _ _ _ q=>q,hF.m,fun i w q1 q2=>by show lk (Aml.up _ _ _) i=_;rw[ab (fun e=>by rw[←e,hb]at q2;cases q2)];exact hF.box i w q1 q2,hF.acc,hF.nb,hF.na⟩
theorem Sm{w0:W0}{S:St}{g:MG}{N:Nat}{c:Cf}{μ:bc}{o:bl}{full:Bool}(hgO:l8 w0)(hgC:jY w0)(hI:MI S g N c μ)(hM:fx N c μ)(hgr:c.gr.length≤1048576)(hN:N≤10000):
 aa Tryz.prog w0 12 [bg g.m,HJ o,dB full] S (fun d S'=>Wk d (Hx (eK eQ c μ o full).1)∧∃g',MI S' g' (N+1) c (eK eQ c μ o full).2∧gz S S' g g'):=by
 have hmd:=hI.md;have hlen:=hI.len;refine CH fun nb na=>?_;refine xC (P:=Tryz.prog) (fn:=Tryz.f12) (cl:=32) (caps:=[6]) (t1:=8) Tryz.func12 rfl rfl ⟨rfl,rfl,rfl⟩ ⟨rfl,rfl,rfl⟩ (by kernel_rfl) (by kernel_rfl) ⟨rfl,by rw[Tryz.ntmps12];decide,by simp⟩ ?_;refine Ku ?_;simp(maxDischargeDepth:=12) (maxSteps:=1000000) -implicitDefEqProofs only[go_sem,Nat.reduceAdd,Nat.reduceSub,Nat.reduceMul,Nat.reduceLeDiff,Nat.reduceEqDiff,Nat.reduceGT,Nat.reduceBEq,reduceCtorEq,↓reduceIte,Int.reduceToNat,Int.reduceLE,Int.reduceLT,Int.reduceNe,Int.reduceEq,Tryz.ntmps12];intro b4 b6;have n1:=av b6 b4.n (by simp(maxDischargeDepth:=12) (maxSteps:=1000000) -implicitDefEqProofs only[go_sem,Nat.reduceAdd,Nat.reduceSub,Nat.reduceMul,Nat.reduceLeDiff,Nat.reduceEqDiff,Nat.reduceGT,Nat.reduceBEq,reduceCtorEq,↓reduceIte,Int.reduceToNat,Int.reduceLE,Int.reduceLT,Int.reduceNe,Int.reduceEq]);have hm4:(b4.n=g.m)=False:=eq_false fun e=>by have:=ak b4;rw[e,hmd]at this;cases this
 have hm6:(b6.n=g.m)=False:=av b6 g.m (by simp(maxDischargeDepth:=12) (maxSteps:=1000000) -implicitDefEqProofs only[go_sem,Nat.reduceAdd,Nat.reduceSub,Nat.reduceMul,Nat.reduceLeDiff,Nat.reduceEqDiff,Nat.reduceGT,Nat.reduceBEq,reduceCtorEq,↓reduceIte,Int.reduceToNat,Int.reduceLE,Int.reduceLT,Int.reduceNe,Int.reduceEq,hm4,hmd]);have h4l:b4.n∉g.bx:=fun q=>hI.mn q (ak b4)
 have h6S:lk S.box b6.n=none:=by
  have q:=ak b6;simp only[lk]at q;rw[if_neg (fun e=>by rw[←n1];exact e.symm)]at q;exact q
 have h6l:b6.n∉g.bx:=fun q=>hI.mn q h6S;obtain⟨X,hX⟩:∃X:St,X=⟨(b6.n,[dI 0,dI 0,.sl 0 true [],dI 0,dI 0,dI 0,dI 0,.sl 0 true []])::(b4.n,[dI o.kind,dI o.level,dI o.aB,dI o.snap,dS (tx o.bucket),dS (tx o.key),dS (tx o.value),dI o.label,dI o.eX,dI o.n,.sl 1 false (az o.bY)])::S.box,S.acc⟩:=⟨_,rfl⟩;have hHX:Has S X:=by rw[hX];exact⟨fun b x q=>ai (ak b6) (ai (ak b4) q),fun _ _ q=>q⟩
 have x4:lk X.box b4.n=some [dI o.kind,dI o.level,dI o.aB,dI o.snap,dS (tx o.bucket),dS (tx o.key),dS (tx o.value),dI o.label,dI o.eX,dI o.n,.sl 1 false (az o.bY)]:=by rw[hX];simp(maxDischargeDepth:=12) (maxSteps:=1000000) -implicitDefEqProofs only[go_sem,Nat.reduceAdd,Nat.reduceSub,Nat.reduceMul,Nat.reduceLeDiff,Nat.reduceEqDiff,Nat.reduceGT,Nat.reduceBEq,reduceCtorEq,↓reduceIte,Int.reduceToNat,Int.reduceLE,Int.reduceLT,Int.reduceNe,Int.reduceEq,n1]
 have x6:lk X.box b6.n=some [dI 0,dI 0,.sl 0 true [],dI 0,dI 0,dI 0,dI 0,.sl 0 true []]:=by rw[hX];simp(maxDischargeDepth:=12) (maxSteps:=1000000) -implicitDefEqProofs only[go_sem,Nat.reduceAdd,Nat.reduceSub,Nat.reduceMul,Nat.reduceLeDiff,Nat.reduceEqDiff,Nat.reduceGT,Nat.reduceBEq,reduceCtorEq,↓reduceIte,Int.reduceToNat,Int.reduceLE,Int.reduceLT,Int.reduceNe,Int.reduceEq]
 have hIX:=hI.has hHX;have xm:=hIX.md
 have hXn:(X.box.map (·.1)).Nodup:=by
  rw[hX];refine Xu.2 ⟨fun hm=>?_,Xu.2 ⟨fun hm=>?_,nb⟩⟩
  ·obtain⟨p,hp,e⟩:=Xq.1 hm;exact Y.l3 b6.h p hp e
  ·obtain⟨p,hp,e⟩:=Xq.1 hm;exact Y.l3 b4.h p hp e
 have hXa:(X.acc.map (·.1)).Nodup:=by rw[hX];exact na
 obtain⟨pq,hpq⟩:∃pq:DV→St→Prop,pq=fun d T=>∃e,eK eQ c μ o full=(gv e,μ)∧d= .ij 33 (dI e)∧∃g',MI T g' (N+1) c μ∧gz X T g g':=⟨_,rfl⟩;have hpan:∀e,eK eQ c μ o full=(gv e,μ)→∀T g',MI T g' (N+1) c μ→gz X T g g'→pq (.ij 33 (dI e)) T:=fun e h1 T g' h2 h3=>by rw[hpq];exact⟨e,h1,rfl,g',h2,h3⟩
 have h6g:∀{T:St} {g':MG},gz X T g g'→b6.n∉g'.bx:=fun hF q=>(hF.nb _ q).elim h6l fun e=>by rw[x6]at e;cases e
 subst hX;refine⟨[.pointer (some ⟨b6.n,0,none⟩)],rfl,pq,?_,?_,?_⟩
 ·refine fT (ss:=[3,6,10,11,12]) _ (by kernel_rfl) ?_;simp(maxDischargeDepth:=12) (maxSteps:=1000000) -implicitDefEqProofs only[go_sem,Nat.reduceAdd,Nat.reduceSub,Nat.reduceMul,Nat.reduceLeDiff,Nat.reduceEqDiff,Nat.reduceGT,Nat.reduceBEq,reduceCtorEq,↓reduceIte,Int.reduceToNat,Int.reduceLE,Int.reduceLT,Int.reduceNe,Int.reduceEq];refine aj (aC _ true 1 _ fun h=>by cases h) ?_;rintro _ _ ⟨_,rfl,rfl⟩;simp(maxDischargeDepth:=12) (maxSteps:=1000000) -implicitDefEqProofs only[go_sem,Nat.reduceAdd,Nat.reduceSub,Nat.reduceMul,Nat.reduceLeDiff,Nat.reduceEqDiff,Nat.reduceGT,Nat.reduceBEq,reduceCtorEq,↓reduceIte,Int.reduceToNat,Int.reduceLE,Int.reduceLT,Int.reduceNe,Int.reduceEq];refine Y.vz [] [7] [0,1,2,3,4,5,6,7] mx (by kernel_rfl) ?_;simp(maxDischargeDepth:=12) (maxSteps:=1000000) -implicitDefEqProofs only[go_sem,Nat.reduceAdd,Nat.reduceSub,Nat.reduceMul,Nat.reduceLeDiff,Nat.reduceEqDiff,Nat.reduceGT,Nat.reduceBEq,reduceCtorEq,↓reduceIte,Int.reduceToNat,Int.reduceLE,Int.reduceLT,Int.reduceNe,Int.reduceEq,n1,hmd,hm4,hm6,hlen];refine Y.kS (fun T hT=>NK ⟨w0.w,w0.gh,pq⟩ hgO (μ.l.length:Int) o T) ?_
  cases hck:uo (μ.l.length:Int) o with
  |false=>
   simp(maxDischargeDepth:=12) (maxSteps:=1000000) -implicitDefEqProofs only[go_sem,Nat.reduceAdd,Nat.reduceSub,Nat.reduceMul,Nat.reduceLeDiff,Nat.reduceEqDiff,Nat.reduceGT,Nat.reduceBEq,reduceCtorEq,↓reduceIte,Int.reduceToNat,Int.reduceLE,Int.reduceLT,Int.reduceNe,Int.reduceEq];refine aj (aC _ false 40 _ fun _ T hT=>?_) ?_
   ·exact hpan 40 (by unfold eK;rw[if_pos hck]) T g ((hIX.has hT).le (XI N)) (.has hT)
   rintro _ _ ⟨q,_⟩;cases q
  |true=>
  have hck':(0≤o.kind∧o.kind<17)∧(o.kind=16∨(0≤o.level∧o.level<(μ.l.length:Int))):=of_decide_eq_true hck;simp(maxDischargeDepth:=12) (maxSteps:=1000000) -implicitDefEqProofs only[go_sem,Nat.reduceAdd,Nat.reduceSub,Nat.reduceMul,Nat.reduceLeDiff,Nat.reduceEqDiff,Nat.reduceGT,Nat.reduceBEq,reduceCtorEq,↓reduceIte,Int.reduceToNat,Int.reduceLE,Int.reduceLT,Int.reduceNe,Int.reduceEq];refine aj (aC _ true 40 _ fun h=>by cases h) ?_;rintro _ _ ⟨_,rfl,rfl⟩;by_cases hk0:o.kind=0
  ·have e0:(o.kind=0)=True:=eq_true hk0;have hd0:eK eQ c μ o full=(nY (eu μ.r o.level).2,⟨μ.l,(eu μ.r o.level).1,μ.sn⟩):=by unfold eK;rw[if_neg (by rw[hck];simp),if_pos hk0]
   simp(maxDischargeDepth:=12) (maxSteps:=1000000) -implicitDefEqProofs only[go_sem,Nat.reduceAdd,Nat.reduceSub,Nat.reduceMul,Nat.reduceLeDiff,Nat.reduceEqDiff,Nat.reduceGT,Nat.reduceBEq,reduceCtorEq,↓reduceIte,Int.reduceToNat,Int.reduceLE,Int.reduceLT,Int.reduceNe,Int.reduceEq,n1,e0];refine Y.vz [] [6,8] [0,1,2,4,3,5,6,7,8] mx (by kernel_rfl) ?_;simp(maxDischargeDepth:=12) (maxSteps:=1000000) -implicitDefEqProofs only[go_sem,Nat.reduceAdd,Nat.reduceSub,Nat.reduceMul,Nat.reduceLeDiff,Nat.reduceEqDiff,Nat.reduceGT,Nat.reduceBEq,reduceCtorEq,↓reduceIte,Int.reduceToNat,Int.reduceLE,Int.reduceLT,Int.reduceNe,Int.reduceEq,n1,hmd,hm4,hm6];refine aj (Pg _ hIX.tb (by have:=hM.r;omega) o.level) ?_;rintro _ T ⟨rfl,θ',hT,hF⟩;obtain⟨own',k1,k2,_,_⟩:=hIX.O6 (XI N) hT hF;have t6:lk T.box b6.n=some [dI 0,dI 0,.sl 0 true [],dI 0,dI 0,dI 0,dI 0,.sl 0 true []]:=k2.box _ _ h6l x6;simp(maxDischargeDepth:=12) (maxSteps:=1000000) -implicitDefEqProofs only[go_sem,Nat.reduceAdd,Nat.reduceSub,Nat.reduceMul,Nat.reduceLeDiff,Nat.reduceEqDiff,Nat.reduceGT,Nat.reduceBEq,reduceCtorEq,↓reduceIte,Int.reduceToNat,Int.reduceLE,Int.reduceLT,Int.reduceNe,Int.reduceEq,t6];obtain⟨j1,j2⟩:=tS k1 ((gz.has hHX).trans k2) h6S (h6g k2) [dI 0,dI (eu μ.r o.level).2,.sl 0 true [],dI 0,dI 0,dI 0,dI 0,.sl 0 true []];rw[hd0];exact⟨.agg ⟨.refl _,.refl _,.nil _ _ _,.refl _,.refl _,.refl _,.refl _,.nil _ _ _,trivial⟩,_,j1,j2⟩
  have e0:(o.kind=0)=False:=eq_false hk0;by_cases hk16:o.kind=16
  ·have e16:(o.kind=16)=True:=eq_true hk16;have hd16:eK eQ c μ o full=(gv 0,bd μ o full):=by unfold eK;rw[if_neg (by rw[hck];simp),if_neg hk0,if_pos hk16]
   simp(maxDischargeDepth:=12) (maxSteps:=1000000) -implicitDefEqProofs only[go_sem,Nat.reduceAdd,Nat.reduceSub,Nat.reduceMul,Nat.reduceLeDiff,Nat.reduceEqDiff,Nat.reduceGT,Nat.reduceBEq,reduceCtorEq,↓reduceIte,Int.reduceToNat,Int.reduceLE,Int.reduceLT,Int.reduceNe,Int.reduceEq,n1,e0,e16];refine aj (NJ hIX hM hN) ?_;rintro _ T ⟨g',k1,k2⟩;have t6:lk T.box b6.n=some [dI 0,dI 0,.sl 0 true [],dI 0,dI 0,dI 0,dI 0,.sl 0 true []]:=k2.box _ _ h6l x6;simp(maxDischargeDepth:=12) (maxSteps:=1000000) -implicitDefEqProofs only[go_sem,Nat.reduceAdd,Nat.reduceSub,Nat.reduceMul,Nat.reduceLeDiff,Nat.reduceEqDiff,Nat.reduceGT,Nat.reduceBEq,reduceCtorEq,↓reduceIte,Int.reduceToNat,Int.reduceLE,Int.reduceLT,Int.reduceNe,Int.reduceEq,t6];obtain⟨j1,j2⟩:=tS k1 ((gz.has hHX).trans k2) h6S (h6g k2) [dI 0,dI 0,.sl 0 true [],dI 0,dI 0,dI 0,dI 0,.sl 0 true []];rw[hd16];exact⟨.agg ⟨.refl _,.refl _,.nil _ _ _,.refl _,.refl _,.refl _,.refl _,.nil _ _ _,trivial⟩,_,j1,j2⟩
  have e16:(o.kind=16)=False:=eq_false hk16;have hlv:0≤o.level∧o.level<(μ.l.length:Int):=hck'.2.resolve_left hk16;have hxo:g.ls[o.level.toNat]? =some (g.ls[o.level.toNat]'(by omega)):=Xb _;generalize g.ls[o.level.toNat]'(by omega)=own at hxo;simp(maxDischargeDepth:=12) (maxSteps:=1000000) -implicitDefEqProofs only[go_sem,Nat.reduceAdd,Nat.reduceSub,Nat.reduceMul,Nat.reduceLeDiff,Nat.reduceEqDiff,Nat.reduceGT,Nat.reduceBEq,reduceCtorEq,↓reduceIte,Int.reduceToNat,Int.reduceLE,Int.reduceLT,Int.reduceNe,Int.reduceEq,n1,e0,e16];refine Y.vz [12] [] [0,2,3,4,5,7,1,6,8,9,10,11,12,13] mx (by kernel_rfl) ?_;simp(maxDischargeDepth:=12) (maxSteps:=1000000) -implicitDefEqProofs only[go_sem,Nat.reduceAdd,Nat.reduceSub,Nat.reduceMul,Nat.reduceLeDiff,Nat.reduceEqDiff,Nat.reduceGT,Nat.reduceBEq,reduceCtorEq,↓reduceIte,Int.reduceToNat,Int.reduceLE,Int.reduceLT,Int.reduceNe,Int.reduceEq,n1,hmd,hm4,hm6,hxo];refine⟨hlv.1,by omega,fun bw=>?_⟩;have m4:=av bw b4.n (by simp(maxDischargeDepth:=12) (maxSteps:=1000000) -implicitDefEqProofs only[go_sem,Nat.reduceAdd,Nat.reduceSub,Nat.reduceMul,Nat.reduceLeDiff,Nat.reduceEqDiff,Nat.reduceGT,Nat.reduceBEq,reduceCtorEq,↓reduceIte,Int.reduceToNat,Int.reduceLE,Int.reduceLT,Int.reduceNe,Int.reduceEq,n1]);have m6:=av bw b6.n (by simp(maxDischargeDepth:=12) (maxSteps:=1000000) -implicitDefEqProofs only[go_sem,Nat.reduceAdd,Nat.reduceSub,Nat.reduceMul,Nat.reduceLeDiff,Nat.reduceEqDiff,Nat.reduceGT,Nat.reduceBEq,reduceCtorEq,↓reduceIte,Int.reduceToNat,Int.reduceLE,Int.reduceLT,Int.reduceNe,Int.reduceEq]);have mm:=av bw g.m (by simp(maxDischargeDepth:=12) (maxSteps:=1000000) -implicitDefEqProofs only[go_sem,Nat.reduceAdd,Nat.reduceSub,Nat.reduceMul,Nat.reduceLeDiff,Nat.reduceEqDiff,Nat.reduceGT,Nat.reduceBEq,reduceCtorEq,↓reduceIte,Int.reduceToNat,Int.reduceLE,Int.reduceLT,Int.reduceNe,Int.reduceEq,hmd,hm4,hm6])
  have hbwS:lk S.box bw.n=none:=by
   have q:=ak bw;simp only[lk]at q;rw[if_neg (fun e=>by rw[←m6];exact e.symm),if_neg (fun e=>by rw[←m4];exact e.symm)]at q;exact q
  have hbwl:bw.n∉g.bx:=fun q=>hI.mn q hbwS;refine Y.vz [] [7] [0,1,2,4,3,5,6,7] mx (by kernel_rfl) ?_;simp(maxDischargeDepth:=12) (maxSteps:=1000000) -implicitDefEqProofs only[go_sem,Nat.reduceAdd,Nat.reduceSub,Nat.reduceMul,Nat.reduceLeDiff,Nat.reduceEqDiff,Nat.reduceGT,Nat.reduceBEq,reduceCtorEq,↓reduceIte,Int.reduceToNat,Int.reduceLE,Int.reduceLT,Int.reduceNe,Int.reduceEq,n1,hmd,hm4,hm6,m4,m6,mm];obtain⟨X2,hX2⟩:∃X2:St,X2=⟨(bw.n,qY g.m own o full)::(b6.n,[dI 0,dI 0,.sl 0 true [],dI 0,dI 0,dI 0,dI 0,.sl 0 true []])::(b4.n,[dI o.kind,dI o.level,dI o.aB,dI o.snap,dS (tx o.bucket),dS (tx o.key),dS (tx o.value),dI o.label,dI o.eX,dI o.n,.sl 1 false (az o.bY)])::S.box,S.acc⟩:=⟨_,rfl⟩;have hXX2:Has ⟨(b6.n,[dI 0,dI 0,.sl 0 true [],dI 0,dI 0,dI 0,dI 0,.sl 0 true []])::(b4.n,[dI o.kind,dI o.level,dI o.aB,dI o.snap,dS (tx o.bucket),dS (tx o.key),dS (tx o.value),dI o.label,dI o.eX,dI o.n,.sl 1 false (az o.bY)])::S.box,S.acc⟩ X2:=by rw[hX2];exact⟨fun b x q=>ai (ak bw) q,fun _ _ q=>q⟩
  have y4:lk X2.box b4.n=some [dI o.kind,dI o.level,dI o.aB,dI o.snap,dS (tx o.bucket),dS (tx o.key),dS (tx o.value),dI o.label,dI o.eX,dI o.n,.sl 1 false (az o.bY)]:=hXX2.box _ _ x4;have y6:lk X2.box b6.n=some [dI 0,dI 0,.sl 0 true [],dI 0,dI 0,dI 0,dI 0,.sl 0 true []]:=hXX2.box _ _ x6;have yw:lk X2.box bw.n=some (qY g.m own o full):=by rw[hX2];simp[lk]
  have hI2:=hIX.has hXX2;subst hX2;refine Y.kS (fun T hT=>dG _ (hT.box _ _ yw)) ?_;simp(maxDischargeDepth:=12) (maxSteps:=1000000) -implicitDefEqProofs only[go_sem,Nat.reduceAdd,Nat.reduceSub,Nat.reduceMul,Nat.reduceLeDiff,Nat.reduceEqDiff,Nat.reduceGT,Nat.reduceBEq,reduceCtorEq,↓reduceIte,Int.reduceToNat,Int.reduceLE,Int.reduceLT,Int.reduceNe,Int.reduceEq,n1,hmd,hm4,hm6,m4,m6,mm];refine Y.kS (fun T hT=>Tl _ (hI2.has hT).tb o.level o.aB) ?_;by_cases hopen:cX μ.r o.level o.aB<μ.r.length
  case neg=>
   rw[decide_eq_false hopen];simp(maxDischargeDepth:=12) (maxSteps:=1000000) -implicitDefEqProofs only[go_sem,Nat.reduceAdd,Nat.reduceSub,Nat.reduceMul,Nat.reduceLeDiff,Nat.reduceEqDiff,Nat.reduceGT,Nat.reduceBEq,reduceCtorEq,↓reduceIte,Int.reduceToNat,Int.reduceLE,Int.reduceLT,Int.reduceNe,Int.reduceEq];refine aj (aC _ false 30 _ fun _ T hT=>?_) ?_
   ·exact hpan 30 (by unfold eK;rw[if_neg (by rw[hck];simp),if_neg hk0,if_neg hk16,if_pos hopen]) T g ((hI2.has hT).le (XI N)) ((gz.has hXX2).trans (.has hT))
   rintro _ _ ⟨q,_⟩;cases q
  rw[decide_eq_true hopen];simp(maxDischargeDepth:=12) (maxSteps:=1000000) -implicitDefEqProofs only[go_sem,Nat.reduceAdd,Nat.reduceSub,Nat.reduceMul,Nat.reduceLeDiff,Nat.reduceEqDiff,Nat.reduceGT,Nat.reduceBEq,reduceCtorEq,↓reduceIte,Int.reduceToNat,Int.reduceLE,Int.reduceLT,Int.reduceNe,Int.reduceEq];refine aj (aC _ true 30 _ fun h=>by cases h) ?_;rintro _ _ ⟨_,rfl,rfl⟩;have hdm:eK eQ c μ o full=DW μ (ed eQ c μ o full):=by unfold eK;rw[if_neg (by rw[hck];simp),if_neg hk0,if_neg hk16,if_neg (fun q=>q hopen)]
  have hses:o.aB≠0:=by
   obtain⟨s,hs,_⟩:=nr hopen;have:=(hI.tb.ok.le hs).1;rw[(eM hs).2.1]at this;omega
  have hwk:lV ⟨(bw.n,qY g.m own o full)::(b6.n,[dI 0,dI 0,.sl 0 true [],dI 0,dI 0,dI 0,dI 0,.sl 0 true []])::(b4.n,[dI o.kind,dI o.level,dI o.aB,dI o.snap,dS (tx o.bucket),dS (tx o.key),dS (tx o.value),dI o.label,dI o.eX,dI o.n,.sl 1 false (az o.bY)])::S.box,S.acc⟩ g bw.n own o full:=⟨yw,hxo,hlv.1,hbwl,hses⟩;simp(maxDischargeDepth:=12) (maxSteps:=1000000) -implicitDefEqProofs only[go_sem,Nat.reduceAdd,Nat.reduceSub,Nat.reduceMul,Nat.reduceLeDiff,Nat.reduceEqDiff,Nat.reduceGT,Nat.reduceBEq,reduceCtorEq,↓reduceIte,Int.reduceToNat,Int.reduceLE,Int.reduceLT,Int.reduceNe,Int.reduceEq];refine Y.vz [0] [3,5,6] [1,4,2,0,3,5,6] mx (by kernel_rfl) ?_;simp(maxDischargeDepth:=12) (maxSteps:=1000000) -implicitDefEqProofs only[go_sem,Nat.reduceAdd,Nat.reduceSub,Nat.reduceMul,Nat.reduceLeDiff,Nat.reduceEqDiff,Nat.reduceGT,Nat.reduceBEq,reduceCtorEq,↓reduceIte,Int.reduceToNat,Int.reduceLE,Int.reduceLT,Int.reduceNe,Int.reduceEq,m4,n1];refine aj (L1 _ _) ?_;rintro _ _ ⟨l,es,cl,rfl,rfl,hget⟩;have hgk:=hget o.kind (by omega) (by omega);have hokf:=Hu (k:=o.kind) (by omega) (by omega);simp(maxDischargeDepth:=12) (maxSteps:=1000000) -implicitDefEqProofs only[go_sem,Nat.reduceAdd,Nat.reduceSub,Nat.reduceMul,Nat.reduceLeDiff,Nat.reduceEqDiff,Nat.reduceGT,Nat.reduceBEq,reduceCtorEq,↓reduceIte,Int.reduceToNat,Int.reduceLE,Int.reduceLT,Int.reduceNe,Int.reduceEq,m4,n1,hgk,hokf];have hX3:Has ⟨(bw.n,qY g.m own o full)::(b6.n,[dI 0,dI 0,.sl 0 true [],dI 0,dI 0,dI 0,dI 0,.sl 0 true []])::(b4.n,[dI o.kind,dI o.level,dI o.aB,dI o.snap,dS (tx o.bucket),dS (tx o.key),dS (tx o.value),dI o.label,dI o.eX,dI o.n,.sl 1 false (az o.bY)])::S.box,S.acc⟩ ⟨(bw.n,qY g.m own o full)::(b6.n,[dI 0,dI 0,.sl 0 true [],dI 0,dI 0,dI 0,dI 0,.sl 0 true []])::(b4.n,[dI o.kind,dI o.level,dI o.aB,dI o.snap,dS (tx o.bucket),dS (tx o.key),dS (tx o.value),dI o.label,dI o.eX,dI o.n,.sl 1 false (az o.bY)])::S.box,(l.n,.xo (.mp (.int .i64) es cl))::S.acc⟩:=⟨fun _ _ q=>q,fun a x q=>ai (ak l) q⟩;refine SU (Vz (w0:=⟨w0.w,w0.gh,pq⟩) hgC (hI2.has hX3) hM hgr hN (hwk.has hX3) (by omega) (by omega) fun e he T g' k1 k2=>hpan e (by rw[hdm,he];rfl) T g' k1 (((gz.has hXX2).trans (.has hX3)).trans k2)) ?_;rintro d T ⟨r,μ',g',ho,hwd,k1,k2⟩;refine⟨Hx r,hwd,?_⟩;have hFX:=((gz.has hXX2).trans (.has hX3)).trans k2;have t6:lk T.box b6.n=some [dI 0,dI 0,.sl 0 true [],dI 0,dI 0,dI 0,dI 0,.sl 0 true []]:=hFX.box _ _ h6l x6;rw[ho]at hdm;simp(maxDischargeDepth:=12) (maxSteps:=1000000) -implicitDefEqProofs only[go_sem,Nat.reduceAdd,Nat.reduceSub,Nat.reduceMul,Nat.reduceLeDiff,Nat.reduceEqDiff,Nat.reduceGT,Nat.reduceBEq,reduceCtorEq,↓reduceIte,Int.reduceToNat,Int.reduceLE,Int.reduceLT,Int.reduceNe,Int.reduceEq,t6];obtain⟨j1,j2⟩:=tS k1 ((gz.has hHX).trans hFX) h6S (h6g hFX) [dI r.e,dI r.n,.sl 3 false (r.rows.map pQ),dI 0,dI 0,dI 0,dI 0,.sl 6 false (r.pd.map sg)];rw[hdm];exact⟨.refl _,g',j1,j2⟩
 ·intro w;exact gV (D1 (fz none) (fun _=>trivial) rfl ⟨b6.n,0,none⟩ w) fun e u w' h=>⟨⟨_,h.1⟩,h.2.1,h.2.2⟩
 ·rintro g0 T w v d r hv hq;rw[hpq]at hq;obtain⟨e,he,rfl,g',hIT,hFT⟩:=hq;obtain⟨u,rfl,hu⟩:=ko hv;have hu:=an hu;subst hu;have t6:lk T.box b6.n=some [dI 0,dI 0,.sl 0 true [],dI 0,dI 0,dI 0,dI 0,.sl 0 true []]:=hFT.box _ _ h6l x6;obtain⟨us,e1,hh,hru,hone,hset⟩:=r.yU (ds':=[dI e,dI 0,.sl 0 true [],dI 0,dI 0,dI 0,dI 0,.sl 0 true []]) t6;have hus:us.size=8:=by have:=hru.len;simpa using this.symm
  refine gV (JP (fz none) (fun _=>trivial) rfl b6.n e1 us e [] w hh hus) ?_;rintro e' u' w' ⟨h1,h2,h3⟩;refine⟨⟨_,h1⟩,h2,g0,⟨up T.box b6.n [dI e,dI 0,.sl 0 true [],dI 0,dI 0,dI 0,dI 0,.sl 0 true []],T.acc⟩,.refl g0,?_,?_⟩
  ·rw[h3];refine hset _ ?_ ?_
   ·exact ae.cons (.v _ rfl) (ae.cons (.v _ rfl) (ae.cons (.nil 0 true none 0 fun _=>rfl) (ae.cons (.v _ rfl) (ae.cons (.v _ rfl) (ae.cons (.v _ rfl) (ae.cons (.v _ rfl) (ae.cons (.nil 0 true none 0 fun _=>rfl) (ae.nil _))))))))
   ·intro u hu;simp at hu
    repeat' first|(rcases hu with rfl|hu;rfl)|(subst hu;rfl)
  ·simp(maxDischargeDepth:=12) (maxSteps:=1000000) -implicitDefEqProofs only[go_sem,Nat.reduceAdd,Nat.reduceSub,Nat.reduceMul,Nat.reduceLeDiff,Nat.reduceEqDiff,Nat.reduceGT,Nat.reduceBEq,reduceCtorEq,↓reduceIte,Int.reduceToNat,Int.reduceLE,Int.reduceLT,Int.reduceNe,Int.reduceEq,t6];obtain⟨k1,k2⟩:=tS hIT ((gz.has hHX).trans hFT) h6S (h6g hFT) [dI e,dI 0,.sl 0 true [],dI 0,dI 0,dI 0,dI 0,.sl 0 true []];rw[he];exact⟨.agg ⟨.refl _,.refl _,.nil _ _ _,.refl _,.refl _,.refl _,.refl _,.nil _ _ _,trivial⟩,g',k1,k2⟩
theorem NI{w0:W0}{S:St}{g:MG}{N:Nat}{c:Cf}{μ:bc}{o:bl}{full:Bool}(hgO:l8 w0)(hgC:jY w0)(hI:MI S g N c μ)(hM:fx N c μ)(hgr:c.gr.length≤1048576)(hN:N≤10000):
 aa Tryz.prog w0 12 [bg g.m,HJ o,dB full] S (fun d S'=>d=Hx (eK eQ c μ o full).1∧∃g',MI S' g' (N+1) c (eK eQ c μ o full).2∧gz S S' g g'):=
 iD (Sm hgO hgC hI hM hgr hN) (eW.refl _) fun d S' h=>⟨_,h.1,rfl,h.2⟩
end Go.Proofs.YtoepfmhnapedoaaGreatDoor
namespace Aml.Y
open Go Go.RowKit
section
variable {P:Program} {w0:W0} {S0 S1:St} {ops:Array Oper} {md:Region.Mode}
def Ii(gs ns:List Nat)(md:Region.Mode)(ops:Array Oper)(F:Array Bool→Bool):List Nat→Array Bool→Bool
 |[],listed=>F listed
 |k::ks,listed=>(Region.ready md ops listed).contains k&&KH gs ns md ops listed k&&Ii gs ns md ops F ks (listed.setIfInBounds k true)
theorem pk{k:Nat}{listed:Array Bool}{m:Nat}(hun:listed.getD k true=false)(hcnt:∀l':List Nat,l'.Nodup→(∀k,k∈l'→listed.getD k true=false)→l'.length≤m+1):∀l':List Nat,l'.Nodup→(∀j,j∈l'→(listed.setIfInBounds k true).getD j true=false)→l'.length≤m:=by
 intro l' hn hl'
 have hks:k<listed.size:=by
  rcases XM k listed.size with h|h
  ·exact h
  ·rw[Xx,Yc h]at hun;cases hun
 have hkl:k∉l':=fun hk=>by
  have:=hl' k hk;rw[Xx,Xz]at this;simp[hks]at this
 have:=hcnt (k::l') (Xu.2 ⟨hkl,hn⟩) fun m hm=>by
  rcases Xr.1 hm with rfl|hm
  ·exact hun
  ·have:=hl' m hm;rw[getD_set_ne true (show k≠m from fun e=>hkl (e▸hm))]at this;exact this
 simp at this;omega
theorem Le(hSS:∀T,Hm S0 T→Hm S1 T){gs ns:List Nat}{K G:List DV→St→Prop}{F:Array Bool→Bool}{m:Nat}
 (hG:∀listed fr S,F listed=true→(∀l':List Nat,l'.Nodup→(∀k,k∈l'→listed.getD k true=false)→l'.length≤m)→G fr S→HK P w0 S0 S1 gs ns md ops K m listed fr S):∀(l:List Nat) (listed:Array Bool) (fr:List DV) (S:St),
 (∀l':List Nat,l'.Nodup→(∀k,k∈l'→listed.getD k true=false)→l'.length≤l.length+m)→
 Ii gs ns md ops F l listed=true→LO P w0 S0 S1 gs ns ops G l fr S→HK P w0 S0 S1 gs ns md ops K (l.length+m) listed fr S
 |[],listed,fr,S,hcnt,hB,h=>by
  simp only[XP,Yh]at hcnt ⊢;exact hG listed fr S hB hcnt h
 |k::l,listed,fr,S,hcnt,hB,h=>by
  simp only[Ii,Xe]at hB;obtain⟨⟨hr,hf⟩,hB'⟩:=hB;have hr':k∈Region.ready md ops listed:=by simpa using hr
  have hun:=(mem_ready.1 hr').1;unfold LO at h;split at h
  ·exact h.elim
  rename_i o h0
  have hcnt':∀l':List Nat,l'.Nodup→(∀k,k∈l'→listed.getD k true=false)→l'.length≤(l.length+m)+1:=fun l' a b=>by
   have:=hcnt l' a b;simp only[Xo]at this;omega
  have e:(k::l).length+m=(l.length+m)+1:=by simp only[Xo];omega
  rw[e];refine r7 hSS h0 (l.length+m) listed fr S (rM hf) (pE h0 hf) hcnt' hr' ?_;exact cT (fun fr S h=>⟨S,.refl S,Le hSS hG l _ fr S (pk hun hcnt') hB' h⟩) h
theorem oe{gs ns:List Nat}{K K':List DV→St→Prop}(h:∀fr S,K fr S→K' fr S):∀(l:List Nat) {fr:List DV} {S:St},LO P w0 S0 S1 gs ns ops K l fr S→LO P w0 S0 S1 gs ns ops K' l fr S
 |[],fr,S,q=>h _ _ q
 |i::is,fr,S,q=>by
  unfold LO at q ⊢;split at q
  ·exact q.elim
  ·exact cT (fun fr S q=>oe h is q) q
inductive Tr where
 |ord (l:List Nat)
 |br (pre:List Nat) (a:Nat) (ta:Tr) (b:Nat) (tb:Tr)
def KO:Tr→Nat
 | .ord l=>l.length
 | .br pre a ta b tb=>pre.length+(KO ta+1)
def HC(gs ns:List Nat)(ops:Array Oper):Tr→Array Bool→Bool
 | .ord l,listed=>vy gs ns .any ops l listed
 | .br pre a ta b tb,listed=>KO ta==KO tb&&Ii gs ns .any ops (fun listed=>(Region.ready .any ops listed).all (fun i=>i==a||i==b)&&!(Region.ready .any ops listed).isEmpty&&HC gs ns ops ta (listed.setIfInBounds a true)&&HC gs ns ops tb (listed.setIfInBounds b true)) pre listed
def LT(P:Program)(w0:W0)(S0 S1:St)(gs ns:List Nat)(ops:Array Oper)(K:List DV→St→Prop):Tr→List DV→St→Prop
 | .ord l,fr,S=>LO P w0 S0 S1 gs ns ops K l fr S
 | .br pre a ta b tb,fr,S=>LO P w0 S0 S1 gs ns ops (fun fr S=>LO P w0 S0 S1 gs ns ops (LT P w0 S0 S1 gs ns ops K ta) [a] fr S∧LO P w0 S0 S1 gs ns ops (LT P w0 S0 S1 gs ns ops K tb) [b] fr S) pre fr S
def KB(P:Program)(w0:W0)(S0 S1:St)(gs ns:List Nat)(ops:Array Oper)(K:List DV→St→Prop):Tr→List DV→St→Prop
 | .ord l,fr,S=>jL P w0 S0 S1 gs ns ops K l fr S
 | .br pre a ta b tb,fr,S=>jL P w0 S0 S1 gs ns ops (fun fr S=>jL P w0 S0 S1 gs ns ops (KB P w0 S0 S1 gs ns ops K ta) [a] fr S∧jL P w0 S0 S1 gs ns ops (KB P w0 S0 S1 gs ns ops K tb) [b] fr S) pre fr S
theorem nf{gs ns:List Nat}{K:List DV→St→Prop}(hs:∀(i:Nat) (o:Oper),ops[i]? =some o→eY o.op=true):∀(t:Tr) {fr:List DV} {S:St},KB P w0 S0 S1 gs ns ops K t fr S→LT P w0 S0 S1 gs ns ops K t fr S
 | .ord l,fr,S,h=>cr hs l h
 | .br pre a ta b tb,fr,S,h=>oe (fun fr S h=>⟨oe (fun fr S h=>nf hs ta h) _ (cr hs _ h.1),oe (fun fr S h=>nf hs tb h) _ (cr hs _ h.2)⟩) pre (cr hs pre h)
theorem Hj(hSS:∀T,Hm S0 T→Hm S1 T){gs ns:List Nat}{K:List DV→St→Prop}:∀(t:Tr) (listed:Array Bool) (fr:List DV) (S:St),
 (∀l':List Nat,l'.Nodup→(∀k,k∈l'→listed.getD k true=false)→l'.length≤KO t)→
 HC gs ns ops t listed=true→LT P w0 S0 S1 gs ns ops K t fr S→HK P w0 S0 S1 gs ns .any ops K (KO t) listed fr S
 | .ord l,listed,fr,S,hcnt,hB,h=>oh hSS l listed fr S hcnt hB h
 | .br pre a ta b tb,listed,fr,S,hcnt,hB,h=>by
  simp only[HC,Xe,beq_iff_eq]at hB;obtain⟨he,hB⟩:=hB;refine Le hSS (m:=KO ta+1) (fun listed fr S hF hc hG=>?_) pre listed fr S hcnt hB h;simp only[Xe]at hF;obtain⟨⟨⟨hr,hne⟩,ha⟩,hb⟩:=hF;refine⟨fun h0=>(by rw[h0]at hne;cases hne),fun i hi=>?_⟩;have hik:i=a∨i=b:=by have:=Xv.1 hr i hi;simpa using this
  have hun:=(mem_ready.1 hi).1;rcases hik with rfl|rfl
  ·have hq:=hG.1;unfold LO at hq;unfold pJ
   cases ho:ops[i]? with
   |none=>rw[ho]at hq;exact hq.elim
   |some o=>
    rw[ho]at hq;simp only at hq ⊢;exact cT (fun fr S h=>⟨S,.refl S,Hj hSS ta _ fr S (pk hun hc) ha h⟩) hq
  ·have hq:=hG.2;unfold LO at hq;unfold pJ
   cases ho:ops[i]? with
   |none=>rw[ho]at hq;exact hq.elim
   |some o=>
    rw[ho]at hq;simp only at hq ⊢;exact cT (fun fr S h=>⟨S,.refl S,by rw[he];exact Hj hSS tb _ fr S (fun l' x y=>by have:=pk hun hc l' x y;rw[he]at this;exact this) hb h⟩) hq
def O8(l:List Oper)(gs ns:List Nat)(t:Tr):Bool:=l.all (fun o=>eY o.op)&&HC gs ns l.toArray t (Array.replicate l.length false)&&(KO t==l.length)
theorem SI(S0 S1:St)(gs ns:List Nat)(t:Tr){id:Nat}{l:List Oper}{fr:List DV}{S:St}{Q:Exit→List DV→St→Prop}(hm:P.follows .mixedOrders=true)(hB:O8 l gs ns t=true)(hSS:∀T,Hm S0 T→Hm S1 T)
 (h:KB P w0 S0 S1 gs ns l.toArray (fun fr S=>gI fr fun fr=>Q .normal fr S) t fr S):fF P w0 (.region id l.toArray true) fr S Q:=by
 simp only[O8,Xe,beq_iff_eq]at hB
 have hs:∀(i:Nat) (o:Oper),l.toArray[i]? =some o→eY o.op=true:=fun i o ho=>by
  have:l[i]? =some o:=by simpa using ho
  exact Xv.1 hB.1.1 o (Xd this)
 have h':=nf hs t h;intro g a' w h1 h2 h3;refine dF hm fun ro=>?_;have hR:Rel w0 g S {w with drawn:=w.drawn+1}:=h1.grow (iW w)
 have hcnt:∀l':List Nat,l'.Nodup→(∀k,k∈l'→(Array.replicate l.length false).getD k true=false)→l'.length≤KO t:=by
  intro l' hn hl
  have hsub:∀k,k∈l'→k∈List.range l.length:=fun k hk=>by
   have:=hl k hk;rw[Yf];rcases XM k l.length with h|h
   ·exact h
   ·rw[Xx,Yc (by simpa using h)]at this;cases this
  have:=hn.length_le_of_subset (l₂:=List.range l.length) hsub;rw[hB.2];simpa using this
 have:=Hj (P:=P) (w0:=w0) (S0:=S0) (S1:=S1) (ops:=l.toArray) (K:=fun fr S=>Q .normal fr S) hSS t (Array.replicate l.length false) fr S hcnt hB.1.2 ?_
 ·have:=gi (ro:=ro) (g0:=g) (Q:=Q) _ _ fr S g a' _ (.refl g) hR h2 (h3.bY rfl fun _ _ h _=>h) this;rw[hB.2]at this;simpa using this
 ·exact h'
end
section
variable {P:Program} {w0:W0} {S0 S1:St} {gs ns:List Nat} {ops:Array Oper} {fr:List DV} {S:St} {K:List DV→St→Prop}
theorem P8(l:List Nat):KB P w0 S0 S1 gs ns ops K (.ord l) fr S=jL P w0 S0 S1 gs ns ops K l fr S:=rfl
theorem S8(pre:List Nat)(a:Nat)(ta:Tr)(b:Nat)(tb:Tr):KB P w0 S0 S1 gs ns ops K (.br pre a ta b tb) fr S=jL P w0 S0 S1 gs ns ops (fun fr S=>jL P w0 S0 S1 gs ns ops (KB P w0 S0 S1 gs ns ops K ta) [a] fr S∧jL P w0 S0 S1 gs ns ops (KB P w0 S0 S1 gs ns ops K tb) [b] fr S) pre fr S:=rfl
end
attribute [go_sem ↓] P8 S8
end Aml.Y
namespace Go.Proofs.YtoepfmhnapedoaaGreatDoor
open Aml Go Rn Lat Grs
theorem M7(w0:W0)(l:List (List UInt8))(S:St)(h0:l.length≤1048576):aa Tryz.prog w0 27 [.sl 1 false (az l)] S fun d S'=>d= .sl 1 false (az l)∧S'=S:=by
 refine ep (aa.mono (K:=fun d S'=>∃b:FN S.acc,d= .acc b.n (az l).length∧S'=⟨S.box,(b.n,.arr 1 (az l))::S.acc⟩) ?_ ?_)
 ·refine Cy 1 (by omega) ?_;refine jj [] mx Tryz.func27 rfl rfl (by kernel_rfl) ?_;simp(maxDischargeDepth:=12) (maxSteps:=1000000) -implicitDefEqProofs only[Tryz.ntmps27,go_sem,Nat.reduceAdd,Nat.reduceSub,Nat.reduceMul,Nat.reduceLeDiff,Nat.reduceEqDiff,Nat.reduceGT,Nat.reduceBEq,reduceCtorEq,↓reduceIte,Int.reduceToNat,Int.reduceLE,Int.reduceLT,Int.reduceNe,Int.reduceEq];intro b hb;refine⟨fun h1=> .inl ⟨X5 fun hn=>?_,0,rfl⟩,fun h1=>⟨by omega,by unfold maxLen;omega,fun c=> .inr ⟨c,rfl,rfl⟩⟩⟩;rw[hb hn]at h1;cases h1
 ·rintro d S' ⟨b,rfl,rfl⟩;simp(maxDischargeDepth:=12) (maxSteps:=1000000) -implicitDefEqProofs only[go_sem,Nat.reduceAdd,Nat.reduceSub,Nat.reduceMul,Nat.reduceLeDiff,Nat.reduceEqDiff,Nat.reduceGT,Nat.reduceBEq,reduceCtorEq,↓reduceIte,Int.reduceToNat,Int.reduceLE,Int.reduceLT,Int.reduceNe,Int.reduceEq]
theorem Oz(w0:W0)(l:List Nat)(S:St)(h0:l.length≤1048576):aa Tryz.prog w0 28 [.sl 1 false ((l.map fun x:Nat=>dU (x:Int)))] S fun d S'=>d= .sl 1 false ((l.map fun x:Nat=>dU (x:Int)))∧S'=S:=by
 refine ep (aa.mono (K:=fun d S'=>∃b:FN S.acc,d= .acc b.n ((l.map fun x:Nat=>dU (x:Int))).length∧S'=⟨S.box,(b.n,.arr 1 ((l.map fun x:Nat=>dU (x:Int))))::S.acc⟩) ?_ ?_)
 ·refine Cy 1 (by omega) ?_;refine jj [] mx Tryz.func28 rfl rfl (by kernel_rfl) ?_;simp(maxDischargeDepth:=12) (maxSteps:=1000000) -implicitDefEqProofs only[Tryz.ntmps28,go_sem,Nat.reduceAdd,Nat.reduceSub,Nat.reduceMul,Nat.reduceLeDiff,Nat.reduceEqDiff,Nat.reduceGT,Nat.reduceBEq,reduceCtorEq,↓reduceIte,Int.reduceToNat,Int.reduceLE,Int.reduceLT,Int.reduceNe,Int.reduceEq];intro b hb;refine⟨fun h1=> .inl ⟨X5 fun hn=>?_,0,rfl⟩,fun h1=>⟨by omega,by unfold maxLen;omega,fun c=> .inr ⟨c,rfl,rfl⟩⟩⟩;rw[hb hn]at h1;cases h1
 ·rintro d S' ⟨b,rfl,rfl⟩;simp(maxDischargeDepth:=12) (maxSteps:=1000000) -implicitDefEqProofs only[go_sem,Nat.reduceAdd,Nat.reduceSub,Nat.reduceMul,Nat.reduceLeDiff,Nat.reduceEqDiff,Nat.reduceGT,Nat.reduceBEq,reduceCtorEq,↓reduceIte,Int.reduceToNat,Int.reduceLE,Int.reduceLT,Int.reduceNe,Int.reduceEq]
theorem MD(w0:W0)(l:List Int)(S:St)(h0:l.length≤1048576):aa Tryz.prog w0 29 [.sl 1 false (l.map dI)] S fun d S'=>d= .sl 1 false (l.map dI)∧S'=S:=by
 refine ep (aa.mono (K:=fun d S'=>∃b:FN S.acc,d= .acc b.n (l.map dI).length∧S'=⟨S.box,(b.n,.arr 1 (l.map dI))::S.acc⟩) ?_ ?_)
 ·refine Cy 1 (by omega) ?_;refine jj [] mx Tryz.func29 rfl rfl (by kernel_rfl) ?_;simp(maxDischargeDepth:=12) (maxSteps:=1000000) -implicitDefEqProofs only[Tryz.ntmps29,go_sem,Nat.reduceAdd,Nat.reduceSub,Nat.reduceMul,Nat.reduceLeDiff,Nat.reduceEqDiff,Nat.reduceGT,Nat.reduceBEq,reduceCtorEq,↓reduceIte,Int.reduceToNat,Int.reduceLE,Int.reduceLT,Int.reduceNe,Int.reduceEq];intro b hb;refine⟨fun h1=> .inl ⟨X5 fun hn=>?_,0,rfl⟩,fun h1=>⟨by omega,by unfold maxLen;omega,fun c=> .inr ⟨c,rfl,rfl⟩⟩⟩;rw[hb hn]at h1;cases h1
 ·rintro d S' ⟨b,rfl,rfl⟩;simp(maxDischargeDepth:=12) (maxSteps:=1000000) -implicitDefEqProofs only[go_sem,Nat.reduceAdd,Nat.reduceSub,Nat.reduceMul,Nat.reduceLeDiff,Nat.reduceEqDiff,Nat.reduceGT,Nat.reduceBEq,reduceCtorEq,↓reduceIte,Int.reduceToNat,Int.reduceLE,Int.reduceLT,Int.reduceNe,Int.reduceEq]
theorem Lt(w0:W0)(l:List G)(S:St)(h0:l.length≤1048576):aa Tryz.prog w0 30 [.sl 3 false (l.map gD)] S fun d S'=>d= .sl 3 false (l.map gD)∧S'=S:=by
 refine ep (aa.mono (K:=fun d S'=>∃b:FN S.acc,d= .acc b.n (l.map gD).length∧S'=⟨S.box,(b.n,.arr 3 (l.map gD))::S.acc⟩) ?_ ?_)
 ·refine Cy 3 (by omega) ?_;refine jj [] mx Tryz.func30 rfl rfl (by kernel_rfl) ?_;simp(maxDischargeDepth:=12) (maxSteps:=1000000) -implicitDefEqProofs only[Tryz.ntmps30,go_sem,Nat.reduceAdd,Nat.reduceSub,Nat.reduceMul,Nat.reduceLeDiff,Nat.reduceEqDiff,Nat.reduceGT,Nat.reduceBEq,reduceCtorEq,↓reduceIte,Int.reduceToNat,Int.reduceLE,Int.reduceLT,Int.reduceNe,Int.reduceEq];intro b hb;refine⟨fun h1=> .inl ⟨X5 fun hn=>?_,0,rfl⟩,fun h1=>⟨by omega,by unfold maxLen;omega,fun c=> .inr ⟨c,rfl,rfl⟩⟩⟩;rw[hb hn]at h1;cases h1
 ·rintro d S' ⟨b,rfl,rfl⟩;simp(maxDischargeDepth:=12) (maxSteps:=1000000) -implicitDefEqProofs only[go_sem,Nat.reduceAdd,Nat.reduceSub,Nat.reduceMul,Nat.reduceLeDiff,Nat.reduceEqDiff,Nat.reduceGT,Nat.reduceBEq,reduceCtorEq,↓reduceIte,Int.reduceToNat,Int.reduceLE,Int.reduceLT,Int.reduceNe,Int.reduceEq]
def wR(n:Nat):bc:=⟨List.replicate n ⟨fun _=>none,[],0,fun _=>none⟩,[],fun _ _ _=>none⟩
theorem iF{α:Type}(b:Nat)(v:α)(L:List (Nat×α)):lk ((b,v)::L) b=some v:=by simp[lk]
def Vs(S:St)(c:Cf)(T:St)(θ:ec)(sn m:Nat):Prop:=lk T.box m=some [.sl 1 false (az c.nm),dZ c.up,lA c.qu,jk c.gr,.sl 0 true [],bg θ.t,.mp sn]∧TI T θ []∧lk T.acc sn=some (.xo (.mp (.st [.i64,.i64,.i64]) [] 0))∧(∀i v,lk S.box i=some v→lk T.box i=some v)∧(∀i v,lk S.acc i=some v→lk T.acc i=some v)∧
 (∀i,i∈θ.bx→lk S.box i=none)∧(∀i,i∈θ.ax→lk S.acc i=none)∧lk S.box m=none∧lk S.acc sn=none∧m∉θ.bx∧sn∉θ.ax
structure V0(T:St)(c:Cf)(θ:ec)(sn m lr:Nat)(i:Nat)(B:List (Nat×List DV))(A:List (Nat×Ob))(ls:List Nat)(own:Nat→Ow):Prop where
 mb:lk B m=some [.sl 1 false (az c.nm),dZ c.up,lA c.qu,jk c.gr,.acc lr i,bg θ.t,.mp sn]
 row:lk A lr=some (.arr 1 (ls.map bg))
 len:ls.length=i
 H5:∀j v,j≠m→lk T.box j=some v→lk B j=some v
 Oe:∀j v,lk T.acc j=some v→lk A j=some v
 el:∀(x:Nat) bx,ls[x]? =some bx→lk T.box bx=none∧∃b r,lk B bx=some [.mp b,.acc r 0,dI 0,.v (.map none)]∧lk A b=some (.xo (.mp .str [] 0))∧lk A r=some (.arr 6 [])∧own b= .b x∧own r= .au x
 nd:ls.Nodup
 ow:∀j,own j≠ .no→lk T.acc j=none∧j≠lr∧lk A j≠none
theorem L6{w0:W0}(hgT:gq w0)(hk:KU w0)(c:Cf)(hc:yY c)(S:St):
 aa Tryz.prog w0 10 [OP c] S (fun d S'=>(¬HV c∧d= .cK [.v (.pointer none),dI 1]∧S'=S)∨(HV c∧∃g,d= .cK [bg g.m,dI 0]∧MI S' g 0 c (wR c.up.length)∧(∀i v,lk S.box i=some v→lk S'.box i=some v)∧(∀i v,lk S.acc i=some v→lk S'.acc i=some v)∧(∀i,i∈g.bx→lk S.box i=none)∧∀i,g.own i≠ .no→lk S.acc i=none)):=by
 have h1:=hc.TA;have h2:=hc.TJ;have h3:=hc.Sv;have h4:=hc.Pk;refine mi [4,9] mx Tryz.func10 rfl rfl (by kernel_rfl) ?_;simp(maxDischargeDepth:=12) (maxSteps:=1000000) -implicitDefEqProofs only[Tryz.ntmps10,go_sem,Nat.reduceAdd,Nat.reduceSub,Nat.reduceMul,Nat.reduceLeDiff,Nat.reduceEqDiff,Nat.reduceGT,Nat.reduceBEq,reduceCtorEq,↓reduceIte,Int.reduceToNat,Int.reduceLE,Int.reduceLT,Int.reduceNe,Int.reduceEq];intro b1;refine aw (L4 _ hgT hk c hc _) ?_;by_cases hP:HV c
 case neg=>
  rw[jI hP];simp(maxDischargeDepth:=12) (maxSteps:=1000000) -implicitDefEqProofs only[go_sem,Nat.reduceAdd,Nat.reduceSub,Nat.reduceMul,Nat.reduceLeDiff,Nat.reduceEqDiff,Nat.reduceGT,Nat.reduceBEq,reduceCtorEq,↓reduceIte,Int.reduceToNat,Int.reduceLE,Int.reduceLT,Int.reduceNe,Int.reduceEq];exact⟨_,_,.refl _,.aP (.refl _),.inl ⟨hP,rfl,rfl⟩⟩
 rw[da hP];simp(maxDischargeDepth:=12) (maxSteps:=1000000) -implicitDefEqProofs only[go_sem,Nat.reduceAdd,Nat.reduceSub,Nat.reduceMul,Nat.reduceLeDiff,Nat.reduceEqDiff,Nat.reduceGT,Nat.reduceBEq,reduceCtorEq,↓reduceIte,Int.reduceToNat,Int.reduceLE,Int.reduceLT,Int.reduceNe,Int.reduceEq];refine df (M7 w0 c.nm _ h1) ?_;simp(maxDischargeDepth:=12) (maxSteps:=1000000) -implicitDefEqProofs only[go_sem,Nat.reduceAdd,Nat.reduceSub,Nat.reduceMul,Nat.reduceLeDiff,Nat.reduceEqDiff,Nat.reduceGT,Nat.reduceBEq,reduceCtorEq,↓reduceIte,Int.reduceToNat,Int.reduceLE,Int.reduceLT,Int.reduceNe,Int.reduceEq];refine df (Oz w0 c.up _ h2) ?_;simp(maxDischargeDepth:=12) (maxSteps:=1000000) -implicitDefEqProofs only[go_sem,Nat.reduceAdd,Nat.reduceSub,Nat.reduceMul,Nat.reduceLeDiff,Nat.reduceEqDiff,Nat.reduceGT,Nat.reduceBEq,reduceCtorEq,↓reduceIte,Int.reduceToNat,Int.reduceLE,Int.reduceLT,Int.reduceNe,Int.reduceEq];refine df (MD w0 c.qu _ h3) ?_;simp(maxDischargeDepth:=12) (maxSteps:=1000000) -implicitDefEqProofs only[go_sem,Nat.reduceAdd,Nat.reduceSub,Nat.reduceMul,Nat.reduceLeDiff,Nat.reduceEqDiff,Nat.reduceGT,Nat.reduceBEq,reduceCtorEq,↓reduceIte,Int.reduceToNat,Int.reduceLE,Int.reduceLT,Int.reduceNe,Int.reduceEq];refine df (Lt w0 c.gr _ h4) ?_;simp(maxDischargeDepth:=12) (maxSteps:=1000000) -implicitDefEqProofs only[go_sem,Nat.reduceAdd,Nat.reduceSub,Nat.reduceMul,Nat.reduceLeDiff,Nat.reduceEqDiff,Nat.reduceGT,Nat.reduceBEq,reduceCtorEq,↓reduceIte,Int.reduceToNat,Int.reduceLE,Int.reduceLT,Int.reduceNe,Int.reduceEq];have hb1:lk ((b1.n,[.sl 1 false (az c.nm),dZ c.up,lA c.qu,jk c.gr])::S.box) b1.n=some [.sl 1 false (az c.nm),dZ c.up,lA c.qu,jk c.gr]:=by simp[lk]
 refine yc (σ:=St×ec×Nat×Nat) [4] [1,4] (fun s=>[(4,bg s.2.2.2)]) (fun s=>s.1) (fun s=>Vs ⟨(b1.n,[.sl 1 false (az c.nm),dZ c.up,lA c.qu,jk c.gr])::S.box,S.acc⟩ c s.1 s.2.1 s.2.2.1 s.2.2.2) mx (by kernel_rfl) ?_ ?_
 ·refine Y.SI ⟨(b1.n,[.sl 1 false (az c.nm),dZ c.up,lA c.qu,jk c.gr])::S.box,S.acc⟩ ⟨[],[]⟩ [1,2,4] [] (.br [0] 1 (.ord [2,3,4,5]) 2 (.ord [1,3,4,5])) mx (by kernel_rfl) (fun T _=>Y.pg T) ?_;simp(maxDischargeDepth:=12) (maxSteps:=1000000) -implicitDefEqProofs only[go_sem,Nat.reduceAdd,Nat.reduceSub,Nat.reduceMul,Nat.reduceLeDiff,Nat.reduceEqDiff,Nat.reduceGT,Nat.reduceBEq,reduceCtorEq,↓reduceIte,Int.reduceToNat,Int.reduceLE,Int.reduceLT,Int.reduceNe,Int.reduceEq];refine⟨?_,fun sn=>?_⟩
  ·refine aj (Pp w0 _) ?_;rintro _ T ⟨θ,rfl,hT,hbx,hac,hfb,hfa⟩;simp(maxDischargeDepth:=12) (maxSteps:=1000000) -implicitDefEqProofs only[go_sem,Nat.reduceAdd,Nat.reduceSub,Nat.reduceMul,Nat.reduceLeDiff,Nat.reduceEqDiff,Nat.reduceGT,Nat.reduceBEq,reduceCtorEq,↓reduceIte,Int.reduceToNat,Int.reduceLE,Int.reduceLT,Int.reduceNe,Int.reduceEq];refine⟨⟨hbx,hac⟩,fun sn=>?_⟩;have hsn:=ak sn;refine⟨⟨hbx,fun i v q=>ai hsn (hac i v q)⟩,fun m=>?_⟩;have hm:=ak m
   have hmS:lk ((b1.n,[.sl 1 false (az c.nm),dZ c.up,lA c.qu,jk c.gr])::S.box) m.n=none:=by
    cases hx:lk ((b1.n,[.sl 1 false (az c.nm),dZ c.up,lA c.qu,jk c.gr])::S.box) m.n with
    |none=>rfl
    |some v=>rw[hbx _ _ hx]at hm;cases hm
   have hsS:lk S.acc sn.n=none:=by
    cases hx:lk S.acc sn.n with
    |none=>rfl
    |some v=>rw[hac _ _ hx]at hsn;cases hsn
   refine⟨⟨fun i v q=>ai hm (hbx i v q),fun i v q=>ai hsn (hac i v q)⟩,(⟨(m.n,[.sl 1 false (az c.nm),dZ c.up,lA c.qu,jk c.gr,.sl 0 true [],bg θ.t,.mp sn.n])::T.box,(sn.n,.xo (.mp (.st [.i64,.i64,.i64]) [] 0))::T.acc⟩,θ,sn.n,m.n),⟨iF _ _ _,hT.mono (fun i v _ q=>ai hm q) fun i v _ q=>ai hsn q,by simp[lk],fun i v q=>ai hm (hbx i v q),fun i v q=>ai hsn (hac i v q),hfb,hfa,hmS,hsS,fun q=>hT.mn _ q hm,fun q=>hT.uE _ q hsn⟩,.refl _,.refl _⟩
  ·have hsn:=ak sn;refine aj (Pp w0 _) ?_;rintro _ T ⟨θ,rfl,hT,hbx,hac,hfb,hfa⟩;simp(maxDischargeDepth:=12) (maxSteps:=1000000) -implicitDefEqProofs only[go_sem,Nat.reduceAdd,Nat.reduceSub,Nat.reduceMul,Nat.reduceLeDiff,Nat.reduceEqDiff,Nat.reduceGT,Nat.reduceBEq,reduceCtorEq,↓reduceIte,Int.reduceToNat,Int.reduceLE,Int.reduceLT,Int.reduceNe,Int.reduceEq];refine⟨⟨hbx,fun i v q=>hac i v (ai hsn q)⟩,fun m=>?_⟩;have hm:=ak m
   have hmS:lk ((b1.n,[.sl 1 false (az c.nm),dZ c.up,lA c.qu,jk c.gr])::S.box) m.n=none:=by
    cases hx:lk ((b1.n,[.sl 1 false (az c.nm),dZ c.up,lA c.qu,jk c.gr])::S.box) m.n with
    |none=>rfl
    |some v=>rw[hbx _ _ hx]at hm;cases hm
   have hsT:=hac sn.n (.xo (.mp (.st [.i64,.i64,.i64]) [] 0)) (by simp[lk])
   have hfa':∀i,i∈θ.ax→lk S.acc i=none:=fun i q=>by
    have:=hfa i q
    cases hx:lk S.acc i with
    |none=>rfl
    |some v=>rw[ai hsn hx]at this;cases this
   refine⟨⟨fun i v q=>ai hm (hbx i v q),fun i v q=>hac i v (ai hsn q)⟩,(⟨(m.n,[.sl 1 false (az c.nm),dZ c.up,lA c.qu,jk c.gr,.sl 0 true [],bg θ.t,.mp sn.n])::T.box,T.acc⟩,θ,sn.n,m.n),⟨iF _ _ _,hT.mono (fun i v _ q=>ai hm q) fun i v _ q=>q,hsT,fun i v q=>ai hm (hbx i v q),fun i v q=>hac i v (ai hsn q),hfb,hfa',hmS,hsn,fun q=>hT.mn _ q hm,fun q=>by have:=hfa _ q;simp[lk]at this⟩,.refl _,.refl _⟩
 rintro⟨T,θ,sn,m⟩ hN;simp only at hN;obtain⟨hm,hT,hsn,hbx,hac,hfb,hfa,hmS,hsS,hmθ,hsθ⟩:=hN;have t1:=hbx b1.n _ hb1;simp(maxDischargeDepth:=12) (maxSteps:=1000000) -implicitDefEqProofs only[go_sem,Nat.reduceAdd,Nat.reduceSub,Nat.reduceMul,Nat.reduceLeDiff,Nat.reduceEqDiff,Nat.reduceGT,Nat.reduceBEq,reduceCtorEq,↓reduceIte,Int.reduceToNat,Int.reduceLE,Int.reduceLT,Int.reduceNe,Int.reduceEq,t1,hm];refine fR m 4 1 (by omega) (ds:=[.sl 1 false (az c.nm),dZ c.up,lA c.qu,jk c.gr,.sl 0 true [],bg θ.t,.mp sn]) hm rfl fun lr=>?_;have hlr:=ak lr;have hlrA:∀j x,lk T.acc j=some x→j≠lr.n:=fun j x h e=>by rw[e,hlr]at h;cases h
 refine cY [8] [4,31,32] (σ:=Nat×List (Nat×List DV)×List (Nat×Ob)×List Nat×(Nat→Ow)) (fun s=>[(4,bg m),(31,dI c.up.length),(32,dI s.1)]) (fun s=>⟨s.2.1,s.2.2.1⟩) (fun s=>s.1≤c.up.length∧V0 T c θ sn m lr.n s.1 s.2.1 s.2.2.1 s.2.2.2.1 s.2.2.2.2) (fun s=>c.up.length-s.1) (0,Aml.up T.box m [.sl 1 false (az c.nm),dZ c.up,lA c.qu,jk c.gr,.acc lr.n 0,bg θ.t,.mp sn],(lr.n,.arr 1 [])::T.acc,[],fun _=> .no) mx (by kernel_rfl) ⟨⟨XR _,?_⟩,?_⟩ ?_
 ·exact⟨cq hm,by simp[lk],rfl,fun j v q1 q2=>by rw[ab (Yj q1)];exact q2,fun j v q=>ai hlr q,fun x bx q=>by simp at q,Zr,fun j q=>absurd rfl q⟩
 ·simp(maxDischargeDepth:=12) (maxSteps:=1000000) -implicitDefEqProofs only[go_sem,Nat.reduceAdd,Nat.reduceSub,Nat.reduceMul,Nat.reduceLeDiff,Nat.reduceEqDiff,Nat.reduceGT,Nat.reduceBEq,reduceCtorEq,↓reduceIte,Int.reduceToNat,Int.reduceLE,Int.reduceLT,Int.reduceNe,Int.reduceEq]
 ·rintro⟨i,B,A,ls,own⟩ ⟨hi,hL⟩;simp only at hi hL;have hmb:=hL.mb;have hrow:=hL.row;have hlen:=hL.len;by_cases hil:i<c.up.length
  ·have e1:IntKind.i64.wrap ((i:Int)+1)=((i+1:Nat):Int):=aH (by omega);have hm8:maxLen=9223372036854775807:=rfl;simp(maxDischargeDepth:=12) (maxSteps:=1000000) -implicitDefEqProofs only[go_sem,Nat.reduceAdd,Nat.reduceSub,Nat.reduceMul,Nat.reduceLeDiff,Nat.reduceEqDiff,Nat.reduceGT,Nat.reduceBEq,reduceCtorEq,↓reduceIte,Int.reduceToNat,Int.reduceLE,Int.reduceLT,Int.reduceNe,Int.reduceEq,hmb];refine⟨fun _=>fun bm bx=>?_,fun h=>absurd hil h⟩;have hbmA:=ak bm;have nbl:(bm.n=lr.n)=False:=eq_false fun e=>by rw[e,hrow]at hbmA;cases hbmA
   have hbxB:=ak bx;have hbxm:(bx.n=m)=False:=eq_false fun e=>by rw[e,hmb]at hbxB;cases hbxB
   have hls:(ls.map bg).length=i:=by rw[XS,hlen]
   simp(maxDischargeDepth:=12) (maxSteps:=1000000) -implicitDefEqProofs only[go_sem,Nat.reduceAdd,Nat.reduceSub,Nat.reduceMul,Nat.reduceLeDiff,Nat.reduceEqDiff,Nat.reduceGT,Nat.reduceBEq,reduceCtorEq,↓reduceIte,Int.reduceToNat,Int.reduceLE,Int.reduceLT,Int.reduceNe,Int.reduceEq,nbl,hrow,hlen];refine⟨by omega,by unfold maxLen;omega,?_⟩;refine fR bx.n 1 6 (by omega) (ds:=[.mp bm.n,.sl 0 true [],dI 0,.v (.map none)]) (iF _ _ _) rfl fun r=>LW [] mx (by kernel_rfl) ?_;have hr:=ak r;have hrA:lk ((bm.n,Ob.xo (.mp .str [] 0))::Aml.up A lr.n (.arr 1 ((ls++[bx.n]).map bg))) r.n=none:=by rw[XB];exact hr
   simp(maxDischargeDepth:=12) (maxSteps:=1000000) -implicitDefEqProofs only[go_sem,Nat.reduceAdd,Nat.reduceSub,Nat.reduceMul,Nat.reduceLeDiff,Nat.reduceEqDiff,Nat.reduceGT,Nat.reduceBEq,reduceCtorEq,↓reduceIte,Int.reduceToNat,Int.reduceLE,Int.reduceLT,Int.reduceNe,Int.reduceEq,e1];have hbmU:∀X:Ob,lk (Aml.up A lr.n X) bm.n=none:=fun X=>by rw[ab (fun e=>by rw[←nbl];exact e.symm)];exact hbmA
   have hbxU:∀X,lk (Aml.up B m X) bx.n=none:=fun X=>by rw[ab (fun e=>by rw[←hbxm];exact e.symm)];exact hbxB
   have hrb:bm.n≠r.n:=fun e=>by rw[←e,iF]at hrA;cases hrA
   have hrU:lk (Aml.up A lr.n (.arr 1 ((ls++[bx.n]).map bg))) r.n=none:=by
    simp only[lk]at hrA;rw[if_neg hrb]at hrA;exact hrA
   have hrA0:lk A r.n=none:=lI hrU;have hrl:r.n≠lr.n:=fun e=>by rw[e,hrow]at hrA0;cases hrA0
   have hkeep:∀j v,j≠lr.n→lk A j=some v→lk ((r.n,Ob.arr 6 [])::(bm.n,Ob.xo (.mp .str [] 0))::Aml.up A lr.n (.arr 1 ((ls++[bx.n]).map bg))) j=some v:=fun j v q1 q2=>ai hrA (ai (hbmU _) (by rw[ab (Yj q1)];exact q2));have hkeepB:∀j v,j≠m→lk B j=some v→lk ((bx.n,[DV.mp bm.n,.acc r.n 0,dI 0,.v (.map none)])::Aml.up B m [.sl 1 false (az c.nm),dZ c.up,lA c.qu,jk c.gr,.acc lr.n (i+1),bg θ.t,.mp sn]) j=some v:=fun j v q1 q2=>ai (hbxU _) (by rw[ab (Yj q1)];exact q2);have hTm:∀j,lk T.box j=none→j≠m:=fun j q e=>by rw[e,hm]at q;cases q
   refine⟨(i+1,(bx.n,[.mp bm.n,.acc r.n 0,dI 0,.v (.map none)])::Aml.up B m [.sl 1 false (az c.nm),dZ c.up,lA c.qu,jk c.gr,.acc lr.n (i+1),bg θ.t,.mp sn],(r.n,.arr 6 [])::(bm.n,.xo (.mp .str [] 0))::Aml.up A lr.n (.arr 1 ((ls++[bx.n]).map bg)),ls++[bx.n],fun j=>if j=bm.n then .b i else if j=r.n then .au i else own j),⟨by simp only;omega,⟨ai (hbxU _) (cq hmb),ai hrA (ai (hbmU _) (cq hrow)),by simp[hlen],fun j v q1 q2=>hkeepB j v q1 (hL.H5 j v q1 q2),fun j v q=>hkeep j v (hlrA j v q) (hL.Oe j v q),fun x b' hx=>?_,?_,fun j q=>?_⟩⟩,by simp only;omega,rfl,by rw[XB];exact .refl _⟩
   ·rcases XM x ls.length with q3|q3
    ·rw[XD q3]at hx;obtain⟨z0,b,r',z1,z2,z3,z4,z5⟩:=hL.el x b' hx;have zb:=(hL.ow b (by rw[z4];simp)).2.1;have zr:=(hL.ow r' (by rw[z5];simp)).2.1;have n1:b≠bm.n:=fun e=>by rw[e,hbmA]at z2;cases z2
     have n2:b≠r.n:=fun e=>by rw[e,hrA0]at z2;cases z2
     have n3:r'≠bm.n:=fun e=>by rw[e,hbmA]at z3;cases z3
     have n4:r'≠r.n:=fun e=>by rw[e,hrA0]at z3;cases z3
     refine⟨z0,b,r',hkeepB _ _ (hTm _ z0) z1,hkeep _ _ zb z2,hkeep _ _ zr z3,?_,?_⟩
     ·simp only;rw[if_neg n1,if_neg n2];exact z4
     ·simp only;rw[if_neg n3,if_neg n4];exact z5
    ·rw[XA q3]at hx
     have hj:x-ls.length=0:=by
      cases hj:x-ls.length with
      |zero=>rfl
      |succ k=>rw[hj]at hx;simp at hx
     rw[hj]at hx;cases hx;have hxi:x=i:=by omega
     refine⟨?_,bm.n,r.n,iF _ _ _,ai hrA (iF _ _ _),iF _ _ _,?_,?_⟩
     ·cases hz:lk T.box bx.n with
      |none=>rfl
      |some v=>rw[hL.H5 bx.n v (by rw[Ne,hbxm];exact id) hz]at hbxB;cases hbxB
     ·simp only[if_true,hxi]
     ·simp only[if_true,hxi];rw[if_neg (Yj hrb)]
   ·refine Ys.2 ⟨hL.nd,by simp,fun a ha b' hb'=>?_⟩;rw[Xl.1 hb'];rintro rfl;obtain⟨x,hx⟩:=XN.1 ha;obtain⟨_,b,r',z1,_⟩:=hL.el x _ hx;rw[hbxB]at z1;cases z1
   ·simp only at q
    have hTA:∀j,lk A j=none→lk T.acc j=none:=fun j q=>by
     cases hz:lk T.acc j with
     |none=>rfl
     |some v=>rw[hL.Oe j v hz]at q;cases q
    by_cases e1:j=bm.n
    ·rw[e1];exact⟨hTA _ hbmA,by rw[Ne,nbl];exact id,by rw[ai hrA (iF _ _ _)];simp⟩
    ·rw[if_neg e1]at q;by_cases e2:j=r.n
     ·rw[e2];exact⟨hTA _ hrA0,hrl,by rw[iF];simp⟩
     ·rw[if_neg e2]at q;obtain⟨z1,z2,z3⟩:=hL.ow j q;obtain⟨v,hv⟩:=bF z3;exact⟨z1,z2,by rw[hkeep j v z2 hv];simp⟩
  ·have hie:i=c.up.length:=by omega
   subst hie;simp(maxDischargeDepth:=12) (maxSteps:=1000000) -implicitDefEqProofs only[go_sem,Nat.reduceAdd,Nat.reduceSub,Nat.reduceMul,Nat.reduceLeDiff,Nat.reduceEqDiff,Nat.reduceGT,Nat.reduceBEq,reduceCtorEq,↓reduceIte,Int.reduceToNat,Int.reduceLE,Int.reduceLT,Int.reduceNe,Int.reduceEq];refine⟨fun h=>absurd h hil,fun _=>?_⟩;refine Ts m 4 (xs:=ls.map bg) (ds:=[.sl 1 false (az c.nm),dZ c.up,lA c.qu,jk c.gr,.acc lr.n c.up.length,bg θ.t,.mp sn]) hmb (by rw[XS,hlen];rfl) hrow (LW [] mx (by kernel_rfl) ?_);simp(maxDischargeDepth:=12) (maxSteps:=1000000) -implicitDefEqProofs only[go_sem,Nat.reduceAdd,Nat.reduceSub,Nat.reduceMul,Nat.reduceLeDiff,Nat.reduceEqDiff,Nat.reduceGT,Nat.reduceBEq,reduceCtorEq,↓reduceIte,Int.reduceToNat,Int.reduceLE,Int.reduceLT,Int.reduceNe,Int.reduceEq]
   have hE:∃own':Nat→Ow,(∀j,j∈θ.ax→own' j= .tb)∧own' sn= .sm∧(∀j,own j≠ .no→own' j=own j)∧∀j,own' j≠ .no→j∈θ.ax∨j=sn∨own j≠ .no:=by
    classical
    refine⟨fun j=>if j∈θ.ax then .tb else if j=sn then .sm else own j,fun j q=>if_pos q,by simp only;rw[if_neg hsθ];simp,fun j q=>?_,fun j q=>?_⟩
    ·have z:=(hL.ow j q).1;simp only;rw[if_neg (fun q2=>hT.uE j q2 z),if_neg (fun e=>by rw[e,hsn]at z;cases z)]
    ·simp only at q;split at q
     ·rename_i q2;exact .inl q2
     ·split at q
      ·rename_i q2;exact .inr (.inl q2)
      ·exact .inr (.inr q)
   obtain⟨own',o1,o2,o3,o4⟩:=hE;have hlrn:∀j v,lk T.acc j=some v→lk (Aml.up A lr.n (Ob.tl 1 (ls.map bg))) j=some v:=fun j v q=>by rw[ab (Yj (hlrA j v q))];exact hL.Oe j v q
   have hmB:∀j v,j≠m→lk B j=some v→lk (Aml.up B m [.sl 1 false (az c.nm),dZ c.up,lA c.qu,jk c.gr,.sl 1 false (ls.map bg),bg θ.t,.mp sn]) j=some v:=fun j v q1 q2=>by rw[ab (Yj q1)];exact q2
   have hlsT:∀j,j∈ls→lk T.box j=none:=fun j q=>by
    obtain⟨x,hx⟩:=XN.1 q;exact(hL.el x j hx).1
   have hSX:∀i v,lk S.box i=some v→lk ((b1.n,[DV.sl 1 false (az c.nm),dZ c.up,lA c.qu,jk c.gr])::S.box) i=some v:=fun i v q=>ai (ak b1) q
   have hST:∀i,lk T.box i=none→lk S.box i=none:=fun i q=>by
    cases hz:lk S.box i with
    |none=>rfl
    |some v=>rw[hbx i v (hSX i v hz)]at q;cases q
   have hmT:m∉ls:=fun q=>by have:=hlsT m q;rw[hm]at this;cases this
   refine⟨_,_,.refl _,.refl _,.inr ⟨hP,⟨m,ls,θ,sn,own'⟩,rfl,⟨cq hmb,hc.EK,by simp[wR,hlen],Xu.2 ⟨hmT,hL.nd⟩,fun j q1 q2=>?_,fun x bx l q1 q2=>?_,hT.mono (fun j v q1 q2=>hmB j v (fun e=>hmθ (e▸q1)) (hL.H5 j v (fun e=>hmθ (e▸q1)) q2)) (fun j v _ q2=>hlrn j v q2),o1,⟨[],0,hlrn _ _ hsn,fun lv n k=>⟨fun _=>by simp[aJ],fun Fs h=>(by cases h)⟩⟩,o2,fun j q=>?_⟩,fun j v q=>?_,fun j v q=>hlrn j v (hac j v q),fun j q=>?_,fun j q=>?_⟩⟩
   ·rcases Xr.1 q2 with q2|q2
    ·have e:j=m:=q2;exact hmθ (by rw[←e];exact q1)
    ·exact hT.mn j q1 (hlsT j q2)
   ·obtain⟨z0,b,r,z1,z2,z3,z4,z5⟩:=hL.el x bx q1
    have hl:l=⟨fun _=>none,[],0,fun _=>none⟩:=by
     simp only[wR,XV]at q2;split at q2
     ·exact(XJ q2).symm
     ·cases q2
    subst hl;have zb:=(hL.ow b (by rw[z4];simp)).2.1;have zr:=(hL.ow r (by rw[z5];simp)).2.1;refine⟨b,fun _=>none,r,.v (.map none),hmB bx _ (fun e=>hmT (e▸Xd q1)) z1,⟨⟨[],0,by show lk (Aml.up _ _ _) _=_;rw[ab (Yj zb)];exact z2,Xg _,fun n=>by simp[aJ]⟩,fun n=>by simp,fun n i f h=>(by cases h),fun n m i h=>(by cases h),fun n i h=>(by cases h)⟩,⟨(o3 b (by rw[z4];simp)).trans z4,fun n i h=>(by cases h)⟩,.inl (by show lk (Aml.up _ _ _) _=_;rw[ab (Yj zr)];exact z3),(o3 r (by rw[z5];simp)).trans z5,fun h=>absurd rfl h⟩
   ·rcases o4 j q with q2|q2|q2
    ·obtain⟨v,hv⟩:=bF (hT.uE j q2);rw[hlrn j v hv];simp
    ·rw[q2,hlrn _ _ hsn];simp
    ·exact eG (hL.ow j q2).2.2
   ·have z:=hbx j v (hSX j v q)
    have hjm:j≠m:=fun e=>by
     have:=hSX j v q;rw[e]at this;rw[show lk ((b1.n,[DV.sl 1 false (az c.nm),dZ c.up,lA c.qu,jk c.gr])::S.box) m=none from hmS]at this;cases this
    exact hmB j v hjm (hL.H5 j v hjm z)
   ·unfold MG.bx at q;rcases Xn.1 q with q2|q2
    ·rcases Xr.1 q2 with q3|q3
     ·rw[q3]
      cases hz:lk S.box m with
      |none=>rfl
      |some v=>have:=hSX m v hz;rw[show lk ((b1.n,[DV.sl 1 false (az c.nm),dZ c.up,lA c.qu,jk c.gr])::S.box) m=none from hmS]at this;cases this
     ·exact hST j (hlsT j q3)
    ·cases hz:lk S.box j with
     |none=>rfl
     |some v=>have:=hfb j q2;rw[show lk ((b1.n,[DV.sl 1 false (az c.nm),dZ c.up,lA c.qu,jk c.gr])::S.box) j=some v from hSX j v hz]at this;cases this
   ·rcases o4 j q with q2|q2|q2
    ·exact hfa j q2
    ·rw[q2];exact hsS
    ·cases hz:lk S.acc j with
     |none=>rfl
     |some v=>have:=(hL.ow j q2).1;rw[hac j v hz]at this;cases this
def fC(r:List RH)(lv n:Int):Option (List Int×Int):=(r[cX r lv n]?).map fun s=>(s.sn,s.last)
theorem lH(r:List RH)(lv n:Int):cX r lv n<r.length↔(fC r lv n).isSome=true:=by
 unfold fC;rw[Option.isSome_map];constructor
 ·intro h;rw[Xb h];rfl
 ·intro h;obtain⟨x,hx⟩:=YO.1 h;exact(Xc.1 hx).1
theorem An{r:List RH}{lv n:Int}(h:¬cX r lv n<r.length):fC r lv n=none:=by
 unfold fC;rw[Xk (by omega)];rfl
theorem zP{r:List RH}(hr:jh r)(l lv n:Int):fC (eu r l).1 lv n=if lv=l∧n=(iH r l:Int)+1 then some ([],0)else fC r lv n:=by
 unfold fC;rw[Kz hr];by_cases h:cX r lv n<r.length
 ·rw[if_pos h];have hne:¬(lv=l∧n=(iH r l:Int)+1):=fun q=>by rw[q.1,q.2,zl hr]at h;omega
  rw[if_neg hne];show((r++_)[cX r lv n]?).map _=_;rw[XD h]
 ·rw[if_neg h];by_cases q:lv=l∧n=(iH r l:Int)+1
  ·rw[if_pos q,if_pos q];show((r++_)[r.length]?).map _=_;rw[XA (Xg _),Zs];rfl
  ·rw[if_neg q,if_neg q,Xk (l:=r) (by omega)];show((r++_)[r.length+1]?).map _=_;rw[Xk (by simp)]
theorem uy{r:List RH}{l m lv n:Int}(h1:cX r l m<r.length)(h2:cX r lv n<r.length)(hne:¬(lv=l∧n=m)):cX r l m≠cX r lv n:=fun e=>by
 obtain⟨s,hs,_⟩:=nr h1;have q1:=eM hs;rw[e]at hs;have q2:=eM hs;exact hne ⟨q2.1.symm.trans q1.1,q2.2.1.symm.trans q1.2.1⟩
theorem K1{r:List RH}(hr:jh r)(l m lv n:Int):fC (mP r l m).1 lv n=if lv=l∧n=m then none else fC r lv n:=by
 by_cases h:cX r l m<r.length
 ·have hi:=K9 hr h lv n;unfold fC;rw[hi];have e1:(mP r l m).1=r.set (cX r l m) ⟨l,m,[],0,true⟩:=by unfold mP;rw[if_pos h]
  by_cases q:lv=l∧n=m
  ·rw[if_pos q,if_pos q,e1,Xk (by simp)]
   try rfl
  ·rw[if_neg q,if_neg q,e1];by_cases h2:cX r lv n<r.length
   ·rw[Ye (uy h h2 q)]
   ·rw[Xk (by simp;omega),Xk (by omega)]
 ·have e1:(mP r l m).1=r:=by unfold mP;rw[if_neg h]
  rw[e1];by_cases q:lv=l∧n=m
  ·rw[if_pos q,q.1,q.2,An h]
  ·rw[if_neg q]
theorem FL{r:List RH}{l m:Int}{s t:RH}(hs:r[cX r l m]? =some s)(e1:t.lv=s.lv)(e2:t.n=s.n)(e3:t.gone=s.gone)(lv n:Int):fC (r.set (cX r l m) t) lv n=if lv=l∧n=m then some (t.sn,t.last)else fC r lv n:=by
 have h:=(Xc.1 hs).1;unfold fC;rw[Ac hs e1 e2 e3];by_cases q:lv=l∧n=m
 ·rw[if_pos q,q.1,q.2,Yd h];rfl
 ·rw[if_neg q];by_cases h2:cX r lv n<r.length
  ·rw[Ye (uy h h2 q)]
  ·rw[Xk (by simp;omega),Xk (by omega)]
theorem zO(r:List RH)(l m lv n:Int):fC (oy r l m).1 lv n=if lv=l∧n=m then(fC r l m).map (fun p=>(p.1++[p.2+1],p.2+1))else fC r lv n:=by
 unfold oy
 cases hs:r[cX r l m]? with
 |some s=>
  simp only;rw[FL (t:=KI s) hs rfl rfl rfl];have e:fC r l m=some (s.sn,s.last):=by unfold fC;rw[hs];rfl
  rw[e];rfl
 |none=>
  simp only;have e:fC r l m=none:=by unfold fC;rw[hs];rfl
  by_cases q:lv=l∧n=m
  ·rw[if_pos q,q.1,q.2,e];rfl
  ·rw[if_neg q]
theorem Ho(r:List RH)(l m x lv n:Int):fC (mo r l m x).1 lv n=if lv=l∧n=m then(fC r l m).map (fun p=>(C6 x p.1,p.2))else fC r lv n:=by
 unfold mo
 cases hs:r[cX r l m]? with
 |some s=>
  simp only;have e:fC r l m=some (s.sn,s.last):=by unfold fC;rw[hs];rfl
  split
  ·rename_i h;have hf:C6 x s.sn=s.sn:=List.filter_eq_self.2 (List.length_filter_eq_length_iff.1 h);by_cases q:lv=l∧n=m
   ·rw[if_pos q,q.1,q.2,e];simp only[XG,hf]
   ·rw[if_neg q]
  ·simp only;rw[FL (t:=⟨s.lv,s.n,C6 x s.sn,s.last,s.gone⟩) hs rfl rfl rfl,e];rfl
 |none=>
  simp only;have e:fC r l m=none:=by unfold fC;rw[hs];rfl
  by_cases q:lv=l∧n=m
  ·rw[if_pos q,q.1,q.2,e];rfl
  ·rw[if_neg q]
theorem DO(r:List RH)(l m:Int):(oy r l m).2=((fC r l m).map fun p=>p.2+1).getD 0:=by
 unfold oy fC;cases r[cX r l m]? <;>rfl
theorem jg(r:List RH)(l m:Int):Bg r l m=((fC r l m).map (·.1)).getD []:=by
 unfold Bg fC;cases r[cX r l m]? <;>rfl
theorem PA(r:List RH)(l m x:Int):(mo r l m x).2=((fC r l m).map fun p=>decide (x∈p.1)).getD false:=by
 unfold mo fC
 cases r[cX r l m]? with
 |none=>rfl
 |some s=>
  simp only[XG,YA];by_cases h:x∈s.sn
  ·rw[if_neg (fun q=>(ma.1 q) h),decide_eq_true h]
  ·rw[if_pos (ma.2 h),decide_eq_false h]
theorem Qz{r:List RH}(hr:jh r){l m:Int}{p:List Int×Int}(h:fC r l m=some p):1≤m∧(∀x,x∈p.1→1≤x∧x≤p.2):=by
 unfold fC at h;obtain⟨s,hs,rfl⟩:=Xh.1 h;have h1:=(hr.le hs).1;rw[(eM hs).2.1]at h1;exact⟨h1,hr.Kw s (Xd hs)⟩
end Go.Proofs.YtoepfmhnapedoaaGreatDoor
namespace Go.Proofs.YtoepfmhnapedoaaGreatDoor
open Aml Go Rn Lat Grs
section
variable {N:Nat} {c:Cf} {μ:bc} {o:bl} {full:Bool}
theorem fx.le{M:Nat}(h:fx N c μ)(k:N≤M):fx M c μ:=⟨h.n,h.nl,by have:=h.r;omega,fun s hs=>by have:=h.la s hs;omega,h.CX,h.sp,fun l hl=>by have:=h.au l hl;omega,h.sz⟩
theorem fx.sA(h:fx N c μ)(i:Nat)(l':nT)(ha:l'.au.length≤N+1)(h1:um l'.F)(h2:um l'.D):fx (N+1) c ⟨μ.l.set i l',μ.r,μ.sn⟩:=by
 have h':=h.le (XI N);have hm:∀l,l∈μ.l.set i l'→l∈μ.l∨l=l':=fun l hl=>Yn hl;refine⟨by simpa using h.n,by simpa using h.nl,h'.r,h'.la,h.CX,fun lv n k hk=>?_,fun l hl=>(hm l hl).elim (h'.au l) fun e=>e▸ha,fun l hl=>(hm l hl).elim (h.sz l) fun e=>e▸⟨h1,h2⟩⟩;obtain⟨Fs,q1,q2⟩:=h.sp lv n k hk;exact⟨Fs,q1,by simpa using q2⟩
theorem fx.aB(h:fx N c μ){r':List RH}{sn':Int→Int→Int→Option (List gu)}(h1:r'.length≤N+1)(h2:oq r' ((N+1:Nat):Int))(h3:jh r')(h4:∀lv n k,k∈Bg r' lv n→∃Fs,sn' lv n k=some Fs∧Fs.length=μ.l.length):fx (N+1) c ⟨μ.l,r',sn'⟩:=
 ⟨h.n,h.nl,h1,h2,h3,h4,fun l hl=>by have:=h.au l hl;show _≤N+1;omega,h.sz⟩
theorem um.none_:um fun _=>none:=fun n f h=>by cases h
theorem um.fI{F:gu}(h:um F){n:List UInt8}{f:List UInt8→Option (List UInt8)}(h1:n.length≤1000)(h2:∀k v,f k=some v→k.length≤1000∧v.length≤1000):um (fI F n f):=fun m g hg=>by
 unfold Proofs.YtoepfmhnapedoaaGreatDoor.fI at hg;by_cases e:m=n
 ·rw[if_pos e]at hg;cases hg;exact⟨by rw[e];exact h1,h2⟩
 ·rw[if_neg e]at hg;exact h m g hg
theorem um.xf{F:gu}(h:um F)(n:List UInt8):um (xf F n):=fun m g hg=>by
 unfold Proofs.YtoepfmhnapedoaaGreatDoor.xf at hg;by_cases e:m=n
 ·rw[if_pos e]at hg;cases hg
 ·rw[if_neg e]at hg;exact h m g hg
theorem Dz{x:Int}(h:0≤x∧x.toNat<μ.l.length):aL μ x∈μ.l:=by
 have hl:μ.l[x.toNat]? =some μ.l[x.toNat]:=Xb h.2;rw[bD hl h.1];exact List.getElem_mem _
theorem kc(h:fx N c μ)(x:Int):um (aL μ x).F∧um (aL μ x).D∧(aL μ x).au.length≤N:=by
 by_cases hx:0≤x∧x.toNat<μ.l.length
 ·have hm:=Dz (μ:=μ) hx;exact⟨(h.sz _ hm).1,(h.sz _ hm).2,h.au _ hm⟩
 ·have e:aL μ x=⟨fun _=>none,[],0,fun _=>none⟩:=by
   unfold aL;by_cases h0:0≤x
   ·rw[if_pos h0,Xk (by omega)];rfl
   ·rw[if_neg h0];rfl
  rw[e];exact⟨um.none_,um.none_,XR _⟩
theorem AQ{dg:List UInt8→Int}(P:ig→Prop)(p1:o.kind=1→P (ib μ o))(p2:o.kind=2→P (e9 μ o))(p3:o.kind=3→P (eL μ o))(p4:o.kind=4→P (bU μ o))(p5:o.kind=5→P (gC μ o full))(p6:o.kind=6→P (iz μ o full))(p7:o.kind=7→P (mh μ o full))(p8:o.kind=8→P (cI μ o full))(p9:o.kind=9→P (getM c μ o))(p10:o.kind=10→P (fw c μ o))(p11:o.kind=11→P (kK μ o))(p12:o.kind=12→P (db μ o))(p13:o.kind=13→P (ia c μ o))(p14:o.kind=14→P (fX c μ o))(p15:P (fA dg c μ o full)):P (ed dg c μ o full):=by
 unfold ed;by_cases k1:o.kind=1
 ·rw[if_pos k1];exact p1 k1
 rw[if_neg k1];by_cases k2:o.kind=2
 ·rw[if_pos k2];exact p2 k2
 rw[if_neg k2];by_cases k3:o.kind=3
 ·rw[if_pos k3];exact p3 k3
 rw[if_neg k3];by_cases k4:o.kind=4
 ·rw[if_pos k4];exact p4 k4
 rw[if_neg k4];by_cases k5:o.kind=5
 ·rw[if_pos k5];exact p5 k5
 rw[if_neg k5];by_cases k6:o.kind=6
 ·rw[if_pos k6];exact p6 k6
 rw[if_neg k6];by_cases k7:o.kind=7
 ·rw[if_pos k7];exact p7 k7
 rw[if_neg k7];by_cases k8:o.kind=8
 ·rw[if_pos k8];exact p8 k8
 rw[if_neg k8];by_cases k9:o.kind=9
 ·rw[if_pos k9];exact p9 k9
 rw[if_neg k9];by_cases RJ:o.kind=10
 ·rw[if_pos RJ];exact p10 RJ
 rw[if_neg RJ];by_cases Rt:o.kind=11
 ·rw[if_pos Rt];exact p11 Rt
 rw[if_neg Rt];by_cases Sa:o.kind=12
 ·rw[if_pos Sa];exact p12 Sa
 rw[if_neg Sa];by_cases Rv:o.kind=13
 ·rw[if_pos Rv];exact p13 Rv
 rw[if_neg Rv];by_cases Rs:o.kind=14
 ·rw[if_pos Rs];exact p14 Rs
 rw[if_neg Rs];exact p15
theorem NT(h:fx N c μ){r:v8}{μ':bc}(ho:ed eQ c μ o full= .inr (r,μ')):fx (N+1) c μ':=by
 obtain⟨z1,z2,z3⟩:=kc h o.level;have h':=h.le (XI N);have hN1:((N+1:Nat):Int)=(N:Int)+1:=by omega
 revert ho
 refine AQ (P:=fun out=>out= .inr (r,μ')→fx (N+1) c μ') ?_ ?_ ?_ ?_ ?_ ?_ ?_ ?_ ?_ ?_ ?_ ?_ ?_ ?_ ?_
 ·intro _ ho;unfold ib at ho;cases ho;have hs:=h.sA o.level.toNat {aL μ o.level with has:=if(aL μ o.level).has=o.aB then 0 else(aL μ o.level).has} (by simp only;omega) z1 z2;refine⟨hs.n,hs.nl,by rw[zQ];have:=h.r;omega,?_,h.CX.cl _ _,fun lv n k hk=>?_,hs.au,hs.sz⟩
  ·rw[hN1];exact h.la.cl (by omega) _ _
  ·refine hs.sp lv n k ?_;simp only at hk ⊢;rw[jg,K1 h.CX]at hk;rw[jg];split at hk
   ·simp at hk
   ·exact hk
 ·intro _ ho;unfold e9 bS at ho;simp only at ho;split at ho
  ·cases ho
  ·cases ho;exact h.sA _ _ (by simp only;omega) z1 z1
 ·intro _ ho;unfold eL bS at ho;simp only at ho;split at ho
  ·cases ho
  ·cases ho;exact h.sA _ _ (by simp only;omega) z2 z2
 ·intro _ ho;unfold bU bS at ho;simp only at ho;split at ho
  ·cases ho
  ·cases ho;exact h.sA _ _ (by simp only;omega) z1 z2
 ·intro _ ho;unfold gC bS at ho;simp only at ho;split at ho
  ·cases ho
  ·split at ho
   ·cases ho
   ·rename_i q;have q:=Xs.1 q;split at ho
    ·cases ho
    ·split at ho
     ·cases ho
     ·cases ho;exact h.sA _ _ (by simp only;omega) z1 (z2.fI (by have:=q.2;omega) fun k v e=>by cases e)
 ·intro _ ho;unfold iz bS at ho;simp only at ho;split at ho
  ·cases ho
  ·split at ho
   ·cases ho
   ·split at ho
    ·cases ho
    ·cases ho;exact h.sA _ _ (by simp only;omega) z1 (z2.xf _)
 ·intro _ ho;unfold mh bS at ho;simp only at ho;split at ho
  ·cases ho
  ·split at ho
   ·cases ho
   ·rename_i q;have q:=Xs.1 q;split at ho
    ·cases ho
    ·rename_i f hf;split at ho
     ·cases ho
     ·cases ho;refine h.sA _ _ (by simp only;omega) z1 (z2.fI (z2 _ _ hf).1 fun k v e=>?_);by_cases ek:k=o.key
      ·rw[if_pos ek]at e;cases e;rw[ek];exact⟨by have:=q.1.2;omega,by have:=q.2;omega⟩
      ·rw[if_neg ek]at e;exact(z2 _ _ hf).2 k v e
 ·intro _ ho;unfold cI bS at ho;simp only at ho;split at ho
  ·cases ho
  ·split at ho
   ·cases ho
   ·rename_i f hf;split at ho
    ·cases ho
    ·split at ho
     ·cases ho
     ·cases ho;refine h.sA _ _ (by simp only;omega) z1 (z2.fI (z2 _ _ hf).1 fun k v e=>?_);unfold xf at e;by_cases ek:k=o.key
      ·rw[if_pos ek]at e;cases e
      ·rw[if_neg ek]at e;exact(z2 _ _ hf).2 k v e
 ·intro _ ho;unfold getM at ho;simp only at ho
  (repeat' split at ho) <;>cases ho
  exact h'
 ·intro _ ho;unfold fw at ho
  (repeat' split at ho) <;>cases ho
  exact h'
 ·intro _ ho;unfold kK at ho;cases ho;refine h.aB (by rw[I5];have:=h.r;omega) ?_ (h.CX.sn _ _) fun lv n k hk=>?_
  ·rw[hN1];exact h.la.sn _ _
  ·rw[jg,zO]at hk;unfold ja;by_cases q:lv=o.level∧n=o.aB
   ·rw[if_pos q]at hk
    cases hv:fC μ.r o.level o.aB with
    |none=>rw[hv]at hk;simp at hk
    |some p=>
     rw[hv]at hk;simp only[XG,YA,Xn,Xl]at hk;rw[DO,hv];simp only[XG,YA];by_cases hk2:k=p.2+1
     ·rw[if_pos ⟨q.1,q.2,hk2⟩];exact⟨_,rfl,by simp⟩
     ·rw[if_neg (fun r=>hk2 r.2.2)];refine h.sp lv n k ?_;rw[jg,q.1,q.2,hv];exact hk.resolve_right hk2
   ·rw[if_neg q]at hk;rw[if_neg (fun r=>q ⟨r.1,r.2.1⟩)];exact h.sp lv n k (by rw[jg];exact hk)
 ·intro _ ho;unfold db at ho;split at ho
  ·cases ho
  ·cases ho;refine h.aB (by rw[I3];have:=h.r;omega) ?_ (h.CX.un _ _ _) fun lv n k hk=>?_
   ·rw[hN1];exact h.la.un _ _ _
   ·rw[jg,Ho]at hk;unfold ja;by_cases q:lv=o.level∧n=o.aB
    ·rw[if_pos q]at hk
     cases hv:fC μ.r o.level o.aB with
     |none=>rw[hv]at hk;simp at hk
     |some p=>
      rw[hv]at hk;simp only[XG,YA,C6,Y3,XK,decide_eq_false_iff_not]at hk;rw[if_neg (fun r=>hk.2 r.2.2)];exact h.sp lv n k (by rw[jg,q.1,q.2,hv];exact hk.1)
    ·rw[if_neg q]at hk;rw[if_neg (fun r=>q ⟨r.1,r.2.1⟩)];exact h.sp lv n k (by rw[jg];exact hk)
 ·intro _ ho;unfold ia at ho;split at ho <;>cases ho;exact h'
 ·intro _ ho;unfold fX at ho;split at ho <;>cases ho;exact h'
 ·intro ho;obtain⟨y1,y2,y3⟩:=kc h o.eX;obtain⟨x1,x2,x3⟩:=kc h o.label;unfold fA at ho;simp only at ho;split at ho
  ·cases ho
  ·split at ho
   ·cases ho
   ·split at ho
    ·cases ho
    ·rename_i f hf;split at ho
     ·cases ho
     ·rename_i v hv;split at ho
      ·cases ho
      ·rename_i gg hg;split at ho
       ·cases ho
       ·cases ho;refine h.sA _ _ (by simp only[Xp,Y4];omega) (y1.fI (y1 _ _ hg).1 fun k w e=>?_) y2;by_cases ek:k=o.key
        ·rw[if_pos ek]at e;cases e;rw[ek];exact(x1 _ _ hf).2 _ _ hv
        ·rw[if_neg ek]at e;exact(y1 _ _ hg).2 k w e
theorem ic(h:fx N c μ):fx (N+1) c (eK eQ c μ o full).2:=by
 have h':=h.le (XI N);have hN1:((N+1:Nat):Int)=(N:Int)+1:=by omega
 unfold eK;split
 ·exact h'
 ·split
  ·refine h.aB (by rw[zH];have:=h.r;omega) ?_ (h.CX.op _) fun lv n k hk=>?_
   ·rw[hN1];exact h.la.op (by omega) _
   ·rw[jg,zP h.CX]at hk;split at hk
    ·simp at hk
    ·exact h.sp lv n k (by rw[jg];exact hk)
  ·split
   ·refine⟨by unfold bd;simpa using h.n,by unfold bd;simpa using h.nl,XR _,fun s hs=>(by cases hs),jh.nil,fun lv n k hk=>(by simp[bd,Bg]at hk),fun l hl=>?_,fun l hl=>?_⟩
    ·unfold bd at hl;simp only[Xq]at hl;obtain⟨x,_,rfl⟩:=hl;have:=(kc h (x:Int)).2.2;simp only;omega
    ·unfold bd at hl;simp only[Xq]at hl;obtain⟨x,_,rfl⟩:=hl;obtain⟨a,b,_⟩:=kc h (x:Int);refine⟨?_,b⟩;simp only;split
     ·exact b
     ·exact a
   ·split
    ·exact h'
    ·unfold DW;split
     ·exact h'
     ·rename_i p hp;exact NT (r:=p.1) (μ':=p.2) h hp
end
theorem Nv{c:Cf}(hP:HV c)(hn:c.up.length≤64):fx 0 c (wR c.up.length):=⟨by simp[wR,hn],by simp[wR],Xg _,fun s hs=>(by simp[wR]at hs),jh.nil,fun lv n k hk=>(by simp[wR,Bg]at hk),fun l hl=>(by
 have:=(List.mem_replicate.1 hl).2;rw[this];exact Xg _),fun l hl=>by
 have:=(List.mem_replicate.1 hl).2;rw[this];exact⟨um.none_,um.none_⟩⟩
end Go.Proofs.YtoepfmhnapedoaaGreatDoor
namespace Go.Proofs.YtoepfmhnapedoaaGreatDoor
open Aml Go Rn Lat Grs
theorem Dt{μ:bc}{x:Int}(h:¬(0≤x∧x<μ.l.length)):aL μ x=⟨fun _=>none,[],0,fun _=>none⟩:=by
 unfold aL;by_cases h0:0≤x
 ·rw[if_pos h0,Xk (by omega)];rfl
 ·rw[if_neg h0];rfl
theorem MI.Tk{S:St}{g:MG}{N:Nat}{c:Cf}{μ:bc}(h:MI S g N c μ){x:Int}{b:Nat}(ha:wX g.ls x=some b):(0≤x∧x<μ.l.length)∧Of S g.own N x.toNat b (aL μ x):=by
 unfold wX at ha;split at ha
 ·rename_i h0;obtain⟨l,h1,h2⟩:=h.rz ha;have h3:=(Xc.1 h1).1;rw[bD h1 h0];exact⟨⟨h0,by omega⟩,h2⟩
 ·cases ha
theorem MI.Tp{S:St}{g:MG}{N:Nat}{c:Cf}{μ:bc}(h:MI S g N c μ){x:Int}(ha:wX g.ls x=none):¬(0≤x∧x<μ.l.length):=fun q=>by
 unfold wX at ha;rw[if_pos q.1,List.getElem?_eq_none_iff]at ha;have:=h.len;omega
theorem La(w0:W0){S:St}{g:MG}{N:Nat}{c:Cf}{μ:bc}(hI:MI S g N c μ)(x:Int):aa Tryz.prog w0 15 [bg g.m,dI x] S (fun d S'=>d=dI (aL μ x).has∧S'=S):=by
 refine cb [] mx Tryz.func15 rfl rfl (by kernel_rfl) ?_;simp(maxDischargeDepth:=12) (maxSteps:=1000000) -implicitDefEqProofs only[Tryz.ntmps15,go_sem,Nat.reduceAdd,Nat.reduceSub,Nat.reduceMul,Nat.reduceLeDiff,Nat.reduceEqDiff,Nat.reduceGT,Nat.reduceBEq,reduceCtorEq,↓reduceIte,Int.reduceToNat,Int.reduceLE,Int.reduceLT,Int.reduceNe,Int.reduceEq];refine aw (ofM w0 hI.md x) ?_
 cases ha:wX g.ls x with
 |none=>
  rw[Dt (hI.Tp ha)];unfold uR;simp(maxDischargeDepth:=12) (maxSteps:=1000000) -implicitDefEqProofs only[go_sem,Nat.reduceAdd,Nat.reduceSub,Nat.reduceMul,Nat.reduceLeDiff,Nat.reduceEqDiff,Nat.reduceGT,Nat.reduceBEq,reduceCtorEq,↓reduceIte,Int.reduceToNat,Int.reduceLE,Int.reduceLT,Int.reduceNe,Int.reduceEq]
 |some b=>
  obtain⟨_,bb,ids,r,dr,h1,_⟩:=hI.Tk ha;unfold uR;simp(maxDischargeDepth:=12) (maxSteps:=1000000) -implicitDefEqProofs only[go_sem,Nat.reduceAdd,Nat.reduceSub,Nat.reduceMul,Nat.reduceLeDiff,Nat.reduceEqDiff,Nat.reduceGT,Nat.reduceBEq,reduceCtorEq,↓reduceIte,Int.reduceToNat,Int.reduceLE,Int.reduceLT,Int.reduceNe,Int.reduceEq,h1]
theorem qe(w0:W0){S:St}{g:MG}{N:Nat}{c:Cf}{μ:bc}(hI:MI S g N c μ)(hM:fx N c μ)(hN:N≤10000){x:Int}(hx:0≤x∧x<μ.l.length):aa Tryz.prog w0 17 [bg g.m,dI x] S (fun d S'=>d=cR (lx x (aL μ x).F)∧S'=S):=by
 cases ha:wX g.ls x with
 |none=>exact absurd hx (hI.Tp ha)
 |some b=>
  obtain⟨_,bb,ids,r,dr,h1,h2,_⟩:=hI.Tk ha;refine G9 w0 hI.md x ha h1 h2 hN fun n f k v q1 q2=>?_;have hz:=(kc hM x).1 n f q1;exact⟨hz.1,(hz.2 k v q2).1⟩
theorem Js{es:List (Value×DV×Nat)}{α:Type}{f:List UInt8→Option α}(h:∀k,aJ es (kT k)=none↔f k=none):(cO f).length≤es.length:=by
 unfold cO;split
 ·rename_i hx;rw[jw];have h1:((hx.choose).map kT).Nodup:=aN (fun x y h=>dy h) hx.choose_spec.1
  have h2:(hx.choose).map kT⊆es.map (·.1):=fun u hu=>by
   obtain⟨v,hv,rfl⟩:=Xq.1 hu;have h3:=(hx.choose_spec.2 v).1 hv;obtain⟨b,hb⟩:=XH.1 (fun q=>h3 ((h v).1 q));obtain⟨b,hm⟩:=lL hb;exact Xq.2 ⟨_,hm,rfl⟩
  have:=bN h1 h2;simpa using this
 ·simp
theorem Fp{S:St}{l N:Nat}{ids:List UInt8→Option Nat}{F:gu}(h:BM S l N ids F)(x:Int):(lx x F).length≤N*N:=by
 obtain⟨es,cl,h1,h2,h3⟩:=h.top
 have hk:∀n,n∈cO F→(iE x n ((F n).getD fun _=>none)).length≤N:=fun n hn=>by
  obtain⟨f,hf⟩:=XH.1 (oI hn);obtain⟨i,hi⟩:=bF (fun q=>by rw[(h.some_ _).1 q]at hf;cases hf);obtain⟨es,cl,g1,g2,g3⟩:=h.low _ i f hi hf;have:=Fl g3;rw[hf];unfold iE;rw[XS];show(cO f).length≤N;omega
 have hn:(cO F).length≤N:=by
  have:=Js fun k=>(by rw[←h.some_ k,h3 k];cases ids k <;>simp:aJ es (kT k)=none↔F k=none);omega
 have h4:=rN (rows:=(cO F).map fun n=>iE x n ((F n).getD fun _=>none)) (n:=N) fun r hr=>by
  obtain⟨n,q1,rfl⟩:=Xq.1 hr;exact hk n q1
 rw[XS]at h4
 have h5:(lx x F).length=(lE ((cO F).map fun n=>iE x n ((F n).getD fun _=>none))).length:=by
  unfold lx lE;rw[List.flatMap]
 have:=XQ N hn;omega
theorem MI.VE{S:St}{g:MG}{N:Nat}{c:Cf}{μ:bc}(h:MI S g N c μ)(hN:N≤10000)(x:Int)(hx:0≤x∧x<μ.l.length):(lx x (aL μ x).F).length≤100000000:=by
 cases ha:wX g.ls x with
 |none=>exact absurd hx (h.Tp ha)
 |some b=>
  obtain⟨_,bb,ids,r,dr,h1,h2,_⟩:=h.Tk ha;have:=Fp h2 x;have:=Nat.mul_le_mul hN hN;omega
@[go_sem] def QA (l:List C4):DV:= .sl 6 false (l.map sg)
theorem LX(w0:W0)(l m:List C4)(h0:l.length≤4611686018427387904)(S:St):aa Tryz.prog w0 50 [QA l,QA m] S (fun d S'=>d=dB (pB (l=m))∧S'=S):=by
 refine cb [] mx Tryz.func50 rfl rfl (by kernel_rfl) ?_;simp(maxDischargeDepth:=12) (maxSteps:=1000000) -implicitDefEqProofs only[Tryz.ntmps50,go_sem,Nat.reduceAdd,Nat.reduceSub,Nat.reduceMul,Nat.reduceLeDiff,Nat.reduceEqDiff,Nat.reduceGT,Nat.reduceBEq,reduceCtorEq,↓reduceIte,Int.reduceToNat,Int.reduceLE,Int.reduceLT,Int.reduceNe,Int.reduceEq];refine⟨fun h1 h2=>h1 (congrArg List.length h2),fun h=>?_⟩;have h:l.length=m.length:=by omega
 refine aX [] l.length [0,1,5] (fun i=>[(5,dI i)]) (fun i=>S) (fun i=>∀j,j<i→l[j]? =m[j]?) mx (by kernel_rfl) ?_ ?_
 ·simp(maxDischargeDepth:=12) (maxSteps:=1000000) -implicitDefEqProofs only[go_sem,Nat.reduceAdd,Nat.reduceSub,Nat.reduceMul,Nat.reduceLeDiff,Nat.reduceEqDiff,Nat.reduceGT,Nat.reduceBEq,reduceCtorEq,↓reduceIte,Int.reduceToNat,Int.reduceLE,Int.reduceLT,Int.reduceNe,Int.reduceEq];intro j hj;omega
 ·intro i hi hinv;have e1:i<4611686018427387904→IntKind.i64.wrap ((i:Int)+1)=((i+1:Nat):Int):=fun h=>aH (by omega);by_cases hil:i<l.length
  ·have e1:=e1 (by omega);have hx:l[i]? =some l[i]:=Xb hil;have hy:m[i]? =some (m[i]'(by omega)):=Xb (by omega);generalize l[i]=x at hx;generalize m[i]'(by omega)=y at hy;simp(maxDischargeDepth:=12) (maxSteps:=1000000) -implicitDefEqProofs only[go_sem,Nat.reduceAdd,Nat.reduceSub,Nat.reduceMul,Nat.reduceLeDiff,Nat.reduceEqDiff,Nat.reduceGT,Nat.reduceBEq,reduceCtorEq,↓reduceIte,Int.reduceToNat,Int.reduceLE,Int.reduceLT,Int.reduceNe,Int.reduceEq,hx,hy,e1];refine⟨fun _=>⟨hil,by omega,fun he=>⟨hil,fun j hj=>?_⟩,fun hne e=>?_⟩,fun h=>absurd hil h⟩
   ·by_cases e:j=i
    ·subst e;simp only[Xe,decide_eq_true_eq]at he;rw[hx,hy];cases x;cases y;simp at he;simp[he]
    ·exact hinv j (by omega)
   ·rw[e,hy]at hx;have:=XJ hx;subst this;simp at hne
  ·simp(maxDischargeDepth:=12) (maxSteps:=1000000) -implicitDefEqProofs only[go_sem,Nat.reduceAdd,Nat.reduceSub,Nat.reduceMul,Nat.reduceLeDiff,Nat.reduceEqDiff,Nat.reduceGT,Nat.reduceBEq,reduceCtorEq,↓reduceIte,Int.reduceToNat,Int.reduceLE,Int.reduceLT,Int.reduceNe,Int.reduceEq];refine⟨fun h=>absurd h hil,fun _=>?_⟩;refine Ya fun j=>?_;by_cases hj:j<l.length
   ·exact hinv j (by omega)
   ·rw[Xk (by omega),Xk (by omega)]
theorem JQ{a b:v8}:a=b↔a.e=b.e∧a.n=b.n∧a.rows=b.rows∧a.pd=b.pd:=by
 cases a;cases b;simp
theorem yX(w0:W0)(a b:v8)(h0:a.rows.length≤4611686018427387904)(h1:a.pd.length≤4611686018427387904)(S:St):aa Tryz.prog w0 14 [Hx a,Hx b] S (fun d S'=>d=dB (pB (a=b))∧S'=S):=by
 refine cb [] mx Tryz.func14 rfl rfl (by kernel_rfl) ?_;simp(maxDischargeDepth:=12) (maxSteps:=1000000) -implicitDefEqProofs only[Tryz.ntmps14,go_sem,Nat.reduceAdd,Nat.reduceSub,Nat.reduceMul,Nat.reduceLeDiff,Nat.reduceEqDiff,Nat.reduceGT,Nat.reduceBEq,reduceCtorEq,↓reduceIte,Int.reduceToNat,Int.reduceLE,Int.reduceLT,Int.reduceNe,Int.reduceEq];intro b1 b2;refine⟨fun h2=>⟨fun h3=>?_,fun h3 e=>h3 (by rw[e])⟩,fun h2 e=>h2 (by rw[e])⟩;refine aw (EI w0 a.rows b.rows h0 _) ?_;simp(maxDischargeDepth:=12) (maxSteps:=1000000) -implicitDefEqProofs only[go_sem,Nat.reduceAdd,Nat.reduceSub,Nat.reduceMul,Nat.reduceLeDiff,Nat.reduceEqDiff,Nat.reduceGT,Nat.reduceBEq,reduceCtorEq,↓reduceIte,Int.reduceToNat,Int.reduceLE,Int.reduceLT,Int.reduceNe,Int.reduceEq];refine⟨fun h4=>?_,fun h4 e=>h4 (by rw[e])⟩;refine aw (LX w0 a.pd b.pd h1 _) ?_;simp(maxDischargeDepth:=12) (maxSteps:=1000000) -implicitDefEqProofs only[go_sem,Nat.reduceAdd,Nat.reduceSub,Nat.reduceMul,Nat.reduceLeDiff,Nat.reduceEqDiff,Nat.reduceGT,Nat.reduceBEq,reduceCtorEq,↓reduceIte,Int.reduceToNat,Int.reduceLE,Int.reduceLT,Int.reduceNe,Int.reduceEq];exact⟨fun h=>(JQ.2 ⟨h2,h3,h4,h⟩),fun h=>by rw[h]⟩
def Uw(o:bl):Prop:=o.value.length≤500∧o.bucket.length≤60∧o.key.length≤60∧o.bY.length≤20
def Vy(l:List bl):Prop:=(∀o,o∈l→Uw o)∧l.length≤120
@[go_sem] def mE (l:List bl):DV:= .sl 11 false (l.map HJ)
theorem yA(w0:W0)(l:List bl)(h0:l.length≤4611686018427387904)(S:St):aa Tryz.prog w0 9 [mE l] S (fun d S'=>d=dB (pB (Vy l))∧S'=S):=by
 refine cb [] mx Tryz.func9 rfl rfl (by kernel_rfl) ?_;simp(maxDischargeDepth:=12) (maxSteps:=1000000) -implicitDefEqProofs only[Tryz.ntmps9,go_sem,Nat.reduceAdd,Nat.reduceSub,Nat.reduceMul,Nat.reduceLeDiff,Nat.reduceEqDiff,Nat.reduceGT,Nat.reduceBEq,reduceCtorEq,↓reduceIte,Int.reduceToNat,Int.reduceLE,Int.reduceLT,Int.reduceNe,Int.reduceEq];refine aX [] l.length [0,3] (fun i=>[(3,dI i)]) (fun i=>S) (fun i=>∀j o,j<i→l[j]? =some o→Uw o) mx (by kernel_rfl) ?_ ?_
 ·simp(maxDischargeDepth:=12) (maxSteps:=1000000) -implicitDefEqProofs only[go_sem,Nat.reduceAdd,Nat.reduceSub,Nat.reduceMul,Nat.reduceLeDiff,Nat.reduceEqDiff,Nat.reduceGT,Nat.reduceBEq,reduceCtorEq,↓reduceIte,Int.reduceToNat,Int.reduceLE,Int.reduceLT,Int.reduceNe,Int.reduceEq];intro j o hj;omega
 ·intro i hi hinv;have e1:i<4611686018427387904→IntKind.i64.wrap ((i:Int)+1)=((i+1:Nat):Int):=fun h=>aH (by omega);by_cases hil:i<l.length
  ·have e1:=e1 (by omega);have hx:l[i]? =some l[i]:=Xb hil;generalize l[i]=x at hx;have hm:x∈l:=Xd hx;have s1:(tx x.value).size=x.value.length:=dQ _;have s2:(tx x.bucket).size=x.bucket.length:=dQ _;have s3:(tx x.key).size=x.key.length:=dQ _;simp(maxDischargeDepth:=12) (maxSteps:=1000000) -implicitDefEqProofs only[go_sem,Nat.reduceAdd,Nat.reduceSub,Nat.reduceMul,Nat.reduceLeDiff,Nat.reduceEqDiff,Nat.reduceGT,Nat.reduceBEq,reduceCtorEq,↓reduceIte,Int.reduceToNat,Int.reduceLE,Int.reduceLT,Int.reduceNe,Int.reduceEq,hx,e1];rw[s1,s2,s3];refine⟨fun _=>⟨hil,fun q h=>?_,fun q1=>⟨hil,fun q h=>?_,fun q2=>⟨hil,fun q h=>?_,fun q3=>⟨hil,fun q h=>?_,fun q4=>⟨hil,fun j o hj ho=>?_⟩⟩⟩⟩⟩,fun h=>absurd hil h⟩
   ·have:=(h.1 x hm).1;omega
   ·have:=(h.1 x hm).2.1;omega
   ·have:=(h.1 x hm).2.2.1;omega
   ·have:=(h.1 x hm).2.2.2;omega
   ·by_cases e:j=i
    ·subst e;rw[hx]at ho;cases ho;exact⟨by omega,by omega,by omega,by omega⟩
    ·exact hinv j o (by omega) ho
  ·simp(maxDischargeDepth:=12) (maxSteps:=1000000) -implicitDefEqProofs only[go_sem,Nat.reduceAdd,Nat.reduceSub,Nat.reduceMul,Nat.reduceLeDiff,Nat.reduceEqDiff,Nat.reduceGT,Nat.reduceBEq,reduceCtorEq,↓reduceIte,Int.reduceToNat,Int.reduceLE,Int.reduceLT,Int.reduceNe,Int.reduceEq];refine⟨fun h=>absurd h hil,fun _=>⟨fun h=>⟨fun o ho=>?_,by omega⟩,fun h=>by have:=h.2;omega⟩⟩;obtain⟨j,hj⟩:=XN.1 ho;exact hinv j o (by have:=(Xc.1 hj).1;omega) hj
theorem kf:∀s:List UInt8,(∀c,c∈s→c.toNat<128)→bp s=s.map fun c=>(c.toNat,[c])
 |[],_=>sa
 |c::s,h=>by
  rw[nB (h c Xm),kf s fun x hx=>h x (Xj _ hx)];rfl
theorem nw:∀w:List UInt8,(∀x,x∈w→x.toNat<128)→whole w
 |[],h=>fun r hr=>by rw[sa]at hr;cases hr
 |c::w,h=>by
  intro r hr;rw[nB (h c (by simp))]at hr;rcases Xr.1 hr with rfl|hr
  ·exact fun q=>by have:=h c (by simp);simp at q;omega
  ·exact nw w (fun x hx=>h x (Xj _ hx)) r hr
theorem Lk{s:List UInt8}(h:∀c,c∈s→pC c.toNat=true∧c.toNat<128)(h0:s≠[])(h1:s.length≤12):gP s where
 NY:=fun r hr=>by
  rw[kf s fun c hc=>(h c hc).2]at hr;obtain⟨c,hc,rfl⟩:=Xq.1 hr;exact(h c hc).1
 whole:=nw s fun x hx=>(h x hx).2
 pos:=by
  rw[kf s fun c hc=>(h c hc).2,XS];exact Yt.2 h0
 le:=by
  rw[kf s fun c hc=>(h c hc).2,XS];omega
def dc:Cf:=⟨[[108,111,119],[104,105,103,104]],[3,2],[40,40],[⟨1,1,0⟩]⟩
theorem P4:rb [3,2]:=by
 refine gR.2 ⟨by decide,by decide,pr.1 (by decide),fun a ha b hb=>?_⟩;have ha':a<2:=ha;obtain⟨rfl,rfl⟩:a=1∧b=0:=by omega
 refine⟨by decide,⟨1,by decide,by decide,by decide,fun d hd=>?_⟩,⟨0,by decide,by decide,by decide,fun d hd=>?_⟩⟩
 ·have:d<2:=hd;rcases(show d=0∨d=1 by omega)with rfl|rfl <;>decide
 ·have:d<2:=hd;rcases(show d=0∨d=1 by omega)with rfl|rfl <;>decide
theorem Rg:HV dc where
 Iy:=rfl
 Ov:=rfl
 PX:=P4
 Sc:=⟨by decide,fun g h=>(by rw[Xl.1 h];decide),List.pairwise_singleton _ _⟩
 name:=fun s hs=>by
  simp only[dc,Xr,YB,or_false]at hs;rcases hs with rfl|rfl
  ·exact Lk (by decide) (by decide) (by decide)
  ·exact Lk (by decide) (by decide) (by decide)
 quo:=fun n hn=>by
  simp only[dc,Xr,YB,or_false]at hn;rcases hn with rfl|rfl <;>decide
 uniq:=by decide
theorem Qt:yY dc:=⟨by decide,fun s hs=>by
 simp only[dc,Xr,YB,or_false]at hs;rcases hs with rfl|rfl <;>decide,by decide,fun x hx=>by simp only[dc,Xr,YB,or_false]at hx;rcases hx with rfl|rfl <;>decide,by decide,by decide⟩
def Nk:bl:=⟨0,0,0,0,[],[],[],0,0,0,[]⟩
def BW:bl:=⟨2,0,1,0,[],[],[],0,0,0,[]⟩
def N5:bl:=⟨5,0,1,0,[98],[],[],0,0,0,[]⟩
def MW:bl:=⟨7,0,1,0,[98],[107],[118],0,0,0,[]⟩
def Mx:bl:=⟨3,0,1,0,[],[],[],0,0,0,[]⟩
def LR:bl:=⟨0,1,0,0,[],[],[],0,0,0,[]⟩
def mR:bl:=⟨9,1,1,0,[98],[107],[],0,0,0,[]⟩
def Ql:bl:=⟨15,1,1,0,[],[],[],1,0,0,[]⟩
def KG:bl:=⟨7,0,1,0,[98],[108],[],0,0,0,[]⟩
def lh:List RH:=[⟨0,1,[],0,false⟩]
def fG:List RH:=[⟨0,1,[],0,false⟩,⟨1,1,[],0,false⟩]
def qX:gu:=fun _=>none
def SY:List UInt8→Option (List UInt8):=fun _=>none
def FD:List UInt8→Option (List UInt8):=fun j=>if j=[107]then some [118]else none
def DI:gu:=fI qX [98] SY
def aW:gu:=fI DI [98] FD
def je(F:gu)(has:Int)(D:gu)(r:List RH):bc:=⟨[⟨F,[],has,D⟩,⟨qX,[],0,qX⟩],r,fun _ _ _=>none⟩
theorem UT:eK eQ dc (wR 2) Nk false=(nY 1,je qX 0 qX lh):=by kernel_rfl
theorem VF:eK eQ dc (je qX 0 qX lh) BW false=(gv 0,je qX 1 qX lh):=by kernel_rfl
theorem Vn:eK eQ dc (je qX 1 qX lh) N5 false=(gv 0,je qX 1 DI lh):=by kernel_rfl
theorem Vo:eK eQ dc (je qX 1 DI lh) MW false=(gv 0,je qX 1 aW lh):=by kernel_rfl
theorem VI:eK eQ dc (je qX 1 aW lh) Mx false=(gv 0,je aW 0 aW lh):=by kernel_rfl
theorem V2:eK eQ dc (je aW 0 aW lh) LR false=(nY 1,je aW 0 aW fG):=by kernel_rfl
theorem Sq:cO aW=[[98]]:=by
 rw[sS (V:=[[98]]) (by decide) fun k=>?_]
 ·exact List.mergeSort_singleton _
 ·unfold aW DI fI qX;by_cases h:k=[98]
  ·simp[h]
  ·simp[h]
theorem Qk:cO FD=[[107]]:=by
 rw[sS (V:=[[107]]) (by decide) fun k=>?_]
 ·exact List.mergeSort_singleton _
 ·unfold FD;by_cases h:k=[107]
  ·simp[h]
  ·simp[h]
theorem Sz:bG dc (je aW 0 aW fG) mR (fun k=>decide (k=mR.key)) 2=[[⟨[107],0,[118]⟩],[]]:=by
 have h1:iB dc (je aW 0 aW fG) mR 2=[0,1]:=by decide +kernel
 have h2:gk (je aW 0 aW fG) mR 0 mR.bucket=some FD:=by kernel_rfl
 have h3:gk (je aW 0 aW fG) mR 1 mR.bucket=none:=by kernel_rfl
 unfold bG;rw[h1];simp only[XE,List.map_nil,h2,h3,pI,Qk];rfl
theorem VV:eK eQ dc (je aW 0 aW fG) mR false=(⟨0,0,[⟨[107],0,[118]⟩],[]⟩,je aW 0 aW fG):=by
 have h1:eK eQ dc (je aW 0 aW fG) mR false=DW (je aW 0 aW fG) (getM dc (je aW 0 aW fG) mR):=by kernel_rfl
 have h2:¬fc (je aW 0 aW fG) mR:=by decide +kernel
 have h3:ft dc (je aW 0 aW fG) mR 2=true:=by kernel_rfl
 have hl:(je aW 0 aW fG).l.length=2:=rfl;rw[h1];unfold getM;rw[if_neg h2,hl,h3,if_neg (by simp),Sz];rfl
theorem Ut:eK eQ dc (je aW 0 aW fG) BW false=(gv 0,je aW 1 aW fG):=by kernel_rfl
theorem Vp:eK eQ dc (je aW 1 aW fG) Ql false=(gv 36,je aW 1 aW fG):=by kernel_rfl
theorem To:eK eQ dc (je aW 1 aW fG) KG true=(gv 37,je aW 1 aW fG):=by kernel_rfl
theorem QB:lx 0 aW=[⟨[98,47,107],0,[118]⟩]:=by
 have h:aW [98]=some FD:=by kernel_rfl
 unfold lx iE;simp only[Sq,Zm,List.flatMap_nil,h,YA,Qk];rfl
structure ji(T:St)(g:MG)(b:Nat)(v:List DV):Prop where
 at_:lk T.box b=some v
 no:b∉g.bx
structure sO(T:St)(g:MG)(b:Nat)(v:Ob):Prop where
 at_:lk T.acc b=some v
 no:g.own b= .no
theorem ji.fr{T T':St}{g g':MG}{b:Nat}{v:List DV}(h:ji T g b v)(k:gz T T' g g'):ji T' g' b v:=⟨k.box _ _ h.no h.at_,fun q=>(k.nb _ q).elim h.no fun e=>by rw[h.at_]at e;cases e⟩
theorem sO.fr{T T':St}{g g':MG}{b:Nat}{v:Ob}(h:sO T g b v)(k:gz T T' g g'):sO T' g' b v:=⟨k.acc _ _ h.no h.at_,X5 fun q=>(k.na _ q).elim (fun e=>e h.no) fun e=>by rw[h.at_]at e;cases e⟩
theorem ji.has{T T':St}{g:MG}{b:Nat}{v:List DV}(h:ji T g b v)(k:Has T T'):ji T' g b v:=⟨k.box _ _ h.at_,h.no⟩
theorem sO.has{T T':St}{g:MG}{b:Nat}{v:Ob}(h:sO T g b v)(k:Has T T'):sO T' g b v:=⟨k.acc _ _ h.at_,h.no⟩
theorem gm{T:St}(b:FN T.box)(v:List DV):Has T ⟨(b.n,v)::T.box,T.acc⟩:=⟨fun _ _ q=>ai (ak b) q,fun _ _ q=>q⟩
theorem Qr{T:St}(b:FN T.acc)(v:Ob):Has T ⟨T.box,(b.n,v)::T.acc⟩:=⟨fun _ _ q=>q,fun _ _ q=>ai (ak b) q⟩
theorem MI.sC{T:St}{g:MG}{N:Nat}{c:Cf}{μ:bc}(h:MI T g N c μ)(b:FN T.box)(v:List DV):ji ⟨(b.n,v)::T.box,T.acc⟩ g b.n v:=⟨iF _ _ _,fun q=>h.mn q (ak b)⟩
theorem MI.Tc{T:St}{g:MG}{N:Nat}{c:Cf}{μ:bc}(h:MI T g N c μ)(b:FN T.acc)(v:Ob):sO ⟨T.box,(b.n,v)::T.acc⟩ g b.n v:=⟨iF _ _ _,X5 fun q=>h.lD _ q (ak b)⟩
structure uP(S T:St)(g:MG):Prop where
 box:∀i v,lk S.box i=some v→ji T g i v
 acc:∀i v,lk S.acc i=some v→sO T g i v
theorem uP.out{S T:St}{g:MG}(h:uP S T g):Has S T:=⟨fun i v q=>(h.box i v q).at_,fun i v q=>(h.acc i v q).at_⟩
theorem uP.fr{S T T':St}{g g':MG}(h:uP S T g)(k:gz T T' g g'):uP S T' g':=⟨fun i v q=>(h.box i v q).fr k,fun i v q=>(h.acc i v q).fr k⟩
theorem uP.has{S T T':St}{g:MG}(h:uP S T g)(k:Has T T'):uP S T' g:=⟨fun i v q=>(h.box i v q).has k,fun i v q=>(h.acc i v q).has k⟩
theorem uP.sub{S0 S T:St}{g:MG}(h:uP S T g)(k:Has S0 S):uP S0 T g:=⟨fun i v q=>h.box i v (k.box i v q),fun i v q=>h.acc i v (k.acc i v q)⟩
theorem uP.new{S T:St}{g:MG}(k1:∀i v,lk S.box i=some v→lk T.box i=some v)(k2:∀i v,lk S.acc i=some v→lk T.acc i=some v)(k3:∀i,i∈g.bx→lk S.box i=none)(k4:∀i,g.own i≠ .no→lk S.acc i=none):uP S T g:=
 ⟨fun i v q=>⟨k1 i v q,fun e=>by rw[k3 i e]at q;cases q⟩,fun i v q=>⟨k2 i v q,X5 fun e=>by rw[k4 i e]at q;cases q⟩⟩
@[go_sem] def RW (o:bl):DV:= .agg [dI o.kind,dI o.level,dI o.aB,dI o.snap,dS (tx o.bucket),dS (tx o.key),dS (tx o.value),dI o.label,dI o.eX,dI o.n,.sl 0 true []]
theorem MC{o:bl}(h:o.bY=[]):Wk (RW o) (HJ o):=by
 unfold RW HJ;rw[h];exact .agg ⟨.refl _,.refl _,.refl _,.refl _,.refl _,.refl _,.refl _,.refl _,.refl _,.refl _,.nil _ _ _,trivial⟩
def Vc(S:St)(g:MG)(N:Nat)(c:Cf)(q:v8×bc):DV→St→Prop:=fun d S'=>d=Hx q.1∧∃g',MI S' g' (N+1) c q.2∧gz S S' g g'
theorem qZ{w0:W0}{S:St}{g:MG}{N:Nat}{c:Cf}{μ:bc}{o:bl}{full:Bool}{q:v8×bc}(hgO:l8 w0)(hgC:jY w0)(hI:MI S g N c μ)(hM:fx N c μ)(hgr:c.gr.length≤1048576)(hN:N≤10000)(hk:o.bY=[])(he:eK eQ c μ o full=q):
 aa Tryz.prog w0 12 [bg g.m,RW o,dB full] S (Vc S g N c q):=
 he▸iD (NI hgO hgC hI hM hgr hN) ⟨.refl _,MC hk,.refl _,trivial⟩ fun d S' h=>⟨_,.refl _,h⟩
theorem SE(w0:W0)(S:St):aa Tryz.prog w0 25 [] S (fun d S'=>d=OP dc∧S'=S):=by
 refine cb [] mx Tryz.func25 rfl rfl (by kernel_rfl) ?_;simp(maxDischargeDepth:=12) (maxSteps:=1000000) -implicitDefEqProofs only[Tryz.ntmps25,go_sem,Nat.reduceAdd,Nat.reduceSub,Nat.reduceMul,Nat.reduceLeDiff,Nat.reduceEqDiff,Nat.reduceGT,Nat.reduceBEq,reduceCtorEq,↓reduceIte,Int.reduceToNat,Int.reduceLE,Int.reduceLT,Int.reduceNe,Int.reduceEq];intro b;exact .agg ⟨Wk.full _ _ _,Wk.full _ _ _,Wk.full _ _ _,Wk.full _ _ _,trivial⟩
def O4:List bl:=[Nk,BW,N5,MW,Mx,LR]
def RF(i:Nat):bc:=[wR 2,je qX 0 qX lh,je qX 1 qX lh,je qX 1 DI lh,je qX 1 aW lh,je aW 0 aW lh].getD i (je aW 0 aW fG)
theorem IE{i:Nat}{o:bl}(h:O4[i]? =some o):o.bY=[]∧∃r,r.e=0∧eK eQ dc (RF i) o false=(r,RF (i+1)):=by
 have hi:i<6:=(Xc.1 h).1;obtain rfl|rfl|rfl|rfl|rfl|rfl:i=0∨i=1∨i=2∨i=3∨i=4∨i=5:=by omega
 all_goals cases h
 ·exact⟨rfl,_,rfl,UT⟩
 ·exact⟨rfl,_,rfl,VF⟩
 ·exact⟨rfl,_,rfl,Vn⟩
 ·exact⟨rfl,_,rfl,Vo⟩
 ·exact⟨rfl,_,rfl,VI⟩
 ·exact⟨rfl,_,rfl,V2⟩
theorem E5{w0:W0}(hgT:gq w0)(hk:KU w0)(hgO:l8 w0)(hgC:jY w0)(S:St):aa Tryz.prog w0 8 [] S (fun d S'=>d=dB true∧Has S S'):=by
 have hgr:dc.gr.length≤1048576:=by decide
 refine jj [] mx Tryz.func8 rfl rfl (by kernel_rfl) ?_;simp(maxDischargeDepth:=12) (maxSteps:=1000000) -implicitDefEqProofs only[Tryz.ntmps8,go_sem,Nat.reduceAdd,Nat.reduceSub,Nat.reduceMul,Nat.reduceLeDiff,Nat.reduceEqDiff,Nat.reduceGT,Nat.reduceBEq,reduceCtorEq,↓reduceIte,Int.reduceToNat,Int.reduceLE,Int.reduceLT,Int.reduceNe,Int.reduceEq];refine aw (SE _ _) ?_;simp(maxDischargeDepth:=12) (maxSteps:=1000000) -implicitDefEqProofs only[go_sem,Nat.reduceAdd,Nat.reduceSub,Nat.reduceMul,Nat.reduceLeDiff,Nat.reduceEqDiff,Nat.reduceGT,Nat.reduceBEq,reduceCtorEq,↓reduceIte,Int.reduceToNat,Int.reduceLE,Int.reduceLT,Int.reduceNe,Int.reduceEq];refine aj (L6 hgT hk dc Qt _) ?_;rintro _ T0 (⟨h,_⟩|⟨_,g0,rfl,hI0,k1,k2,k3,k4⟩)
 ·exact absurd Rg h
 have hM0:fx 0 dc (wR 2):=Nv Rg (by decide);have hI0:MI T0 g0 0 dc (wR 2):=hI0;simp(maxDischargeDepth:=12) (maxSteps:=1000000) -implicitDefEqProofs only[go_sem,Nat.reduceAdd,Nat.reduceSub,Nat.reduceMul,Nat.reduceLeDiff,Nat.reduceEqDiff,Nat.reduceGT,Nat.reduceBEq,reduceCtorEq,↓reduceIte,Int.reduceToNat,Int.reduceLE,Int.reduceLT,Int.reduceNe,Int.reduceEq];obtain⟨L,hL⟩:∃L,L=O4:=⟨_,rfl⟩;have hl6:L.length=6:=by rw[hL];rfl
 have hA0:uP S T0 g0:= .new k1 k2 k3 k4;refine cY [] [1,3,4] (σ:=Nat×St×MG) (fun s=>[(1,bg g0.m),(3,.sl 11 true (L.map RW)),(4,dI s.1)]) (fun s=>s.2.1) (fun s=>s.1≤6∧s.2.2.m=g0.m∧MI s.2.1 s.2.2 s.1 dc (RF s.1)∧fx s.1 dc (RF s.1)∧uP S s.2.1 s.2.2) (fun s=>6-s.1) (0,T0,g0) mx (by kernel_rfl) ⟨⟨XR _,rfl,hI0,hM0,hA0⟩,?_⟩ ?_
 ·rw[hL];simp(maxDischargeDepth:=12) (maxSteps:=1000000) -implicitDefEqProofs only[go_sem,Nat.reduceAdd,Nat.reduceSub,Nat.reduceMul,Nat.reduceLeDiff,Nat.reduceEqDiff,Nat.reduceGT,Nat.reduceBEq,reduceCtorEq,↓reduceIte,Int.reduceToNat,Int.reduceLE,Int.reduceLT,Int.reduceNe,Int.reduceEq,O4,Nk,BW,N5,MW,Mx,LR,tx];exact .refl _
 ·rintro⟨i,T,g⟩ ⟨hi,hm,hI,hM,hA⟩;simp only at hi hm hI hM hA;have e1:IntKind.i64.wrap ((i:Int)+1)=((i+1:Nat):Int):=aH (by omega);by_cases hi6:i<6
  ·have hxo:O4[i]? =some O4[i]:=Xb hi6;generalize O4[i]=o at hxo;have hx:L[i]? =some o:=by rw[hL,hxo]
   obtain⟨hko,r,hr,hq⟩:=IE hxo;simp(maxDischargeDepth:=12) (maxSteps:=1000000) -implicitDefEqProofs only[go_sem,Nat.reduceAdd,Nat.reduceSub,Nat.reduceMul,Nat.reduceLeDiff,Nat.reduceEqDiff,Nat.reduceGT,Nat.reduceBEq,reduceCtorEq,↓reduceIte,Int.reduceToNat,Int.reduceLE,Int.reduceLT,Int.reduceNe,Int.reduceEq,hx,e1,hl6];refine⟨fun _=>⟨by omega,?_⟩,fun h=>absurd (by omega) h⟩;rw[←hm];refine aj (qZ hgO hgC hI hM hgr (by omega) hko hq) ?_;rintro _ T' ⟨rfl,g',j1,j2⟩;simp(maxDischargeDepth:=12) (maxSteps:=1000000) -implicitDefEqProofs only[go_sem,Nat.reduceAdd,Nat.reduceSub,Nat.reduceMul,Nat.reduceLeDiff,Nat.reduceEqDiff,Nat.reduceGT,Nat.reduceBEq,reduceCtorEq,↓reduceIte,Int.reduceToNat,Int.reduceLE,Int.reduceLT,Int.reduceNe,Int.reduceEq,hr,e1];intro b;have hb:=gm b [dI 0,dI r.n,.sl 3 false (r.rows.map pQ),dI 0,dI 0,dI 0,dI 0,.sl 6 false (r.pd.map sg)];refine⟨(i+1,T',g'),⟨by show i+1≤6;omega,j2.m,j1,?_,hA.fr j2⟩,by show 6-(i+1)<6-i;omega,rfl,?_⟩
   ·have:=ic (o:=o) (full:=false) hM;rw[hq]at this;exact this
   ·simp(maxDischargeDepth:=12) (maxSteps:=1000000) -implicitDefEqProofs only[go_sem,Nat.reduceAdd,Nat.reduceSub,Nat.reduceMul,Nat.reduceLeDiff,Nat.reduceEqDiff,Nat.reduceGT,Nat.reduceBEq,reduceCtorEq,↓reduceIte,Int.reduceToNat,Int.reduceLE,Int.reduceLT,Int.reduceNe,Int.reduceEq]
  ·obtain rfl:i=6:=by omega
   simp(maxDischargeDepth:=12) (maxSteps:=1000000) -implicitDefEqProofs only[go_sem,Nat.reduceAdd,Nat.reduceSub,Nat.reduceMul,Nat.reduceLeDiff,Nat.reduceEqDiff,Nat.reduceGT,Nat.reduceBEq,reduceCtorEq,↓reduceIte,Int.reduceToNat,Int.reduceLE,Int.reduceLT,Int.reduceNe,Int.reduceEq,hl6];rw[←hm];refine aj (qZ (o:=mR) hgO hgC hI hM hgr (by omega) rfl VV) ?_;rintro _ T1 ⟨rfl,g1,j1,j2⟩;simp(maxDischargeDepth:=12) (maxSteps:=1000000) -implicitDefEqProofs only[go_sem,Nat.reduceAdd,Nat.reduceSub,Nat.reduceMul,Nat.reduceLeDiff,Nat.reduceEqDiff,Nat.reduceGT,Nat.reduceBEq,reduceCtorEq,↓reduceIte,Int.reduceToNat,Int.reduceLE,Int.reduceLT,Int.reduceNe,Int.reduceEq];intro b6;have o6:=j1.sC b6 [dI 0,dI 0,.sl 3 false (([⟨[107],0,[118]⟩]:List hY).map pQ),dI 0,dI 0,dI 0,dI 0,.sl 6 false []];have x1:=j1.has (gm b6 [dI 0,dI 0,.sl 3 false (([⟨[107],0,[118]⟩]:List hY).map pQ),dI 0,dI 0,dI 0,dI 0,.sl 6 false []]);have a1:=(hA.fr j2).has (gm b6 [dI 0,dI 0,.sl 3 false (([⟨[107],0,[118]⟩]:List hY).map pQ),dI 0,dI 0,dI 0,dI 0,.sl 6 false []]);have M1:fx 7 dc (je aW 0 aW fG):=hM.le (XI 6);rw[←j2.m];refine aj (qZ (o:=BW) hgO hgC x1 M1 hgr (by omega) rfl Ut) ?_;rintro _ T2 ⟨rfl,g2,j3,j4⟩;simp(maxDischargeDepth:=12) (maxSteps:=1000000) -implicitDefEqProofs only[go_sem,Nat.reduceAdd,Nat.reduceSub,Nat.reduceMul,Nat.reduceLeDiff,Nat.reduceEqDiff,Nat.reduceGT,Nat.reduceBEq,reduceCtorEq,↓reduceIte,Int.reduceToNat,Int.reduceLE,Int.reduceLT,Int.reduceNe,Int.reduceEq];intro b7;have p6:=(o6.fr j4);have o7:=j3.sC b7 [dI 0,dI 0,.sl 3 false [],dI 0,dI 0,dI 0,dI 0,.sl 6 false []];have hT2:=gm b7 [dI 0,dI 0,.sl 3 false [],dI 0,dI 0,dI 0,dI 0,.sl 6 false []];have p6:=p6.has hT2;have a2:=(a1.fr j4).has hT2;have x2:=j3.has hT2
   have M2:fx 8 dc (je aW 1 aW fG):=by
    have:=ic (o:=BW) (full:=false) M1;rw[Ut]at this;exact this
   rw[←j4.m];refine aj (qZ (o:=Ql) hgO hgC x2 M2 hgr (by omega) rfl Vp) ?_;rintro _ T3 ⟨rfl,g3,j5,j6⟩;simp(maxDischargeDepth:=12) (maxSteps:=1000000) -implicitDefEqProofs only[go_sem,Nat.reduceAdd,Nat.reduceSub,Nat.reduceMul,Nat.reduceLeDiff,Nat.reduceEqDiff,Nat.reduceGT,Nat.reduceBEq,reduceCtorEq,↓reduceIte,Int.reduceToNat,Int.reduceLE,Int.reduceLT,Int.reduceNe,Int.reduceEq];intro b8;have p7:=o7.fr j6;have p6:=p6.fr j6;have o8:=j5.sC b8 [dI 36,dI 0,.sl 3 false [],dI 0,dI 0,dI 0,dI 0,.sl 6 false []];have hT3:=gm b8 [dI 36,dI 0,.sl 3 false [],dI 0,dI 0,dI 0,dI 0,.sl 6 false []];have p6:=p6.has hT3;have p7:=p7.has hT3;have a3:=(a2.fr j6).has hT3;have x3:=j5.has hT3;rw[←j6.m];refine aj (qZ (o:=KG) (full:=true) hgO hgC x3 (M2.le (XI 8)) hgr (by omega) rfl To) ?_;rintro _ T4 ⟨rfl,g4,j7,j8⟩;simp(maxDischargeDepth:=12) (maxSteps:=1000000) -implicitDefEqProofs only[go_sem,Nat.reduceAdd,Nat.reduceSub,Nat.reduceMul,Nat.reduceLeDiff,Nat.reduceEqDiff,Nat.reduceGT,Nat.reduceBEq,reduceCtorEq,↓reduceIte,Int.reduceToNat,Int.reduceLE,Int.reduceLT,Int.reduceNe,Int.reduceEq];intro b9;have p6:=p6.fr j8;have p7:=p7.fr j8;have p8:=o8.fr j8;have hT4:=gm b9 [dI 37,dI 0,.sl 3 false [],dI 0,dI 0,dI 0,dI 0,.sl 6 false []];have a4:=(a3.fr j8).has hT4;have x4:=j7.has hT4;have n6:=av b9 b6.n (by rw[p6.at_];rfl);have n7:=av b9 b7.n (by rw[p7.at_];rfl);have n8:=av b9 b8.n (by rw[p8.at_];rfl);have q6:=p6.at_;have q7:=p7.at_;have q8:=p8.at_;have M4:=(M2.le (XI 8)).le (XI 9);rw[←j8.m];refine aw (qe _ x4 M4 (by omega) (x:=0) ⟨by omega,by decide⟩) ?_;rw[show(aL (je aW 1 aW fG) 0).F=aW from rfl,QB];simp(maxDischargeDepth:=12) (maxSteps:=1000000) -implicitDefEqProofs only[go_sem,Nat.reduceAdd,Nat.reduceSub,Nat.reduceMul,Nat.reduceLeDiff,Nat.reduceEqDiff,Nat.reduceGT,Nat.reduceBEq,reduceCtorEq,↓reduceIte,Int.reduceToNat,Int.reduceLE,Int.reduceLT,Int.reduceNe,Int.reduceEq,n6,n7,n8,q6,q7,q8];refine⟨fun _=>?_,fun h=>absurd rfl h⟩;refine aw (La _ x4 0) ?_;rw[show(aL (je aW 1 aW fG) 0).has=1 from rfl];simp(maxDischargeDepth:=12) (maxSteps:=1000000) -implicitDefEqProofs only[go_sem,Nat.reduceAdd,Nat.reduceSub,Nat.reduceMul,Nat.reduceLeDiff,Nat.reduceEqDiff,Nat.reduceGT,Nat.reduceBEq,reduceCtorEq,↓reduceIte,Int.reduceToNat,Int.reduceLE,Int.reduceLT,Int.reduceNe,Int.reduceEq,tx];exact a4.out
def fp(k lv n s:Int):bl:=⟨k,lv,n,s,[],[],[],0,0,0,[]⟩
theorem wo(dg:List UInt8→Int)(c:Cf)(μ:bc){o:bl}(full:Bool)(h:o.kind=16):eK dg c μ o full=(gv 0,bd μ o full):=by
 have h1:uo μ.l.length o=true:=decide_eq_true ⟨by omega,.inl h⟩;unfold eK;rw[if_neg (by rw[h1];simp),if_neg (by omega),if_pos h]
theorem Af(dg:List UInt8→Int)(c:Cf)(μ:bc){o:bl}(full:Bool)(h:o.kind=0)(h0:0≤o.level)(h1:o.level<μ.l.length):eK dg c μ o full=(nY (eu μ.r o.level).2,⟨μ.l,(eu μ.r o.level).1,μ.sn⟩):=by
 have h1:uo μ.l.length o=true:=decide_eq_true ⟨by omega,.inr ⟨h0,h1⟩⟩;unfold eK;rw[if_neg (by rw[h1];simp),if_pos h]
theorem jQ(dg:List UInt8→Int)(c:Cf)(μ:bc){o:bl}(full:Bool)(hk:1≤o.kind∧o.kind≤15)(h0:0≤o.level)(h1:o.level<μ.l.length)(h:cX μ.r o.level o.aB<μ.r.length):eK dg c μ o full=DW μ (ed dg c μ o full):=by
 have h1:uo μ.l.length o=true:=decide_eq_true ⟨by omega,.inr ⟨h0,h1⟩⟩;unfold eK;rw[if_neg (by rw[h1];simp),if_neg (by omega),if_neg (by omega),if_neg (fun q=>q h)]
theorem MK(μ:bc)(o:bl)(full:Bool):(bd μ o full).l.length=μ.l.length:=by simp[bd]
theorem xv{μ:bc}{o:bl}{full:Bool}{x:Int}(h0:0≤x)(h1:x<μ.l.length):aL (bd μ o full) x={aL μ x with has:=0,F:=if x=o.level∧0<o.aB∧(aL μ x).has=o.aB∧full=false then(aL μ x).D else(aL μ x).F}:=by
 have e:((x.toNat:Nat):Int)=x:=Int.toNat_of_nonneg h0
 have h2:(bd μ o full).l[x.toNat]? =some {aL μ x with has:=0,F:=if x=o.level∧0<o.aB∧(aL μ x).has=o.aB∧full=false then(aL μ x).D else(aL μ x).F}:=by
  unfold bd;simp only[Xi];rw[X6 (by omega)];simp only[XG,e]
 exact bD h2 h0
noncomputable def pW(μ:bc)(n:Nat):List (List hY):=(List.range n).map fun k:Nat=>lx k (aL μ k).F
theorem Cb(μ:bc)(n:Nat):pW μ (n+1)=pW μ n++[lx n (aL μ n).F]:=by unfold pW;rw[Y5,XB];rfl
theorem Km{μ:bc}{n k:Nat}(h:k<n):(pW μ n)[k]? =some (lx k (aL μ k).F):=by unfold pW;rw[Xi,X6 h];rfl
theorem u6(μ:bc)(n:Nat):(pW μ n).length=n:=by simp[pW]
theorem eN{μ:bc}{x k:Int}{l':nT}{r:List RH}{sn:Int→Int→Int→Option (List gu)}(h0:0≤x)(h1:x<μ.l.length):aL ⟨μ.l.set x.toNat l',r,sn⟩ k=if k=x then l' else aL μ k:=by
 by_cases e:k=x
 ·subst e;rw[if_pos rfl];exact bD (by show(μ.l.set k.toNat l')[k.toNat]? =some l';rw[Yd (by omega)]) h0
 ·rw[if_neg e];unfold aL;by_cases hk:0≤k
  ·rw[if_pos hk,if_pos hk];show((μ.l.set x.toNat l')[k.toNat]?).getD _=_;rw[Ye (by omega)]
  ·rw[if_neg hk,if_neg hk]
theorem Ah{dg:List UInt8→Int}{c:Cf}{μ:bc}{o:bl}{full:Bool}(P:ig→Prop)(p1:o.kind=1→P (ib μ o))(p2:o.kind=2→P (e9 μ o))(p3:o.kind=3→P (eL μ o))(p4:o.kind=4→P (bU μ o))(p5:o.kind=5→P (gC μ o full))(p6:o.kind=6→P (iz μ o full))(p7:o.kind=7→P (mh μ o full))(p8:o.kind=8→P (cI μ o full))(p9:o.kind=9→P (getM c μ o))(p10:o.kind=10→P (fw c μ o))(p11:o.kind=11→P (kK μ o))(p12:o.kind=12→P (db μ o))(p13:o.kind=13→P (ia c μ o))(p14:o.kind=14→P (fX c μ o))(p15:¬(1≤o.kind∧o.kind≤14)→P (fA dg c μ o full)):P (ed dg c μ o full):=by
 by_cases h:1≤o.kind∧o.kind≤14
 ·rcases(by omega:o.kind=1∨o.kind=2∨o.kind=3∨o.kind=4∨o.kind=5∨o.kind=6∨o.kind=7∨o.kind=8∨o.kind=9∨o.kind=10∨o.kind=11∨o.kind=12∨o.kind=13∨o.kind=14)with k|k|k|k|k|k|k|k|k|k|k|k|k|k
  ·rw[show ed dg c μ o full=ib μ o by unfold ed;simp[k]];exact p1 k
  ·rw[show ed dg c μ o full=e9 μ o by unfold ed;simp[k]];exact p2 k
  ·rw[show ed dg c μ o full=eL μ o by unfold ed;simp[k]];exact p3 k
  ·rw[show ed dg c μ o full=bU μ o by unfold ed;simp[k]];exact p4 k
  ·rw[show ed dg c μ o full=gC μ o full by unfold ed;simp[k]];exact p5 k
  ·rw[show ed dg c μ o full=iz μ o full by unfold ed;simp[k]];exact p6 k
  ·rw[show ed dg c μ o full=mh μ o full by unfold ed;simp[k]];exact p7 k
  ·rw[show ed dg c μ o full=cI μ o full by unfold ed;simp[k]];exact p8 k
  ·rw[show ed dg c μ o full=getM c μ o by unfold ed;simp[k]];exact p9 k
  ·rw[show ed dg c μ o full=fw c μ o by unfold ed;simp[k]];exact p10 k
  ·rw[show ed dg c μ o full=kK μ o by unfold ed;simp[k]];exact p11 k
  ·rw[show ed dg c μ o full=db μ o by unfold ed;simp[k]];exact p12 k
  ·rw[show ed dg c μ o full=ia c μ o by unfold ed;simp[k]];exact p13 k
  ·rw[show ed dg c μ o full=fX c μ o by unfold ed;simp[k]];exact p14 k
 ·rw[show ed dg c μ o full=fA dg c μ o full by unfold ed;rw[if_neg (by omega)];rw[if_neg (by omega)];rw[if_neg (by omega)];rw[if_neg (by omega)];rw[if_neg (by omega)];rw[if_neg (by omega)];rw[if_neg (by omega)];rw[if_neg (by omega)];rw[if_neg (by omega)];rw[if_neg (by omega)];rw[if_neg (by omega)];rw[if_neg (by omega)];rw[if_neg (by omega)];rw[if_neg (by omega)]];exact p15 h
structure Rl(μ0 μ:bc)(x s:Int):Prop where
 len:μ.l.length=μ0.l.length
 F:∀k,(aL μ k).F=(aL μ0 k).F
 has:(aL μ x).has=s
 r:μ.r=μ0.r
theorem Rl.put{μ0 μ:bc}{x s:Int}(h:Rl μ0 μ x s)(h0:0≤x)(h1:x<μ0.l.length)(l':nT)(hF:l'.F=(aL μ x).F)(hs:l'.has=s):Rl μ0 ⟨μ.l.set x.toNat l',μ.r,μ.sn⟩ x s:=by
 have h2:x<μ.l.length:=by rw[h.len];exact h1
 refine⟨by simp[h.len],fun k=>?_,?_,h.r⟩
 ·rw[eN h0 h2];by_cases e:k=x
  ·rw[if_pos e,hF,e];exact h.F x
  ·rw[if_neg e];exact h.F k
 ·rw[eN h0 h2,if_pos rfl];exact hs
theorem PK{dg:List UInt8→Int}{c:Cf}{μ0 μ:bc}{x s:Int}{o:bl}(h:Rl μ0 μ x s)(h0:0≤x)(h1:x<μ0.l.length)(hk:5≤o.kind∧o.kind≤10)(hl:o.level=x)(hs:o.aB=s)(hi:cX μ0.r x s<μ0.r.length):Rl μ0 (eK dg c μ o false).2 x s:=by
 have hx:x<μ.l.length:=by rw[h.len];exact h1
 rw[jQ dg c μ false (by omega) (by rw[hl];exact h0) (by rw[hl];exact hx) (by rw[hl,hs,h.r];exact hi)]
 have key:∀r μ',ed dg c μ o false= .inr (r,μ')→Rl μ0 μ' x s:=by
  refine Ah (P:=fun out=>∀r μ',out= .inr (r,μ')→Rl μ0 μ' x s) ?_ ?_ ?_ ?_ ?_ ?_ ?_ ?_ ?_ ?_ ?_ ?_ ?_ ?_ ?_
  ·intro q;omega
  ·intro q;omega
  ·intro q;omega
  ·intro q;omega
  ·intro q r μ' he;unfold gC bS at he;simp only[hl]at he
   repeat' split at he
   all_goals cases he
   exact h.put h0 h1 _ rfl h.has
  ·intro q r μ' he;unfold iz bS at he;simp only[hl]at he
   repeat' split at he
   all_goals cases he
   exact h.put h0 h1 _ rfl h.has
  ·intro q r μ' he;unfold mh bS at he;simp only[hl]at he
   repeat' split at he
   all_goals cases he
   exact h.put h0 h1 _ rfl h.has
  ·intro q r μ' he;unfold cI bS at he;simp only[hl]at he
   repeat' split at he
   all_goals cases he
   exact h.put h0 h1 _ rfl h.has
  ·intro q r μ' he;unfold getM at he
   repeat' split at he
   all_goals first|(cases he;done)|skip
   simp only at he;split at he
   all_goals cases he
   exact h
  ·intro q r μ' he;unfold fw at he
   repeat' split at he
   all_goals cases he
   exact h
  ·intro q;omega
  ·intro q;omega
  ·intro q;omega
  ·intro q;omega
  ·intro q;omega
 cases ho:ed dg c μ o false with
 |inl e=>exact h
 |inr p=>exact key p.1 p.2 ho
theorem Dp{dg:List UInt8→Int}{c:Cf}{μ:bc}{x s:Int}(h0:0≤x)(h1:x<μ.l.length)(hh:(aL μ x).has=0)(hi:cX μ.r x s<μ.r.length):∃μ',eK dg c μ (fp 2 x s 0) false=(gv 0,μ')∧Rl μ μ' x s:=by
 have e:eK dg c μ (fp 2 x s 0) false=(gv 0,⟨μ.l.set x.toNat {aL μ x with has:=s,D:=(aL μ x).F},μ.r,μ.sn⟩):=by
  rw[jQ dg c μ false ⟨show(1:Int)≤2 by omega,show(2:Int)≤15 by omega⟩ h0 h1 hi];rw[show ed dg c μ (fp 2 x s 0) false=e9 μ (fp 2 x s 0)by simp[ed,fp]];unfold e9 bS;simp only[show(fp 2 x s 0).level=x from rfl,show(fp 2 x s 0).aB=s from rfl,hh];rfl
 refine⟨_,e,by simp,fun k=>?_,?_,rfl⟩
 ·rw[eN h0 h1];by_cases ek:k=x
  ·rw[if_pos ek,ek]
  ·rw[if_neg ek]
 ·rw[eN h0 h1,if_pos rfl]
structure Ro(μ0 μ:bc)(x:Int):Prop where
 len:μ.l.length=μ0.l.length
 F:∀k,(aL μ k).F=(aL μ0 k).F
 has:(aL μ x).has=0
theorem Ik{dg:List UInt8→Int}{c:Cf}{μ0 μ:bc}{x s:Int}(h:Rl μ0 μ x s)(h0:0≤x)(h1:x<μ0.l.length)(hi:cX μ0.r x s<μ0.r.length):∃μ',eK dg c μ (fp 4 x s 0) false=(gv 0,μ')∧Ro μ0 μ' x∧μ'.r=μ0.r:=by
 have hx:x<μ.l.length:=by rw[h.len];exact h1
 have e:eK dg c μ (fp 4 x s 0) false=(gv 0,⟨μ.l.set x.toNat {aL μ x with has:=0},μ.r,μ.sn⟩):=by
  rw[jQ dg c μ false ⟨show(1:Int)≤4 by omega,show(4:Int)≤15 by omega⟩ h0 hx (by rw[h.r];exact hi)];rw[show ed dg c μ (fp 4 x s 0) false=bU μ (fp 4 x s 0)by simp[ed,fp]];unfold bU bS;simp only[show(fp 4 x s 0).level=x from rfl,show(fp 4 x s 0).aB=s from rfl,h.has];rw[if_neg (fun q=>q rfl)];rfl
 refine⟨_,e,⟨by simp[h.len],fun k=>?_,?_⟩,h.r⟩
 ·rw[eN h0 hx];by_cases ek:k=x
  ·rw[if_pos ek,ek];exact h.F x
  ·rw[if_neg ek];exact h.F k
 ·rw[eN h0 hx,if_pos rfl]
theorem Hr{dg:List UInt8→Int}{c:Cf}{μ0 μ:bc}{x s:Int}(h:Rl μ0 μ x s)(h0:0≤x)(h1:x<μ0.l.length)(hi:cX μ0.r x s<μ0.r.length):∃μ',eK dg c μ (fp 1 x s 0) false=(gv 0,μ')∧Ro μ0 μ' x:=by
 have hx:x<μ.l.length:=by rw[h.len];exact h1
 have e:eK dg c μ (fp 1 x s 0) false=(gv 0,⟨μ.l.set x.toNat {aL μ x with has:=0},(mP μ.r x s).1,μ.sn⟩):=by
  rw[jQ dg c μ false ⟨show(1:Int)≤1 by omega,show(1:Int)≤15 by omega⟩ h0 hx (by rw[h.r];exact hi)];rw[show ed dg c μ (fp 1 x s 0) false=ib μ (fp 1 x s 0)by simp[ed,fp]];unfold ib;simp only[show(fp 1 x s 0).level=x from rfl,show(fp 1 x s 0).aB=s from rfl,h.has,if_true];rfl
 refine⟨_,e,⟨by simp[h.len],fun k=>?_,?_⟩⟩
 ·rw[eN h0 hx];by_cases ek:k=x
  ·rw[if_pos ek,ek];exact h.F x
  ·rw[if_neg ek];exact h.F k
 ·rw[eN h0 hx,if_pos rfl]
@[go_sem] def RK (r:v8):List DV:=[dI r.e,dI r.n,.sl 3 false (r.rows.map pQ),dI 0,dI 0,dI 0,dI 0,.sl 6 false (r.pd.map sg)]
theorem fx.qZ{N:Nat}{c:Cf}{μ:bc}{o:bl}{full:Bool}{q:v8×bc}(h:fx N c μ)(he:eK eQ c μ o full=q):fx (N+1) c q.2:=he▸ic h
structure U1(m0 N0:Nat)(c:Cf)(b:Nat)(x:Int)(s:Nat×St×MG×bc):Prop where
 le:s.1≤2
 m:s.2.2.1.m=m0
 I:MI s.2.1 s.2.2.1 (N0+s.1*122) c s.2.2.2
 M:fx (N0+s.1*122) c s.2.2.2
 B:ji s.2.1 s.2.2.1 b [.sl 1 false (az c.nm),dZ c.up,lA c.qu,jk c.gr]
 n:s.2.2.2.l.length=c.up.length
 h:(aL s.2.2.2 x).has=0
 o:s.1<2→cX s.2.2.2.r x 1<s.2.2.2.r.length
structure UB(m0 N0 ml:Nat)(c:Cf)(b bb lo:Nat)(μ4:bc)(x:Int)(s:Nat×St×MG×bc):Prop where
 le:s.1≤ml
 m:s.2.2.1.m=m0
 I:MI s.2.1 s.2.2.1 (N0+s.1) c s.2.2.2
 M:fx (N0+s.1) c s.2.2.2
 B:ji s.2.1 s.2.2.1 b [.sl 1 false (az c.nm),dZ c.up,lA c.qu,jk c.gr]
 R:ji s.2.1 s.2.2.1 bb (RK (gv 0))
 A:sO s.2.1 s.2.2.1 lo (.arr 1 ((pW μ4 c.up.length).map cR))
 L:Rl μ4 s.2.2.2 x 1
theorem NA{c:Cf}(h:HV c):0<c.up.length:=by
 have:=h.PX;exact(gR.1 this).1
theorem Oy{w0:W0}(hgT:gq w0)(hk:KU w0)(hgO:l8 w0)(hgC:jY w0)(c:Cf)(hc:yY c)(l more:List bl)(hl:l.length≤1048576)(hl2:more.length≤1048576)(S:St):aa Tryz.prog w0 6 [OP c,mE l,mE more] S (fun d S'=>d=dB true):=by
 have hgr:=hc.Pk;refine jj [] mx Tryz.func6 rfl rfl (by kernel_rfl) ?_;simp(maxDischargeDepth:=12) (maxSteps:=1000000) -implicitDefEqProofs only[Tryz.ntmps6,go_sem,Nat.reduceAdd,Nat.reduceSub,Nat.reduceMul,Nat.reduceLeDiff,Nat.reduceEqDiff,Nat.reduceGT,Nat.reduceBEq,reduceCtorEq,↓reduceIte,Int.reduceToNat,Int.reduceLE,Int.reduceLT,Int.reduceNe,Int.reduceEq];intro b;refine aj (E5 hgT hk hgO hgC _) ?_;rintro _ T ⟨rfl,hT⟩;have hbx:=hT.box b.n _ (iF _ _ _);simp(maxDischargeDepth:=12) (maxSteps:=1000000) -implicitDefEqProofs only[go_sem,Nat.reduceAdd,Nat.reduceSub,Nat.reduceMul,Nat.reduceLeDiff,Nat.reduceEqDiff,Nat.reduceGT,Nat.reduceBEq,reduceCtorEq,↓reduceIte,Int.reduceToNat,Int.reduceLE,Int.reduceLT,Int.reduceNe,Int.reduceEq,hbx];refine aw (yA w0 l (by omega) _) ?_;simp(maxDischargeDepth:=12) (maxSteps:=1000000) -implicitDefEqProofs only[go_sem,Nat.reduceAdd,Nat.reduceSub,Nat.reduceMul,Nat.reduceLeDiff,Nat.reduceEqDiff,Nat.reduceGT,Nat.reduceBEq,reduceCtorEq,↓reduceIte,Int.reduceToNat,Int.reduceLE,Int.reduceLT,Int.reduceNe,Int.reduceEq,hbx];refine aw (yA w0 more (by omega) _) ?_;simp(maxDischargeDepth:=12) (maxSteps:=1000000) -implicitDefEqProofs only[go_sem,Nat.reduceAdd,Nat.reduceSub,Nat.reduceMul,Nat.reduceLeDiff,Nat.reduceEqDiff,Nat.reduceGT,Nat.reduceBEq,reduceCtorEq,↓reduceIte,Int.reduceToNat,Int.reduceLE,Int.reduceLT,Int.reduceNe,Int.reduceEq,hbx];refine aw (Eo _ c hc _) ?_;simp(maxDischargeDepth:=12) (maxSteps:=1000000) -implicitDefEqProofs only[go_sem,Nat.reduceAdd,Nat.reduceSub,Nat.reduceMul,Nat.reduceLeDiff,Nat.reduceEqDiff,Nat.reduceGT,Nat.reduceBEq,reduceCtorEq,↓reduceIte,Int.reduceToNat,Int.reduceLE,Int.reduceLT,Int.reduceNe,Int.reduceEq,hbx];intro hsm hsm2 hcp hup;have hsm:=Xs.1 hsm;have hsm2:=Xs.1 hsm2;have hP:=Xs.1 hcp;have hl120:=hsm.2;have hm120:=hsm2.2;have hpos:=NA hP;refine aj (L6 hgT hk c hc _) ?_;rintro _ T0 (⟨h,_⟩|⟨_,g0,rfl,hI0,k1,k2,k3,k4⟩)
 ·exact absurd hP h
 have hM0:fx 0 c (wR c.up.length):=Nv hP (by omega);have hA0:uP T T0 g0:= .new k1 k2 k3 k4;have hB0:=hA0.box _ _ hbx;simp(maxDischargeDepth:=12) (maxSteps:=1000000) -implicitDefEqProofs only[go_sem,Nat.reduceAdd,Nat.reduceSub,Nat.reduceMul,Nat.reduceLeDiff,Nat.reduceEqDiff,Nat.reduceGT,Nat.reduceBEq,reduceCtorEq,↓reduceIte,Int.reduceToNat,Int.reduceLE,Int.reduceLT,Int.reduceNe,Int.reduceEq];refine cY [] [1,2,3,11,13] (σ:=Nat×St×MG×bc) (fun s=>[(1,mE l),(2,mE more),(3,.v (.pointer (some ⟨b.n,0,none⟩))),(11,bg g0.m),(13,dI s.1)]) (fun s=>s.2.1) (fun s=>s.1≤l.length∧s.2.2.1.m=g0.m∧MI s.2.1 s.2.2.1 s.1 c s.2.2.2∧fx s.1 c s.2.2.2∧ji s.2.1 s.2.2.1 b.n [.sl 1 false (az c.nm),dZ c.up,lA c.qu,jk c.gr]) (fun s=>l.length-s.1) (0,T0,g0,wR c.up.length) mx (by kernel_rfl) ⟨⟨XR _,rfl,hI0,hM0,hB0⟩,?_⟩ ?_
 ·simp(maxDischargeDepth:=12) (maxSteps:=1000000) -implicitDefEqProofs only[go_sem,Nat.reduceAdd,Nat.reduceSub,Nat.reduceMul,Nat.reduceLeDiff,Nat.reduceEqDiff,Nat.reduceGT,Nat.reduceBEq,reduceCtorEq,↓reduceIte,Int.reduceToNat,Int.reduceLE,Int.reduceLT,Int.reduceNe,Int.reduceEq]
 rintro⟨i,T1,g,μ⟩ ⟨hi,hm,hI,hM,hB⟩;simp only at hi hm hI hM hB;have e1:IntKind.i64.wrap ((i:Int)+1)=((i+1:Nat):Int):=aH (by omega);by_cases hil:i<l.length
 ·have hx:l[i]? =some l[i]:=Xb hil;generalize l[i]=o at hx;simp(maxDischargeDepth:=12) (maxSteps:=1000000) -implicitDefEqProofs only[go_sem,Nat.reduceAdd,Nat.reduceSub,Nat.reduceMul,Nat.reduceLeDiff,Nat.reduceEqDiff,Nat.reduceGT,Nat.reduceBEq,reduceCtorEq,↓reduceIte,Int.reduceToNat,Int.reduceLE,Int.reduceLT,Int.reduceNe,Int.reduceEq,hx,e1];refine⟨fun _=>⟨hil,?_⟩,fun h=>absurd hil h⟩;rw[←hm];refine aj (NI hgO hgC hI hM hgr (by omega)) ?_;rintro _ T2 ⟨rfl,g',j1,j2⟩;simp(maxDischargeDepth:=12) (maxSteps:=1000000) -implicitDefEqProofs only[go_sem,Nat.reduceAdd,Nat.reduceSub,Nat.reduceMul,Nat.reduceLeDiff,Nat.reduceEqDiff,Nat.reduceGT,Nat.reduceBEq,reduceCtorEq,↓reduceIte,Int.reduceToNat,Int.reduceLE,Int.reduceLT,Int.reduceNe,Int.reduceEq,e1];exact⟨⟨i+1,T2,g',_⟩,⟨hil,j2.m,j1,ic hM,hB.fr j2⟩,by show l.length-(i+1)<l.length-i;omega,rfl,.refl _⟩
 have hnl:=hM.nl;have hbx1:=hB.at_;simp(maxDischargeDepth:=12) (maxSteps:=1000000) -implicitDefEqProofs only[go_sem,Nat.reduceAdd,Nat.reduceSub,Nat.reduceMul,Nat.reduceLeDiff,Nat.reduceEqDiff,Nat.reduceGT,Nat.reduceBEq,reduceCtorEq,↓reduceIte,Int.reduceToNat,Int.reduceLE,Int.reduceLT,Int.reduceNe,Int.reduceEq,hbx1];refine⟨fun h=>absurd h hil,fun _=>?_⟩;refine⟨by omega,?_⟩;rw[←hm];refine aj (qZ (o:=fp 16 0 0 0) (full:=true) hgO hgC hI hM hgr (by omega) rfl (wo _ _ _ _ rfl)) ?_;rintro _ T2 ⟨rfl,g2,j1,j2⟩;simp(maxDischargeDepth:=12) (maxSteps:=1000000) -implicitDefEqProofs only[go_sem,Nat.reduceAdd,Nat.reduceSub,Nat.reduceMul,Nat.reduceLeDiff,Nat.reduceEqDiff,Nat.reduceGT,Nat.reduceBEq,reduceCtorEq,↓reduceIte,Int.reduceToNat,Int.reduceLE,Int.reduceLT,Int.reduceNe,Int.reduceEq];have hx0:(0:Int)≤Int.tmod (l.length:Int) (c.up.length:Int):=Int.tmod_nonneg _ (by omega);have hx1:Int.tmod (l.length:Int) (c.up.length:Int)<c.up.length:=Int.tmod_lt_of_pos _ (by omega);generalize Int.tmod (l.length:Int) (c.up.length:Int)=x at hx0 hx1 ⊢;have hM2:=hM.qZ (wo eQ c μ (o:=fp 16 0 0 0) true rfl);have hc0:(bd μ (fp 16 0 0 0) true).l.length=c.up.length:=by rw[MK];exact hnl
 have hh2:(aL (bd μ (fp 16 0 0 0) true) x).has=0:=by rw[xv hx0 (by omega)]
 have hr2:(bd μ (fp 16 0 0 0) true).r=[]:=rfl;simp only at j1 hM2;generalize bd μ (fp 16 0 0 0) true=μ2 at j1 hM2 hc0 hh2 hr2;have hdo:=Af eQ c μ2 (o:=fp 0 x 0 0) false rfl hx0 (by rw[hc0];exact hx1);have h1:(nY (eu μ2.r (fp 0 x 0 0).level).2).n=1:=by rw[hr2];rfl
 have hop:cX (eu μ2.r x).1 x 1<(eu μ2.r x).1.length:=by
  rw[lH,zP hM2.CX,hr2,if_pos ⟨rfl,rfl⟩];rfl
 have hM3:=hM2.qZ hdo;rw[show g.m=g2.m from j2.m.symm];refine aj (qZ (o:=fp 0 x 0 0) (full:=false) hgO hgC j1 hM2 hgr (by omega) rfl hdo) ?_;rintro _ T3 ⟨rfl,g3,q1,q2⟩;have hB3:=(hB.fr j2).fr q2;have hbx3:=hB3.at_;simp(maxDischargeDepth:=12) (maxSteps:=1000000) -implicitDefEqProofs only[go_sem,Nat.reduceAdd,Nat.reduceSub,Nat.reduceMul,Nat.reduceLeDiff,Nat.reduceEqDiff,Nat.reduceGT,Nat.reduceBEq,reduceCtorEq,↓reduceIte,Int.reduceToNat,Int.reduceLE,Int.reduceLT,Int.reduceNe,Int.reduceEq,h1];have q1:MI T3 g3 (l.length+2+0*122) c ⟨μ2.l,(eu μ2.r x).1,μ2.sn⟩:=q1.le (by omega);have hM3:fx (l.length+2+0*122) c ⟨μ2.l,(eu μ2.r x).1,μ2.sn⟩:=hM3.le (by omega);rw[show g2.m=g3.m from q2.m.symm];refine cY [] [2,3,11,14,15,16] (σ:=Nat×St×MG×bc) (fun s=>[(2,mE more),(3,.v (.pointer (some ⟨b.n,0,none⟩))),(11,bg g3.m),(14,dI x),(15,dI 1),(16,dI s.1)]) (fun s=>s.2.1) (U1 g3.m (l.length+2) c b.n x) (fun s=>2-s.1) (0,T3,g3,⟨μ2.l,(eu μ2.r x).1,μ2.sn⟩) mx (by kernel_rfl) ⟨⟨XR _,rfl,q1,hM3,hB3,hc0,hh2,fun _=>hop⟩,?_⟩ ?_
 ·simp(maxDischargeDepth:=12) (maxSteps:=1000000) -implicitDefEqProofs only[go_sem,Nat.reduceAdd,Nat.reduceSub,Nat.reduceMul,Nat.reduceLeDiff,Nat.reduceEqDiff,Nat.reduceGT,Nat.reduceBEq,reduceCtorEq,↓reduceIte,Int.reduceToNat,Int.reduceLE,Int.reduceLT,Int.reduceNe,Int.reduceEq]
 rintro⟨t,T4,g4,μ4⟩ ⟨ht,hm4,hI4,hM4,hB4,hn4,hh4,ho4⟩;simp only at ht hm4 hI4 hM4 hB4 hn4 hh4 ho4;have hbx4:=hB4.at_;have et:IntKind.i64.wrap ((t:Int)+1)=((t+1:Nat):Int):=aH (by omega);by_cases ht2:t<2
 case neg=>
  simp(maxDischargeDepth:=12) (maxSteps:=1000000) -implicitDefEqProofs only[go_sem,Nat.reduceAdd,Nat.reduceSub,Nat.reduceMul,Nat.reduceLeDiff,Nat.reduceEqDiff,Nat.reduceGT,Nat.reduceBEq,reduceCtorEq,↓reduceIte,Int.reduceToNat,Int.reduceLE,Int.reduceLT,Int.reduceNe,Int.reduceEq];exact fun h=>absurd h (by omega)
 have ho5:=ho4 ht2;simp(maxDischargeDepth:=12) (maxSteps:=1000000) -implicitDefEqProofs only[go_sem,Nat.reduceAdd,Nat.reduceSub,Nat.reduceMul,Nat.reduceLeDiff,Nat.reduceEqDiff,Nat.reduceGT,Nat.reduceBEq,reduceCtorEq,↓reduceIte,Int.reduceToNat,Int.reduceLE,Int.reduceLT,Int.reduceNe,Int.reduceEq];intro _;refine nJ 17 1 rfl (by omega) fun lo=>?_;refine aX [] c.up.length [2,3,11,14,15,16,17,18] (fun k=>[(2,mE more),(3,.v (.pointer (some ⟨b.n,0,none⟩))),(11,bg g3.m),(14,dI x),(15,dI 1),(16,dI t),(17,.acc lo.n k),(18,dI k)]) (fun k=>⟨T4.box,(lo.n,.arr 1 ((pW μ4 k).map cR))::T4.acc⟩) (fun _=>True) mx (by kernel_rfl) ?_ ?_
 ·simp(maxDischargeDepth:=12) (maxSteps:=1000000) -implicitDefEqProofs only[go_sem,Nat.reduceAdd,Nat.reduceSub,Nat.reduceMul,Nat.reduceLeDiff,Nat.reduceEqDiff,Nat.reduceGT,Nat.reduceBEq,reduceCtorEq,↓reduceIte,Int.reduceToNat,Int.reduceLE,Int.reduceLT,Int.reduceNe,Int.reduceEq]
  try exact .refl _
 intro k hk1 _;have e2:IntKind.i64.wrap ((k:Int)+1)=((k+1:Nat):Int):=aH (by omega);have hwl:=u6 μ4 k;have hU:=Qr lo (.arr 1 ((pW μ4 k).map cR));by_cases hkl:k<c.up.length
 ·simp(maxDischargeDepth:=12) (maxSteps:=1000000) -implicitDefEqProofs only[go_sem,Nat.reduceAdd,Nat.reduceSub,Nat.reduceMul,Nat.reduceLeDiff,Nat.reduceEqDiff,Nat.reduceGT,Nat.reduceBEq,reduceCtorEq,↓reduceIte,Int.reduceToNat,Int.reduceLE,Int.reduceLT,Int.reduceNe,Int.reduceEq,hbx4,e2];refine⟨fun _=>?_,fun h=>absurd hkl h⟩;rw[←hm4];refine aw (qe _ (hI4.has hU) hM4 (by omega) (x:=(k:Int)) (by omega)) ?_;simp(maxDischargeDepth:=12) (maxSteps:=1000000) -implicitDefEqProofs only[go_sem,Nat.reduceAdd,Nat.reduceSub,Nat.reduceMul,Nat.reduceLeDiff,Nat.reduceEqDiff,Nat.reduceGT,Nat.reduceBEq,reduceCtorEq,↓reduceIte,Int.reduceToNat,Int.reduceLE,Int.reduceLT,Int.reduceNe,Int.reduceEq,e2,hwl];rw[Cb,XB];exact⟨by omega,by unfold maxLen;omega,hkl,.refl _⟩
 obtain rfl:k=c.up.length:=by omega
 simp(maxDischargeDepth:=12) (maxSteps:=1000000) -implicitDefEqProofs only[go_sem,Nat.reduceAdd,Nat.reduceSub,Nat.reduceMul,Nat.reduceLeDiff,Nat.reduceEqDiff,Nat.reduceGT,Nat.reduceBEq,reduceCtorEq,↓reduceIte,Int.reduceToNat,Int.reduceLE,Int.reduceLT,Int.reduceNe,Int.reduceEq,hbx4];rw[←hm4];obtain⟨μ5,hd5,hR5⟩:=Dp (dg:=eQ) (c:=c) (s:=1) hx0 (by rw[hn4];exact hx1) hh4 ho5;refine⟨fun h=>absurd h hkl,fun _=>?_⟩;refine aj (qZ (o:=fp 2 x 1 0) (full:=false) hgO hgC (hI4.has hU) hM4 hgr (by omega) rfl hd5) ?_;rintro _ T5 ⟨rfl,g5,u1,u2⟩;simp(maxDischargeDepth:=12) (maxSteps:=1000000) -implicitDefEqProofs only[go_sem,Nat.reduceAdd,Nat.reduceSub,Nat.reduceMul,Nat.reduceLeDiff,Nat.reduceEqDiff,Nat.reduceGT,Nat.reduceBEq,reduceCtorEq,↓reduceIte,Int.reduceToNat,Int.reduceLE,Int.reduceLT,Int.reduceNe,Int.reduceEq];intro bb;have oA:=(hI4.Tc lo (.arr 1 ((pW μ4 c.up.length).map cR))).fr u2;have oB:=(hB4.has hU).fr u2;have hRd:=gm bb (RK (gv 0));have oR:=u1.sC bb (RK (gv 0));have oA:=oA.has hRd;have oB:=oB.has hRd;have u1:=u1.has hRd;have hM5:=hM4.qZ hd5;simp only at u1 hM5;rw[show g4.m=g5.m from u2.m.symm];have u1:MI _ g5 (l.length+2+t*122+1+0) c μ5:=u1;have hM5:fx (l.length+2+t*122+1+0) c μ5:=hM5;refine cY [] [2,3,11,14,15,16,17,19,20] (σ:=Nat×St×MG×bc) (fun s=>[(2,mE more),(3,.v (.pointer (some ⟨b.n,0,none⟩))),(11,bg g5.m),(14,dI x),(15,dI 1),(16,dI t),(17,.acc lo.n c.up.length),(19,.v (.pointer (some ⟨bb.n,0,none⟩))),(20,dI s.1)]) (fun s=>s.2.1) (UB g5.m (l.length+2+t*122+1) more.length c b.n bb.n lo.n μ4 x) (fun s=>more.length-s.1) (0,_,g5,μ5) mx (by kernel_rfl) ⟨⟨XR _,rfl,u1,hM5,oB,oR,oA,hR5⟩,?_⟩ ?_
 ·simp(maxDischargeDepth:=12) (maxSteps:=1000000) -implicitDefEqProofs only[go_sem,Nat.reduceAdd,Nat.reduceSub,Nat.reduceMul,Nat.reduceLeDiff,Nat.reduceEqDiff,Nat.reduceGT,Nat.reduceBEq,reduceCtorEq,↓reduceIte,Int.reduceToNat,Int.reduceLE,Int.reduceLT,Int.reduceNe,Int.reduceEq]
 rintro⟨j,T6,g6,μ6⟩ ⟨hj,hm6,hI6,hM6,hB6,hR6,hA6,hL6⟩;simp only at hj hm6 hI6 hM6 hB6 hR6 hA6 hL6;have ej:IntKind.i64.wrap ((j:Int)+1)=((j+1:Nat):Int):=aH (by omega);by_cases hjm:j<more.length
 ·have hx':more[j]? =some more[j]:=Xb hjm;generalize more[j]=o at hx';simp(maxDischargeDepth:=12) (maxSteps:=1000000) -implicitDefEqProofs only[go_sem,Nat.reduceAdd,Nat.reduceSub,Nat.reduceMul,Nat.reduceLeDiff,Nat.reduceEqDiff,Nat.reduceGT,Nat.reduceBEq,reduceCtorEq,↓reduceIte,Int.reduceToNat,Int.reduceLE,Int.reduceLT,Int.reduceNe,Int.reduceEq,hx',ej];refine⟨fun _=>⟨hjm,?_⟩,fun h=>absurd hjm h⟩;intro bo;have hbo:=gm bo [dI o.kind,dI x,dI 1,dI o.snap,dS (tx o.bucket),dS (tx o.key),dS (tx o.value),dI o.label,dI o.eX,dI o.n,.sl 1 false (az o.bY)];have hq:=NI (w0:=w0) (o:={o with level:=x,aB:=1}) (full:=false) hgO hgC (hI6.has hbo) hM6 hgr (by omega);rw[hm6]at hq;have hMq:=ic (o:={o with level:=x,aB:=1}) (full:=false) hM6;have hRq:5≤o.kind∧o.kind≤10→Rl μ4 (eK eQ c μ6 {o with level:=x,aB:=1} false).2 x 1:=fun q=>PK (o:={o with level:=x,aB:=1}) hL6 hx0 (by rw[hn4];exact hx1) q rfl rfl ho5;refine aw (Jz _ o.kind _) ?_;simp(maxDischargeDepth:=12) (maxSteps:=1000000) -implicitDefEqProofs only[go_sem,Nat.reduceAdd,Nat.reduceSub,Nat.reduceMul,Nat.reduceLeDiff,Nat.reduceEqDiff,Nat.reduceGT,Nat.reduceBEq,reduceCtorEq,↓reduceIte,Int.reduceToNat,Int.reduceLE,Int.reduceLT,Int.reduceNe,Int.reduceEq,ej]
  have fin:∀T7 g7,5≤o.kind∧o.kind≤10→MI T7 g7 (l.length+2+t*122+1+j+1) c (eK eQ c μ6 {o with level:=x,aB:=1} false).2→gz ⟨(bo.n,[dI o.kind,dI x,dI 1,dI o.snap,dS (tx o.bucket),dS (tx o.key),dS (tx o.value),dI o.label,dI o.eX,dI o.n,.sl 1 false (az o.bY)])::T6.box,T6.acc⟩ T7 g6 g7→∃s':Nat×St×MG×bc,UB g5.m (l.length+2+t*122+1) more.length c b.n bb.n lo.n μ4 x s'∧more.length-s'.1<more.length-j∧j+1=s'.1∧Aml.Sub s'.2.1 T7:=fun T7 g7 hkk w1 w2=>
   ⟨(j+1,T7,g7,_),⟨hjm,w2.m.trans hm6,w1,hMq,(hB6.has hbo).fr w2,(hR6.has hbo).fr w2,(hA6.has hbo).fr w2,hRq hkk⟩,by show more.length-(j+1)<more.length-j;omega,rfl,.refl _⟩
  have hwr:Sx o.kind=true→5≤o.kind∧o.kind≤10:=fun q=>by have:=of_decide_eq_true q;omega
  refine⟨fun q=>aj hq ?_,fun q=>⟨fun q9=>aj hq ?_,fun q9=>⟨fun q10=>aj hq ?_,fun q10=>?_⟩⟩⟩
  ·rintro _ T7 ⟨rfl,g7,w1,w2⟩;simp(maxDischargeDepth:=12) (maxSteps:=1000000) -implicitDefEqProofs only[go_sem,Nat.reduceAdd,Nat.reduceSub,Nat.reduceMul,Nat.reduceLeDiff,Nat.reduceEqDiff,Nat.reduceGT,Nat.reduceBEq,reduceCtorEq,↓reduceIte,Int.reduceToNat,Int.reduceLE,Int.reduceLT,Int.reduceNe,Int.reduceEq,ej];exact fin T7 g7 (hwr q) w1 w2
  ·rintro _ T7 ⟨rfl,g7,w1,w2⟩;simp(maxDischargeDepth:=12) (maxSteps:=1000000) -implicitDefEqProofs only[go_sem,Nat.reduceAdd,Nat.reduceSub,Nat.reduceMul,Nat.reduceLeDiff,Nat.reduceEqDiff,Nat.reduceGT,Nat.reduceBEq,reduceCtorEq,↓reduceIte,Int.reduceToNat,Int.reduceLE,Int.reduceLT,Int.reduceNe,Int.reduceEq,ej];exact fin T7 g7 (by omega) w1 w2
  ·rintro _ T7 ⟨rfl,g7,w1,w2⟩;simp(maxDischargeDepth:=12) (maxSteps:=1000000) -implicitDefEqProofs only[go_sem,Nat.reduceAdd,Nat.reduceSub,Nat.reduceMul,Nat.reduceLeDiff,Nat.reduceEqDiff,Nat.reduceGT,Nat.reduceBEq,reduceCtorEq,↓reduceIte,Int.reduceToNat,Int.reduceLE,Int.reduceLT,Int.reduceNe,Int.reduceEq,ej];exact fin T7 g7 (by omega) w1 w2
  ·refine⟨(j+1,T6,g6,μ6),⟨hjm,hm6,hI6.le (by omega),hM6.le (by omega),hB6,hR6,hA6,hL6⟩,by show more.length-(j+1)<more.length-j;omega,rfl,?_⟩;simp(maxDischargeDepth:=12) (maxSteps:=1000000) -implicitDefEqProofs only[go_sem,Nat.reduceAdd,Nat.reduceSub,Nat.reduceMul,Nat.reduceLeDiff,Nat.reduceEqDiff,Nat.reduceGT,Nat.reduceBEq,reduceCtorEq,↓reduceIte,Int.reduceToNat,Int.reduceLE,Int.reduceLT,Int.reduceNe,Int.reduceEq]
 simp(maxDischargeDepth:=12) (maxSteps:=1000000) -implicitDefEqProofs only[go_sem,Nat.reduceAdd,Nat.reduceSub,Nat.reduceMul,Nat.reduceLeDiff,Nat.reduceEqDiff,Nat.reduceGT,Nat.reduceBEq,reduceCtorEq,↓reduceIte,Int.reduceToNat,Int.reduceLE,Int.reduceLT,Int.reduceNe,Int.reduceEq];refine⟨fun h=>absurd h hjm,fun _=>?_⟩;rw[←hm6];have hx4:x<μ4.l.length:=by rw[hn4];exact hx1
 obtain⟨kk,hkk,μ7,hd7,hO7,ho7⟩:∃kk:Int,IntKind.i64.wrap (4+IntKind.i64.wrap ((t:Int)* -3))=kk∧∃μ7,eK eQ c μ6 (fp kk x 1 0) false=(gv 0,μ7)∧Ro μ4 μ7 x∧(t+1<2→cX μ7.r x 1<μ7.r.length):=by
  rcases(by omega:t=0∨t=1)with et|et
  ·obtain⟨μ7,d1,d2,d3⟩:=Ik (dg:=eQ) (c:=c) hL6 hx0 hx4 ho5;exact⟨4,by rw[et];decide,μ7,d1,d2,fun _=>by rw[d3];exact ho5⟩
  ·obtain⟨μ7,d1,d2⟩:=Hr (dg:=eQ) (c:=c) hL6 hx0 hx4 ho5;exact⟨1,by rw[et];decide,μ7,d1,d2,fun h=>absurd h (by omega)⟩
 rw[hkk];refine aj (qZ (o:=fp kk x 1 0) (full:=false) hgO hgC hI6 hM6 hgr (by omega) rfl hd7) ?_;rintro _ T7 ⟨rfl,g7,w1,w2⟩;have hR7:=(hR6.fr w2);have hbx7:=hR7.at_;simp(maxDischargeDepth:=12) (maxSteps:=1000000) -implicitDefEqProofs only[go_sem,Nat.reduceAdd,Nat.reduceSub,Nat.reduceMul,Nat.reduceLeDiff,Nat.reduceEqDiff,Nat.reduceGT,Nat.reduceBEq,reduceCtorEq,↓reduceIte,Int.reduceToNat,Int.reduceLE,Int.reduceLT,Int.reduceNe,Int.reduceEq];intro be;have f7:=av be bb.n (by rw[hbx7];rfl);have hb7:=gm be (RK (gv 0));simp only at w1;simp(maxDischargeDepth:=12) (maxSteps:=1000000) -implicitDefEqProofs only[go_sem,Nat.reduceAdd,Nat.reduceSub,Nat.reduceMul,Nat.reduceLeDiff,Nat.reduceEqDiff,Nat.reduceGT,Nat.reduceBEq,reduceCtorEq,↓reduceIte,Int.reduceToNat,Int.reduceLE,Int.reduceLT,Int.reduceNe,Int.reduceEq,f7,hbx7];refine⟨fun h=>absurd rfl h,fun _=>⟨fun h=>absurd rfl h,fun _=>?_⟩⟩;rw[show g6.m=g7.m from w2.m.symm];refine aw (La _ (w1.has hb7) x) ?_;rw[hO7.has];simp(maxDischargeDepth:=12) (maxSteps:=1000000) -implicitDefEqProofs only[go_sem,Nat.reduceAdd,Nat.reduceSub,Nat.reduceMul,Nat.reduceLeDiff,Nat.reduceEqDiff,Nat.reduceGT,Nat.reduceBEq,reduceCtorEq,↓reduceIte,Int.reduceToNat,Int.reduceLE,Int.reduceLT,Int.reduceNe,Int.reduceEq];have hB7:=(hB6.fr w2);have hA7:=(hA6.fr w2);have hM7:=hM6.qZ hd7;simp only at hM7;refine aX [] c.up.length [2,3,11,14,15,16,17,23] (fun k=>[(2,mE more),(3,.v (.pointer (some ⟨b.n,0,none⟩))),(11,bg g7.m),(14,dI x),(15,dI 1),(16,dI t),(17,.acc lo.n c.up.length),(23,dI k)]) (fun k=>T7) (fun _=>True) mx (by kernel_rfl) ?_ ?_
 ·simp(maxDischargeDepth:=12) (maxSteps:=1000000) -implicitDefEqProofs only[go_sem,Nat.reduceAdd,Nat.reduceSub,Nat.reduceMul,Nat.reduceLeDiff,Nat.reduceEqDiff,Nat.reduceGT,Nat.reduceBEq,reduceCtorEq,↓reduceIte,Int.reduceToNat,Int.reduceLE,Int.reduceLT,Int.reduceNe,Int.reduceEq]
 intro k hk7 _;have hbx8:=hB7.at_;have hac:=hA7.at_;have e8:IntKind.i64.wrap ((k:Int)+1)=((k+1:Nat):Int):=aH (by omega);by_cases hkl8:k<c.up.length
 ·have hwa:=Km (μ:=μ4) hkl8;have hel:=w1.VE (by omega) (k:Int) (by rw[hO7.len,hn4];omega);rw[hO7.F]at hel;simp(maxDischargeDepth:=12) (maxSteps:=1000000) -implicitDefEqProofs only[go_sem,Nat.reduceAdd,Nat.reduceSub,Nat.reduceMul,Nat.reduceLeDiff,Nat.reduceEqDiff,Nat.reduceGT,Nat.reduceBEq,reduceCtorEq,↓reduceIte,Int.reduceToNat,Int.reduceLE,Int.reduceLT,Int.reduceNe,Int.reduceEq,hbx8,e8];refine⟨fun _=>?_,fun h=>absurd hkl8 h⟩;refine df (qe _ w1 hM7 (by omega) (x:=(k:Int)) (by rw[hO7.len,hn4];omega)) ?_;rw[hO7.F];have hwl8:=u6 μ4 c.up.length;simp(maxDischargeDepth:=12) (maxSteps:=1000000) -implicitDefEqProofs only[go_sem,Nat.reduceAdd,Nat.reduceSub,Nat.reduceMul,Nat.reduceLeDiff,Nat.reduceEqDiff,Nat.reduceGT,Nat.reduceBEq,reduceCtorEq,↓reduceIte,Int.reduceToNat,Int.reduceLE,Int.reduceLT,Int.reduceNe,Int.reduceEq,hac,hwl8,hwa];refine⟨hkl8,hkl8,df (EI w0 (lx (k:Int) (aL μ4 (k:Int)).F) (lx (k:Int) (aL μ4 (k:Int)).F) (by omega) _) ?_⟩;rw[da rfl];simp(maxDischargeDepth:=12) (maxSteps:=1000000) -implicitDefEqProofs only[go_sem,Nat.reduceAdd,Nat.reduceSub,Nat.reduceMul,Nat.reduceLeDiff,Nat.reduceEqDiff,Nat.reduceGT,Nat.reduceBEq,reduceCtorEq,↓reduceIte,Int.reduceToNat,Int.reduceLE,Int.reduceLT,Int.reduceNe,Int.reduceEq,e8];exact hkl8
 simp(maxDischargeDepth:=12) (maxSteps:=1000000) -implicitDefEqProofs only[go_sem,Nat.reduceAdd,Nat.reduceSub,Nat.reduceMul,Nat.reduceLeDiff,Nat.reduceEqDiff,Nat.reduceGT,Nat.reduceBEq,reduceCtorEq,↓reduceIte,Int.reduceToNat,Int.reduceLE,Int.reduceLT,Int.reduceNe,Int.reduceEq,hbx8];refine⟨fun h=>absurd h hkl8,fun _=>?_⟩;exact⟨(t+1,T7,g7,μ7),⟨ht2,rfl,w1.le (by show _≤l.length+2+(t+1)*122;omega),hM7.le (by show _≤l.length+2+(t+1)*122;omega),hB7,by rw[hO7.len];exact hn4,hO7.has,ho7⟩,by show 2-(t+1)<2-t;omega,et,.refl _⟩
end Go.Proofs.YtoepfmhnapedoaaGreatDoor
namespace Go.Proofs.YtoepfmhnapedoaaGreatDoor
open Aml Go Go.RowKit Go.ChangeShapes
def gW(W:World):Gh:=⟨fun b i=>W.cell? ⟨b,i,none⟩,fun _ _=>none,fun _=>none,[]⟩
theorem x0{w0:W0}{W:World}(hw:w0.w={W with drawn:=0})(h:w0.gh.sub (gW W)):Rel w0 (gW W) ⟨[],[]⟩ W:=by
 have hh:w0.heap=W.heap:=by unfold W0.heap;rw[hw]
 exact⟨⟨by rw[hh,hw];exact⟨rfl,rfl,rfl,Xg _,fun _ _=>rfl,XR _⟩,fun _ _ h=>(by cases h),h⟩,fun _ _ _ h=>h,by simp,by simp,fun _ _ _ h=>(by cases h),⟨0,fun _ _ _=>rfl⟩,fun _ _ h=>(by cases h),fun _=>none,fun _ _ h=>(by cases h),fun _ _ h=>(by cases h)⟩
def Rd(P:Program)(W:World)(t:TypeId){α:Type}(en:α→List DV)(sz:α→Nat)(ok:α→Prop):Prop:=
 ∀(H:Type) (enc:TypeId×Value→H) (n:Nat) (cs:List Value) (x:DataW H×List MemPlace),DataW.trod enc P W 0 (fun _=>true) true n t cs=some x→
  ∃a,ok a∧sz a≤Rows.uptoBulk x.1∧ae (gW W) (en a) cs∧∀u,u∈cs→u.oneCell'=true
section
variable {P:Program} {W:World}
theorem Rd.conv{t:TypeId}{α β:Type}{en:α→List DV}{sz:α→Nat}{ok:α→Prop}{en':β→List DV}{sz':β→Nat}{ok':β→Prop}(h:Rd P W t en sz ok)(f:α→β)(he:∀a,en a=en' (f a))(hs:∀a,sz' (f a)≤sz a)(ho:∀a,ok a→ok' (f a)):Rd P W t en' sz' ok':=
 fun H enc n cs x hx=>let⟨a,h1,h2,h3,h4⟩:=h H enc n cs x hx;⟨f a,ho a h1,Yl (hs a) h2,by rw[←he];exact h3,h4⟩
theorem FF{t:TypeId}(k:IntKind)(ht:P.underlying t=some (.int k)):Rd P W t (fun n:Int=>[.v (.int k n)]) (fun _=>1) (fun n=>(Lit.int k n).wf=true):=by
 intro H enc n cs x hx;obtain⟨m,rfl,rfl,hw⟩:=DataW.trod_int ht hx;exact⟨m,hw,by simp[Rows.uptoBulk],ae.cons (.v _ rfl) (ae.nil _),by simp[Value.oneCell']⟩
theorem yR{t:TypeId}(ht:P.underlying t=some (.int .i64)):Rd P W t (fun n:Int=>[dI n]) (fun _=>1) (fun n=> -9223372036854775808≤n∧n≤9223372036854775807):=
 (FF .i64 ht).conv id (fun _=>rfl) (fun _=>Xg _) fun _ h=>bounds_i64 h
theorem Ox{t:TypeId}(ht:P.underlying t=some (.int .u64)):Rd P W t (fun n:Int=>[dU n]) (fun _=>1) (fun n=>0≤n∧n≤18446744073709551615):=
 (FF .u64 ht).conv id (fun _=>rfl) (fun _=>Xg _) fun _ h=>bounds_u64 h
theorem Gg{t:TypeId}(ht:P.underlying t=some .string):Rd P W t (fun s:ByteArray=>[dS s]) (fun s=>s.size+1) (fun _=>True):=by
 intro H enc n cs x hx;obtain⟨s,rfl,rfl,hs⟩:=DataW.trod_string ht hx;exact⟨s,trivial,(show s.size+1≤s.data.toList.length+1 by rw[X1];exact Xg _),ae.cons (.v _ rfl) (ae.nil _),by simp[Value.oneCell']⟩
theorem rU{α:Type}{Q:Nat→α→Prop}:∀(n:Nat),(∀i,i<n→∃a,Q i a)→∃l:List α,l.length=n∧∀(i:Nat) (a:α),l[i]? =some a→Q i a
 |0,_=>⟨[],rfl,by simp⟩
 |n+1,h=>by
  obtain⟨l,h1,h2⟩:=rU n fun i hi=>h i (by omega);obtain⟨a,ha⟩:=h n (by omega);refine⟨l++[a],by simp[h1],fun i b hb=>?_⟩;by_cases hi:i<n
  ·rw[XD (by omega)]at hb;exact h2 i b hb
  ·have hlt:i<(l++[a]).length:=(Xc.1 hb).1;have:i=n:=by simp at hlt;omega
   subst this;rw[XA (by omega),h1]at hb;simp at hb;subst hb;exact ha
theorem vC{H α:Type}{sz:α→Nat}:∀{l:List α} {es:List (DataW H)},l.length=es.length→(∀(i:Nat) (a:α) (e:DataW H),l[i]? =some a→es[i]? =some e→sz a≤Rows.uptoBulk e)→(l.map sz).sum≤Rows.uptoBulkAll es
 |[],[],_,_=>by simp[Rows.uptoBulkAll]
 |[],_::_,h,_=>by simp at h
 |_::_,[],h,_=>by simp at h
 |a::l,e::es,h,hs=>by
  have h1:=hs 0 a e rfl rfl;have h2:=vC (l:=l) (es:=es) (by simpa using h) fun i a e x y=>hs (i+1) a e (by simpa using x) (by simpa using y);simp only[XE,YF,Rows.uptoBulkAll];omega
theorem kQ{a:Addr}{k:Nat}{cs:List Value}(h:W.cells? 0 a k=some cs):cs.length=k∧∀j,j<k→W.cell? (a.add j)=cs[j]? :=by
 unfold World.cells? at h;rw[if_pos (XR _)]at h;exact⟨by simpa using mapM_some_length h,fun j hj=>mapM_some_get h j j (by simp[hj])⟩
theorem r6{t e:TypeId}{α:Type}{en:α→List DV}{sz:α→Nat}{ok:α→Prop}(h:Rd P W e en sz ok)(ht:P.underlying t=some (.slice e)){k:Nat}(hk:P.cellsOf e=k)(hk0:0<k)(enE:α→DV)(mk:List Value→Value)
 (hmk:∀a cs,ae (gW W) (en a) cs→(∀u,u∈cs→u.oneCell'=true)→cs.length=k→aA (gW W) (enE a) (mk cs)∧(mk cs).cells.toList=cs):
 Rd P W t (fun l:List α=>[.sl k false (l.map enE)]) (fun l=>(l.map sz).sum+1) (fun l=>∀a,a∈l→ok a):=by
 intro H enc n cs x hx;rcases DataW.trod_slice ht hx with⟨rfl,rfl⟩|⟨a,len,cap,elems,rest,n',rfl,rfl,rfl, -,hlc,hcm,hel,hget, -, -⟩
 ·exact⟨[],by simp,by simp[Rows.uptoBulk],ae.cons (.nil _ _ _ _ (by simp)) (ae.nil _),by simp[Value.oneCell']⟩
 ·have hq:∀i,i<len→∃p:α×List Value,ok p.1∧(∀y,elems[i]? =some y→sz p.1≤Rows.uptoBulk y.1)∧W.cells? 0 (a.add (i*k)) k=some p.2∧ae (gW W) (en p.1) p.2∧∀u,u∈p.2→u.oneCell'=true:=by
   intro i hi;have h1:=hget i hi;rw[hk]at h1;have h2:elems[i]? =some elems[i]:=Xb (by omega);rw[h2,Yk]at h1;obtain⟨ci,hc,htr⟩:=h1;obtain⟨b,b1,b2,b3,b4⟩:=h H enc n' ci _ htr;exact⟨(b,ci),b1,fun y hy=>by rw[h2]at hy;cases hy;exact b2,hc,b3,b4⟩
  obtain⟨ps,hpl,hps⟩:=rU len hq;refine⟨ps.map (·.1),fun b hb=>?_,?_,?_,by simp[Value.oneCell']⟩
  ·obtain⟨p,hp,rfl⟩:=Xq.1 hb;obtain⟨i,hi⟩:=List.getElem?_of_mem hp;exact(hps i p hi).1
  ·have:=vC (sz:=sz) (l:=ps.map (·.1)) (es:=elems.map (·.1)) (by simp[hpl,hel]) fun i b e x y=>by
    rw[Xi,Xh]at x y;obtain⟨p,hp,rfl⟩:=x;obtain⟨y,hy,rfl⟩:=y;exact(hps i p hp).2.1 y hy
   simp only[Rows.uptoBulk];omega
  ·refine ae.cons ?_ (ae.nil _);by_cases h0:len=0
   ·subst h0;have:ps=[]:=Xt hpl;subst this;exact .nil _ _ _ _ (by simp)
   ·have hspot:a.spot=none:=by
     obtain⟨p,hp⟩:∃p,ps[0]? =some p:=⟨_,Xb (by omega)⟩;obtain⟨hl,hc⟩:=kQ (hps 0 p hp).2.2.1;have:=hc 0 (by omega);rw[Xb (by omega)]at this;simp only[Nat.zero_mul,Addr.add,if_true]at this;unfold World.cell? at this;split at this
     ·split at this
      ·cases this
      ·rename_i hs;simpa using hs
     ·cases this
    obtain⟨b,o,sp⟩:=a;simp only at hspot;subst hspot;have hus:(ps.map fun p=>mk p.2).length=len:=by simp[hpl]
    have hmk':∀(i:Nat) (p:α×List Value),ps[i]? =some p→aA (gW W) (enE p.1) (mk p.2)∧(mk p.2).cells.toList=p.2∧p.2.length=k:=fun i p hp=>by
     have hc:=(kQ (hps i p hp).2.2.1).1;have:=hmk p.1 p.2 (hps i p hp).2.2.2.1 (hps i p hp).2.2.2.2 hc;exact⟨this.1,this.2,hc⟩
    have:=aA.sl (g:=gW W) k false ((ps.map (·.1)).map enE) b o cap (ps.map fun p=>mk p.2) (by simp) (by simp) (by rw[hus];exact hlc) hcm
     (fun i d u hd hu=>by
      simp only[List.map_map,Xi,Xh]at hd hu;obtain⟨p,hp,rfl⟩:=hd;obtain⟨q,hq,rfl⟩:=hu;rw[hp]at hq;cases hq;exact(hmk' i p hp).1)
     (fun i u hu=>by
      rw[Xi,Xh]at hu;obtain⟨p,hp,rfl⟩:=hu;have:=hmk' i p hp;rw[←X1,this.2.1,this.2.2])
     (fun u hu x hx=>by
      obtain⟨p,hp,rfl⟩:=Xq.1 hu;obtain⟨i,hi⟩:=List.getElem?_of_mem hp;rw[(hmk' i p hi).2.1]at hx;exact(hps i p hi).2.2.2.2 x hx)
     (fun i u j x hu hx=>by
      rw[Xi,Xh]at hu;obtain⟨p,hp,rfl⟩:=hu;have hm:=hmk' i p hp;have hc:=(kQ (hps i p hp).2.2.1).2;rw[←X4,hm.2.1]at hx;have hj:j<k:=by rw[←hm.2.2];exact(Xc.1 hx).1
      have:=hc j hj;rw[hx]at this;show W.cell? ⟨b,o+i*k+j,none⟩=some x
      have e:(Addr.add ⟨b,o,none⟩ (i*k)).add j=⟨b,o+i*k+j,none⟩:=by
       unfold Addr.add;split <;>split <;>simp_all
      rw[←e];exact this)
    rw[hus]at this;exact this
theorem mW{t e:TypeId}{α:Type}{en:α→DV}{sz:α→Nat}{ok:α→Prop}(h:Rd P W e (fun a=>[en a]) sz ok)(ht:P.underlying t=some (.slice e))(hk:P.cellsOf e=1):
 Rd P W t (fun l:List α=>[.sl 1 false (l.map en)]) (fun l=>(l.map sz).sum+1) (fun l=>∀a,a∈l→ok a):=
 r6 h ht hk (by omega) en (fun cs=>cs.headD undef) fun a cs hr h1 hl=>by
  obtain⟨u,us,rfl,r1,r2⟩:=hr.cH;have:us=[]:=Xt (by simpa using hl);subst this;have hu:=h1 u Xm;refine⟨r1,?_⟩;cases u <;>simp_all [Value.cells,Value.oneCell']
theorem rL{t e:TypeId}{α:Type}{en:α→List DV}{sz:α→Nat}{ok:α→Prop}(h:Rd P W e en sz ok)(ht:P.underlying t=some (.slice e)){k:Nat}(hk:P.cellsOf e=k)(hk0:0<k):
 Rd P W t (fun l:List α=>[.sl k false (l.map fun a=> .agg (en a))]) (fun l=>(l.map sz).sum+1) (fun l=>∀a,a∈l→ok a):=
 r6 h ht hk hk0 (fun a=> .agg (en a)) (fun cs=> .agg cs.toArray) fun a cs hr h1 hl=>⟨.agg _ _ hr.len hr.at_ h1,rfl⟩
def RY(P:Program)(W:World)(total off:Nat)(fs:List Field){α:Type}(en:α→List DV)(sz:α→Nat)(ok:α→Prop):Prop:=
 ∀(H:Type) (enc:TypeId×Value→H) (n:Nat) (cs:List Value) (xs:List (DataW H×List MemPlace)),cs.length=total→xs.length=fs.length→
  (∀(i:Nat) (f:Field),fs[i]? =some f→DataW.trod enc P W 0 (fun _=>true) true n f.type ((cs.drop f.offset).take (P.cellsOf f.type))=xs[i]?)→
  ∃a,ok a∧sz a≤Rows.uptoBulkAll (xs.map (·.1))∧ae (gW W) (en a) (cs.drop off)∧∀u,u∈cs.drop off→u.oneCell'=true
theorem sF{total:Nat}:RY P W total total [] (fun _:Unit=>[]) (fun _=>0) (fun _=>True):=by
 intro H enc n cs xs hc hx hg;refine⟨(),trivial,XR _,?_,?_⟩
 ·rw[List.drop_eq_nil_of_le (by omega)];exact ae.nil _
 ·rw[List.drop_eq_nil_of_le (by omega)];simp
theorem bh{total off k:Nat}{f:Field}{fs:List Field}{α β:Type}{en:α→List DV}{sz:α→Nat}{ok:α→Prop}{en':β→List DV}{sz':β→Nat}{ok':β→Prop}(h:Rd P W f.type en sz ok)(hf:f.offset=off)(hk:P.cellsOf f.type=k)(h':RY P W total (off+k) fs en' sz' ok'):
 RY P W total off (f::fs) (fun p:α×β=>en p.1++en' p.2) (fun p=>sz p.1+sz' p.2) (fun p=>ok p.1∧ok' p.2):=by
 intro H enc n cs xs hc hx hg
 cases xs with
 |nil=>simp at hx
 |cons x xs=>
  have h0:=hg 0 f rfl;rw[hf,hk]at h0;obtain⟨a,a1,a2,a3,a4⟩:=h H enc n _ x h0;obtain⟨b,b1,b2,b3,b4⟩:=h' H enc n cs xs hc (by simpa using hx) fun i f hf=>by have:=hg (i+1) f (by simpa using hf);simpa using this
  have e:cs.drop off=(cs.drop off).take k++cs.drop (off+k):=by rw[←Yp,Y2]
  refine⟨(a,b),⟨a1,b1⟩,?_,?_,?_⟩
  ·simp only[XE,Rows.uptoBulkAll];omega
  ·rw[e];exact a3.append b3
  ·intro u hu;rw[e,Xn]at hu;exact hu.elim (a4 u) (b4 u)
theorem mJ{t:TypeId}{fs:Array Field}{α:Type}{en:α→List DV}{sz:α→Nat}{ok:α→Prop}(ht:P.underlying t=some (.struct fs)){total:Nat}(hc:P.cellsOf t=total){fl:List Field}(hfl:fs.toList=fl)(h:RY P W total 0 fl en sz ok):
 Rd P W t en (fun a=>sz a+1) ok:=by
 intro H enc n cs x hx;subst hfl;obtain⟨xs,n',rfl,rfl,h1,h2,h3⟩:=DataW.trod_struct ht hx;obtain⟨a,a1,a2,a3,a4⟩:=h H enc n' cs xs (by rw[h1,hc]) (by simpa using h2) fun i f hf=>h3 i f (by simpa using hf);exact⟨a,a1,by simp only[Rows.uptoBulk];omega,by simpa using a3,by simpa using a4⟩
def OO(P:Program)(W:World)(ts:List TypeId){α:Type}(en:α→List DV)(sz:α→Nat)(ok:α→Prop):Prop:=
 ∀(H:Type) (enc:TypeId×Value→H) (base:Nat) (vs:List Value) (ds:List (DataW H)) (p:List MemPlace),(∀(j:Nat) t v,ts[j]? =some t→vs[j]? =some v→Value.okWide P W .any base t v)→DataW.TrodAll enc P W 0 (fun _=>true) true ts vs ds p→
  ∃a,ok a∧sz a≤Rows.uptoBulkAll ds∧ae (gW W) (en a) vs
theorem zR:OO P W [] (fun _:Unit=>[]) (fun _=>0) (fun _=>True):=by
 intro H enc base vs ds p hv h;obtain⟨rfl,rfl,rfl⟩:=trodAll_nil h;exact⟨(),trivial,XR _,ae.nil _⟩
def Oj(P:Program)(t:TypeId):Bool:=match P.underlying t with
 |some .bool|some .string|some (.int _)|some (.slice _)=>true
 |_=>false
theorem xh{t:TypeId}(ht:Oj P t=true){base:Nat}{v:Value}(h:Value.okWide P W .any base t v):v.cells= #[v]∧v.oneCell'=true:=by
 unfold Oj at ht;unfold Value.okWide Cell.okWide Cell.ok at h;split at ht
 ·rename_i hu;rw[hu]at h;cases v <;>simp_all [Value.cells,Value.oneCell']
 ·rename_i hu;rw[hu]at h;cases v <;>simp_all [Value.cells,Value.oneCell']
 ·rename_i hu;rw[hu]at h;cases v <;>simp_all [Value.cells,Value.oneCell']
 ·rename_i hu;rw[hu]at h;cases v <;>simp_all [Value.cells,Value.oneCell']
 ·cases ht
theorem s7{t:TypeId}{ts:List TypeId}{α β:Type}{en:α→DV}{sz:α→Nat}{ok:α→Prop}{en':β→List DV}{sz':β→Nat}{ok':β→Prop}(h:Rd P W t (fun a=>[en a]) sz ok)(ht:Oj P t=true)(h':OO P W ts en' sz' ok'):
 OO P W (t::ts) (fun p:α×β=>en p.1::en' p.2) (fun p=>sz p.1+sz' p.2) (fun p=>ok p.1∧ok' p.2):=by
 intro H enc base vs ds p hv hA;obtain⟨v,vs',d,ds',p1,q1,rfl,rfl,rfl,h1,h2⟩:=trodAll_cons hA;obtain⟨b,b1,b2,b3⟩:=h' H enc base vs' ds' q1 (fun j t v x y=>hv (j+1) t v (by simpa using x) (by simpa using y)) h2;obtain⟨n,hn⟩:=h1;obtain⟨a,a1,a2,a3,a4⟩:=h H enc n _ _ hn;obtain⟨hc,ho⟩:=xh ht (hv 0 t v rfl rfl);rw[hc]at a3;refine⟨(a,b),⟨a1,b1⟩,by simp only[Rows.uptoBulkAll];simp only at a2;omega,ae.cons ?_ b3⟩;obtain⟨u,us,he,r1,r2⟩:=a3.cH;simp only[Y0]at he;rw[he.1];exact r1
theorem tG{t:TypeId}{ts:List TypeId}{fs:Array Field}{α β:Type}{en:α→List DV}{sz:α→Nat}{ok:α→Prop}{en':β→List DV}{sz':β→Nat}{ok':β→Prop}(h:Rd P W t en sz ok)(ht:P.underlying t=some (.struct fs))(h':OO P W ts en' sz' ok'):
 OO P W (t::ts) (fun p:α×β=> .agg (en p.1)::en' p.2) (fun p=>sz p.1+sz' p.2) (fun p=>ok p.1∧ok' p.2):=by
 intro H enc base vs ds p hv hA;obtain⟨v,vs',d,ds',p1,q1,rfl,rfl,rfl,h1,h2⟩:=trodAll_cons hA;obtain⟨b,b1,b2,b3⟩:=h' H enc base vs' ds' q1 (fun j t v x y=>hv (j+1) t v (by simpa using x) (by simpa using y)) h2;obtain⟨n,hn⟩:=h1;obtain⟨a,a1,a2,a3,a4⟩:=h H enc n _ _ hn;have ho:=hv 0 t v rfl rfl;unfold Value.okWide at ho;rw[ht]at ho;obtain⟨cs,rfl,_,_⟩:=ho;refine⟨(a,b),⟨a1,b1⟩,by simp only[Rows.uptoBulkAll];simp only at a2;omega,ae.cons ?_ b3⟩;have:(Value.agg cs)= .agg cs.toList.toArray:=by simp
 rw[this];exact .agg _ _ (by simpa[Value.cells]using a3.len) (by simpa[Value.cells]using a3.at_) (by simpa[Value.cells]using a4)
theorem kL{H:Type}{enc:TypeId×Value→H}(hl:laidOutB P=true){W':World}(hb:Below W.heap.size W W'){sp:Nat→Bool}:∀{ts:List TypeId} {vs:List Value} {ds:List (DataW H)} {ps:List MemPlace},(∀t,t∈ts→P.readableRec t=true∧t<P.types.size)→
 DataW.TrodAll enc P W 0 (fun _=>true) true ts vs ds ps→(∀p,p∈ps→p.block<W.heap.size∧sp p.block=true)→DataW.TrodAll enc P W' 0 sp true ts vs ds ps
 |[],vs,ds,ps,_,h,_=>by
  obtain⟨rfl,rfl,rfl⟩:=trodAll_nil h;exact rfl
 |t::ts,vs,ds,ps,ht,h,hp=>by
  obtain⟨v,vs',d,ds',p1,q1,rfl,rfl,rfl,h1,h2⟩:=trodAll_cons h
  exact⟨p1,q1,WideElems.Trod_stays hl (ht t Xm).1 (ht t Xm).2 h1 (fun x hx=>hb.same (hp x (XX _ hx)).1) (fun x hx=>(hp x (XX _ hx)).2),
   kL hl hb (fun t' ht'=>ht t' (Xj _ ht')) h2 fun x hx=>hp x (Yy _ hx),rfl⟩
theorem kC{w0:W0}(hw0:w0.w={W with drawn:=0})(hg0:w0.gh.sub (gW W)){H:Type}(enc:TypeId×Value→H){f:FuncId}{fn:Func}{s:ChangeSpec}{ts:List TypeId}{α:Type}{en:α→List DV}{sz:α→Nat}{ok:α→Prop}{tb:TypeId}(hr:OO P W ts en sz ok)(hts:fn.params=ts.toArray)(hres:fn.resultTypes= #[tb])(htb:P.underlying tb=some .bool)(hvars:s.vars=[])
 (hl:laidOutB P=true) (hT:∀t,t∈ts→P.readableRec t=true∧t<P.types.size) (hspec:∀ds:List (DataW H),ds.length=ts.length→s.fn H ds={results:=[.lit (.bool true)],args:=ds})
 (hcall:∀a,ok a→sz a≤1048576→aa P w0 f (en a) ⟨[],[]⟩ fun d _=>d=dB true)
 (base:Nat) (args:Array Value) (ds gs:List (DataW H)) (before:List MemPlace) (hval:∀(j:Nat) t v,fn.params[j]? =some t→args[j]? =some v→Value.okWide P W .any base t v)
 (hW:DataW.Whole enc P fn.params.toList s.vars false W args.toList ds gs before) (hk:Rows.uptoBulkAll (ds++gs)≤1048576) (hpq:∀d S,¬w0.pq d S:=by exact fun _ _ h=>h):
 Calls P f args W fun e W'=>∃v,e= .returned v∧s.post enc P fn false true false false W args v W':=by
 have hW':=hW;obtain⟨p,q,hA,hV,rfl,hfz,hnd⟩:=hW;rw[hvars]at hV
 have hgs:gs=[]∧q=[]:=by
  cases gs with
  |nil=>exact⟨rfl,hV⟩
  |cons g gs=>exact hV.elim
 obtain⟨rfl,rfl⟩:=hgs;rw[hts]at hA;simp only[Yu]at hk;obtain⟨a,a1,a2,a3⟩:=hr H enc base args.toList ds p (fun j t v x y=>hval j t v (by rw[hts];simpa using x) (by simpa using y)) (by simpa using hA);have hc:=hcall a a1 (Yl a2 hk) (gW W) args W (x0 hw0 hg0) a3;refine hc.mono ?_;rintro e W' (⟨r,g',d,S',rfl,hle,hR,hd,rfl⟩|⟨_,_,_,_,_,_,_,_,hF⟩)
 rotate_left
 ·exact(hpq _ _ hF).elim
 have hb0:=hR.below.base;unfold W0.heap at hb0;rw[hw0]at hb0;have hb:Below W.heap.size W W':=⟨hb0.os,hb0.tape,hb0.output,hb0.size,hb0.block⟩;have hrv:r= .bool true:=jH hd;subst hrv
 have hlen:ds.length=ts.length:=by
  have:∀{ts:List TypeId} {vs:List Value} {ds:List (DataW H)} {ps:List MemPlace},DataW.TrodAll enc P W 0 (fun _=>true) true ts vs ds ps→ds.length=ts.length:=by
   intro ts
   induction ts with
   |nil=>intro vs ds ps h;obtain⟨rfl,rfl,rfl⟩:=trodAll_nil h;rfl
   |cons t ts ih=>
    intro vs ds ps h;obtain⟨v,vs',d,ds',p1,q1,rfl,rfl,rfl,h1,h2⟩:=trodAll_cons h;simp[ih h2]
  exact this (by simpa using hA)
 have hsp:=hspec ds hlen;have hold:∀x,x∈p→x.block<W.heap.size:=fun x hx=>hW'.lt x (by simpa using hx)
 have hres':∀(b:Nat) (sp:Nat→Bool) (hd:Bool),DataW.TrodAll enc P W' b sp hd fn.resultTypes.toList ((Value.bool true).resultList fn.resultTypes.size) (s.fn H (ds++[])).results []:=by
  intro b sp hd;rw[Yu,hsp,hres];exact trodAll_cons_mk (shut_bool htb _) trodAll_mk0
 have hargs':∀sp:Nat→Bool,(∀x,x∈p→sp x.block=true)→DataW.TrodAll enc P W' 0 sp true fn.params.toList args.toList (s.fn H (ds++[])).args p:=by
  intro sp hs;rw[Yu,hsp,hts];exact kL hl hb hT (by simpa using hA) fun x hx=>⟨hold x hx,hs x hx⟩
 have hvars':∀sp:Nat→Bool,DataW.TrodVars enc P W' sp s.vars (s.fn H (ds++[])).vars []:=by
  intro sp;rw[Yu,hsp,hvars];exact rfl
 refine⟨.bool true,rfl,ds,[],p++[],[],p,[],hW',hres' _ _ _,hargs' _ (fun x hx=>by simpa using hold x hx),hvars' _,World.keptBut_mono (fun x hx=>⟨hx,.inr (by simpa using hx)⟩) (hb.frame _),fun _=>?_⟩;refine⟨?_,_,_,([]++p)++[],⟨[]++p,[],trodAll_append (hargs' _ (fun _ _=>rfl)) (hres' _ _ _),hvars' _,rfl,?_,?_⟩,?_⟩
 ·exact ok_one hres rfl (okWide_bool_mk htb _)
 ·intro b off hp;have hp:MemPlace.cell b off∈p:=by simpa using hp
  rw[hb.frozen (hold _ hp)];exact hfz b off (by simpa using hp)
 ·intro ha;cases ha
 ·intro x hx _;simpa using hx
end
end Go.Proofs.YtoepfmhnapedoaaGreatDoor
namespace Go.Proofs.YtoepfmhnapedoaaGreatDoor
open Aml Go Go.RowKit Go.ChangeShapes Lat Grs Rn
def iq:List (String×DataW Unit):=[("math/bits.deBruijn64tab",Rows.laid_math_bits_deBruijn64tab),("unicode/utf8.acceptRanges",Rows.laid_unicode_utf8_acceptRanges),("jalousie/crc.half",Rows.laid_jalousie_crc_half),("jalousie/op.names",Rows.laid_jalousie_op_names),("unicode/utf8.first",Rows.laid_unicode_utf8_first)]
theorem Hi:Rows.laid_unicode_utf8_first=Lib.firstData:=by kernel_rfl
theorem AW:(Rows.laid_unicode_utf8_acceptRanges:DataW Unit)=Lib.acceptData:=by kernel_rfl
theorem Pt:(Rows.laid_math_bits_deBruijn64tab:DataW Unit)=Lib.tabData .u8 OK:=by kernel_rfl
theorem VO:Tryz.prog.globalNamed "math/bits.deBruijn64tab" =some 4:=by kernel_rfl
abbrev Lh(W:World):W0:=⟨{W with drawn:=0},gW W,fun _ _=>False⟩
theorem wc{W:World}(h:laidMetH Tryz.prog iq W):gq (Lh W):=by
 have hL:laidMet Tryz.prog iq W:=h
 have hT:Lib.TabIs Tryz.prog W "math/bits.deBruijn64tab" .u8 OK:=
  Lib.tabIs_of_head (rest:=iq.drop 1) (g:=4) (t:=245) (by kernel_rfl) (by kernel_rfl) Tryz.underlying245 Tryz.underlying5 (by kernel_rfl) (by kernel_rfl) (Pt▸hL)
 refine⟨fun j=>?_,fun u hu=>?_⟩
 ·show W.cell? ⟨4,j,none⟩=OT[j]?;rw[World.var?_cell VO hT j,List.getElem?_toArray];rfl
 ·obtain⟨z,_,rfl⟩:=Xq.1 hu;rfl
theorem Kv{W:World}(h:laidMetH Tryz.prog iq W):KU (Lh W):=by
 have hL:laidMet Tryz.prog iq W:=h
 have hU:Lib.Utf8Tabs 1 2 W:=
  utf8Tabs_of_readsT (U8Types.of196 Tryz.Ae) ⟨by kernel_rfl,by kernel_rfl,by kernel_rfl,by kernel_rfl,by kernel_rfl,by kernel_rfl,by kernel_rfl⟩
   (Hi▸Lib.laidMet.reads hL (by simp[iq])) (AW▸Lib.laidMet.reads hL (by simp[iq]))
 have hU:Lib.Utf8Tabs 1 2 {W with drawn:=0}:=hU;refine⟨rfl,fun w hw=>?_⟩;exact Utf8Tabs_below hU hw
theorem rh{H:Type}{enc:TypeId×Value→H}{P:Program}{w:World}{base:Nat}{sp:Nat→Bool}{held:Bool}{fuel:Nat}{t e:TypeId}{n:Nat}{cs:List Value}{zs:List (List UInt8)}{p:List MemPlace}
 (ht:P.underlying t=some (.array n e)) (he:P.underlying e=some .string) (hce:P.cellsOf e=1) (hct:P.cellsOf t=n)
 (h:DataW.trod enc P w base sp held fuel t cs=some (.agg (zs.map fun z=> .lit (.string z)),p)):cs=zs.map fun z=>Value.string (tx z):=by
 cases fuel with
 |zero=>simp[DataW.trod]at h
 |succ fuel=>
  simp only[DataW.trod,ht,hce,hct,YU]at h;split at h
  ·rename_i hl;obtain⟨xs,hm,hx⟩:=Xh.1 h
   have hxs:xs.map (·.1)=zs.map fun z=>(DataW.lit (.string z):DataW H):=by
    have:=congrArg Prod.fst hx;simpa using this
   have hxl:xs.length=n:=by simpa using Lib.mapM_length hm
   have hzl:zs.length=n:=by
    have:=congrArg List.length hxs;simp at this;omega
   apply Ya;intro i;by_cases hi:i<n
   ·obtain⟨b,hb,hf⟩:=Lib.mapM_at hm i i (by simp[hi]);obtain⟨z,hc,rfl,_⟩:=DataW.trod_string he hf
    have h1:cs[i]? =some (.string z):=by
     have:=congrArg (·[0]?) hc;simpa[XY,XZ]using this
    have h2:(xs.map (·.1))[i]? =some (DataW.lit (.string z.data.toList):DataW H):=by simp[hb]
    rw[hxs]at h2;simp only[Xi,Xh,DataW.lit.injEq,Lit.string.injEq]at h2;obtain⟨z',hz',e2⟩:=h2;rw[h1,Xi,hz',XG,e2,uh]
   ·rw[Xk (by omega),Xk (by simp;omega)]
  ·cases h
theorem GF:(Rows.laid_jalousie_op_names:DataW Unit)= .agg (Ge.map fun z=> .lit (.string z)):=by kernel_rfl
theorem Hv:Tryz.prog.globalNamed "jalousie/op.names" =some 0:=by kernel_rfl
theorem Ic:(Tryz.prog.globals[0]?).map (·.type)=some 162:=by kernel_rfl
theorem vc{W:World}(h:laidMetH Tryz.prog iq W):l8 (Lh W):=by
 have hL:laidMet Tryz.prog iq W:=h;obtain⟨g,t,cs,fuel,p,hg,hty,hvar,hd⟩:=Lib.laidMet.reads hL (n:= "jalousie/op.names") (d:=Rows.laid_jalousie_op_names) (by simp[iq]);obtain rfl:=XJ (Hv.symm.trans hg);obtain rfl:=XJ (Ic.symm.trans hty);rw[GF]at hd;have hcs:=rh Tryz.underlying162 Tryz.underlying9 (by kernel_rfl) (by kernel_rfl) hd;refine⟨fun j=>?_,fun u hu=>?_⟩
 ·show W.cell? ⟨0,j,none⟩=uM[j]?;rw[World.var?_cell Hv hvar j,←X4,hcs];rfl
 ·obtain⟨z,_,rfl⟩:=Xq.1 hu;rfl
theorem HZ:(Rows.laid_jalousie_crc_half:DataW Unit)=Lib.tabData .u32 nH:=by kernel_rfl
theorem KJ:Tryz.prog.globalNamed "jalousie/crc.half" =some 3:=by kernel_rfl
theorem LF:(Tryz.prog.globals[3]?).map (·.type)=some 241:=by kernel_rfl
theorem vo{W:World}(h:laidMetH Tryz.prog iq W):jY (Lh W):=by
 have hL:laidMet Tryz.prog iq W:=h;have hT:Lib.TabIs Tryz.prog W "jalousie/crc.half" .u32 nH:=Lib.tabIs_of_head (rest:=iq.drop 3) KJ LF Tryz.underlying241 Tryz.underlying148 (by kernel_rfl) (by kernel_rfl) (HZ▸hL.tail.tail);refine⟨fun j=>?_,fun u hu=>?_⟩
 ·show W.cell? ⟨3,j,none⟩=kJ[j]?;rw[World.var?_cell KJ hT j,List.getElem?_toArray];rfl
 ·obtain⟨z,_,rfl⟩:=Xq.1 hu;rfl
noncomputable def fO(os:Os):World:=
 let w0:=World.holding Tryz.prog os ⟨#[], #[],[]⟩
 let put (h:Array Obj) (g:Nat) (cs:Array Value):Array Obj:=h.modify g fun
  | .cells _ t frozen=> .cells cs t frozen
  |o=>o
 let h1:=put w0.heap 1 (Lib.firstTab.map fun z=>Value.int .u8 z).toArray
 let h2:=put h1 2 ((List.range 16).flatMap fun i=>[Value.int .u8 (Lib.accLo i),Value.int .u8 (Lib.accHi i)]).toArray
 let h3:=put h2 4 OT.toArray
 let h4:=put h3 3 kJ.toArray
 let h5:=put h4 0 uM.toArray
 {w0 with heap:=h5}
theorem PB{P:Program}{W:World}{t:TypeId}{α β:Type}{en:α→List DV}{sz:α→Nat}{ok:α→Prop}{en':β→List DV}{sz':β→Nat}{ok':β→Prop}(h:Rd P W t en sz ok)(f:α→β)(he:∀a,ok a→en a=en' (f a))(hs:∀a,sz' (f a)≤sz a)(ho:∀a,ok a→ok' (f a)):Rd P W t en' sz' ok':=
 fun H enc n cs x hx=>let⟨a,h1,h2,h3,h4⟩:=h H enc n cs x hx;⟨f a,ho a h1,Yl (hs a) h2,by rw[←he a h1];exact h3,h4⟩
theorem Em(l:List Nat)(x:Nat)(hx:x∈l):x≤l.sum:=by
 induction l with
 |nil=>cases hx
 |cons y l ih=>
  rw[YF];rcases Xr.1 hx with rfl|hx
  ·omega
  ·have:=ih hx;omega
theorem tg{α:Type}(l:List α):(l.map fun _=>1).sum=l.length:=by
 induction l with
 |nil=>rfl
 |cons a l ih=>simp only[XE,YF,Xo,ih];omega
def KD(l:List (List UInt8)):Nat:=(l.map fun s=>s.length+1).sum
theorem JC(l:List (List UInt8)):l.length≤KD l:=by
 unfold KD
 induction l with
 |nil=>exact Xg _
 |cons a l ih=>simp only[XE,YF,Xo];omega
theorem Jr{l:List (List UInt8)}{s:List UInt8}(h:s∈l):s.length≤KD l:=by
 have:=Em _ _ (XF (f:=fun s:List UInt8=>s.length+1) h);unfold KD;omega
theorem Q2{W:World}:Rd Tryz.prog W 22 (fun l:List (List UInt8)=>[.sl 1 false (az l)]) KD (fun l=>True):=
 (mW (Gg Tryz.underlying9) Tryz.underlying22 (by kernel_rfl)).conv (fun l=>l.map fun s=>s.data.toList) (fun l=>by
  unfold az;rw[List.map_map];rfl) (fun l=>by
  unfold KD;rw[List.map_map];have e:((fun s:List UInt8=>s.length+1)∘fun s:ByteArray=>s.data.toList)=fun s=>s.size+1:=funext fun s=>by simp[fM]
  rw[e];omega) fun _ _=>trivial
theorem Tj{W:World}:Rd Tryz.prog W 23 (fun l:List Nat=>[dZ l]) (fun l=>l.length) dq:=
 PB (mW (Ox Tryz.underlying75) Tryz.underlying23 (by kernel_rfl)) (fun l=>l.map Int.toNat) (fun l h=>by
  unfold dZ;rw[List.map_map];refine congrArg (fun z=>[DV.sl 1 false z]) (List.map_congr_left fun x hx=>?_);show dU x=dU ((x.toNat:Nat):Int);rw[Int.toNat_of_nonneg (h x hx).1]) (fun l=>by rw[tg,XS];omega) fun l h x hx=>by
  obtain⟨y,hy,rfl⟩:=Xq.1 hx;have:=h y hy;omega
theorem S9{W:World}:Rd Tryz.prog W 24 (fun l:List Int=>[lA l]) (fun l=>l.length) (fun _=>True):=
 (mW (yR Tryz.underlying3) Tryz.underlying24 (by kernel_rfl)).conv id (fun _=>rfl) (fun l=>by simp only[id,tg];omega) fun _ _=>trivial
theorem TB{W:World}:Rd Tryz.prog W 25 (fun l:List G=>[jk l]) (fun l=>l.length) (fun _=>True):=by
 have rI:=fun{W:World}=>yR (P:=Tryz.prog) (W:=W) Tryz.underlying3
 have h:Rd Tryz.prog W 79 (fun g:G=>[dI g.a,dI g.f,dI g.t]) (fun _=>1) (fun _=>True):=
  (mJ (W:=W) Tryz.underlying79 (total:=3) (by kernel_rfl) rfl (bh (k:=1) rI rfl (by kernel_rfl) (bh (k:=1) rI rfl (by kernel_rfl) (bh (k:=1) rI rfl (by kernel_rfl) sF)))).conv (fun a=>⟨a.1,a.2.1,a.2.2.1⟩) (fun _=>rfl) (fun a=>by omega) fun _ _=>trivial
 exact(rL h Tryz.underlying25 (k:=3) (by kernel_rfl) (by omega)).conv id (fun _=>rfl) (fun l=>by simp only[id,tg];omega) fun _ _=>trivial
def RS(c:Cf):Nat:=KD c.nm+c.up.length+c.qu.length+c.gr.length
theorem QL{W:World}:Rd Tryz.prog W 27 (fun c:Cf=>[.sl 1 false (az c.nm),dZ c.up,lA c.qu,jk c.gr]) RS (fun c=>dq c.up):=
 (mJ (W:=W) Tryz.underlying27 (total:=4) (by kernel_rfl) rfl (bh (k:=1) Q2 rfl (by kernel_rfl) (bh (k:=1) Tj rfl (by kernel_rfl) (bh (k:=1) S9 rfl (by kernel_rfl) (bh (k:=1) TB rfl (by kernel_rfl) sF))))).conv (fun a=>⟨a.1,a.2.1,a.2.2.1,a.2.2.2.1⟩) (fun _=>rfl) (fun a=>by unfold RS;dsimp only;omega) fun a h=>h.2.1
theorem Ln{c:Cf}(h:dq c.up)(hs:RS c≤1048576):yY c:=by
 unfold RS at hs;have:=JC c.nm;exact⟨by omega,fun s hm=>by have:=Jr hm;omega,by omega,h,by omega,by omega⟩
def Pa(o:bl):Nat:=o.bucket.length+o.key.length+o.value.length+KD o.bY+1
theorem QV{W:World}:Rd Tryz.prog W 47 bl.ds Pa (fun _=>True):=by
 have rI:=fun{W:World}=>yR (P:=Tryz.prog) (W:=W) Tryz.underlying3;have rS:=fun{W:World}=>Gg (P:=Tryz.prog) (W:=W) Tryz.underlying9
 have h:=mJ (W:=W) Tryz.underlying47 (total:=11) (by kernel_rfl) rfl
  (bh (k:=1) rI rfl (by kernel_rfl) (bh (k:=1) rI rfl (by kernel_rfl) (bh (k:=1) rI rfl (by kernel_rfl) (bh (k:=1) rI rfl (by kernel_rfl)
  (bh (k:=1) rS rfl (by kernel_rfl) (bh (k:=1) rS rfl (by kernel_rfl) (bh (k:=1) rS rfl (by kernel_rfl)
  (bh (k:=1) rI rfl (by kernel_rfl) (bh (k:=1) rI rfl (by kernel_rfl) (bh (k:=1) rI rfl (by kernel_rfl) (bh (k:=1) Q2 rfl (by kernel_rfl) sF)))))))))))
 exact h.conv (fun a=>⟨a.1,a.2.1,a.2.2.1,a.2.2.2.1,a.2.2.2.2.1.data.toList,a.2.2.2.2.2.1.data.toList,a.2.2.2.2.2.2.1.data.toList,a.2.2.2.2.2.2.2.1,a.2.2.2.2.2.2.2.2.1,a.2.2.2.2.2.2.2.2.2.1,a.2.2.2.2.2.2.2.2.2.2.1⟩) (fun a=>rfl) (fun a=>by
  unfold Pa;simp only[fM];omega) fun _ _=>trivial
theorem GR{W:World}:Rd Tryz.prog W 28 (fun l:List bl=>[mE l]) (fun l=>(l.map Pa).sum) (fun _=>True):=
 (rL QV Tryz.underlying28 (k:=11) (by kernel_rfl) (by omega)).conv id (fun _=>rfl) (fun l=>by simp only[id];omega) fun _ _=>trivial
theorem sU(l:List bl):l.length≤(l.map Pa).sum:=by
 induction l with
 |nil=>exact Xg _
 |cons a l ih=>simp only[XE,YF,Xo];unfold Pa at *;omega
end Go.Proofs.YtoepfmhnapedoaaGreatDoor
namespace Go.Proofs.YtoepfmhnapedoaaGreatDoor
open Aml Go Go.RowKit Go.ChangeShapes Go.WideShapes Go.ChangeAt Lat Grs Rn
theorem pa:ownKnob Tryz.prog.godebug=none:=by kernel_rfl
theorem kA(H:Type)(enc:TypeId×Value→H)(W:World)(base:Nat)(args:Array Value)(ds gs:List (DataW H))(before:List MemPlace)
 (hval:∀(j:Nat) t v,Tryz.f6.params[j]? =some t→args[j]? =some v→Value.okWide Tryz.prog W .any base t v)
 (hW:DataW.Whole enc Tryz.prog Tryz.f6.params.toList Rows.modelRollsSpec.vars false W args.toList ds gs before) (hk:Rows.uptoBulkAll (ds++gs)≤1048576) (hL:laidMetH Tryz.prog Rows.modelRollsUptoRow.laid W) (hsh:W.ShapedOpen Tryz.prog):
 Calls Tryz.prog 6 args W fun e W'=>∃v,e= .returned v∧Rows.modelRollsSpec.post enc Tryz.prog Tryz.f6 false true false false W args v W':=
 kC (w0:=Lh W) rfl (.refl _) enc (ts:=[27,28,28]) (tb:=4) (tG QL Tryz.underlying27 (s7 GR (by kernel_rfl) (s7 GR (by kernel_rfl) zR))) Tryz.params6 rfl Tryz.underlying4 rfl (by kernel_rfl) (by intro t ht;revert t;decide +kernel) (fun ds hd=>by
  first
  |(match ds,hd with|[_],_=>rfl)
  |(match ds,hd with|[_,_],_=>rfl)
  |(match ds,hd with|[_,_,_],_=>rfl)
  |(match ds,hd with|[_,_,_,_],_=>rfl)) (fun a ha hs=>(Oy (w0:=Lh W) (wc hL) (Kv hL) (vc hL) (vo hL) a.1 (Ln ha.1 (by omega)) a.2.1 a.2.2.1 (by have:=sU a.2.1;omega) (by have:=sU a.2.2.1;omega) ⟨[],[]⟩).mono fun d S' h=>h) base args ds gs before hval hW hk
theorem o9(os:Os):laidMet Tryz.prog Rows.modelRollsUptoRow.laid ((fO os).forCall (fun _ _=>0) ⟨#[], #[.agg #[.slice none 0 0,.slice none 0 0,.slice none 0 0,.slice none 0 0],.slice none 0 0,.slice none 0 0],[]⟩).memory:=
 laidMet_of_run' 8 (by kernel_rfl) (by kernel_rfl)
theorem mv(os:Os){H:Type}(enc:TypeId×Value→H):∃places,DataW.whole enc Tryz.prog ((fO os).forCall (fun _ _=>0) ⟨#[], #[.agg #[.slice none 0 0,.slice none 0 0,.slice none 0 0,.slice none 0 0],.slice none 0 0,.slice none 0 0],[]⟩).memory Tryz.f6.params.toList Rows.modelRollsSpec.vars false (#[.agg #[.slice none 0 0,.slice none 0 0,.slice none 0 0,.slice none 0 0],.slice none 0 0,.slice none 0 0]:Array Value).toList 8=some ([.agg [.nil,.nil,.nil,.nil],.nil,.nil],[],places):=
 ⟨[],by kernel_rfl⟩
theorem l4(os:Os)(started:os.Started)(H:Type)(enc:TypeId×Value→H)(F:Stop.Interp):
 ReturnsInHanded {} Tryz.checked os 6 .any ((Rows.OpenSpec.upto Rows.modelRollsSpec).preRow enc Tryz.prog Tryz.f6 Rows.modelRollsUptoRow.domain false Rows.modelRollsUptoRow.laid) (((Rows.OpenSpec.upto Rows.modelRollsSpec).at F).post enc Tryz.prog Tryz.f6 false true false false):=by
 obtain⟨places,hx⟩:=mv os enc
 refine returnsInHanded_of_row (C:=Tryz.checked) (s:=Rows.OpenSpec.upto Rows.modelRollsSpec) pa started (by kernel_rfl) Tryz.func6
  (witness_row_at (enc:=enc) (C:=Tryz.checked) false (fO os) #[.agg #[.slice none 0 0,.slice none 0 0,.slice none 0 0,.slice none 0 0],.slice none 0 0,.slice none 0 0] rfl (by kernel_rfl) (by kernel_rfl) (by kernel_rfl)
   (OpenSpec.preRow_of_cond 8 hx (by kernel_rfl) (fun k hk=>by cases hk;kernel_rfl) (by kernel_rfl) (o9 os))) ?_
 intro W base args ds gs before hval hW _ hc _ hL hsh _;exact kA H enc W base args ds gs before hval hW (of_decide_eq_true (hc _ rfl)) hL hsh
theorem nR:Rows.ModelRollsUptoSaid:=
 OpenClaim.holds_of_cond 6 Tryz.f6 rfl rfl rfl rfl rfl rfl rfl ⟨rfl,rfl,rfl,rfl,rfl⟩ rfl rfl rfl rfl rfl (by kernel_rfl) Tryz.func6 (by kernel_rfl)
  (of_decide_eq_true (by kernel_rfl)) (by unfold Func.isWrapper;first|(rw[if_pos (by decide +kernel)];kernel_rfl)|(rw[if_neg (by decide +kernel)];exact⟨rfl,rfl⟩))
  (fun os started H enc _ F=>by rw[OpenClaim.pre_eq_preRow];exact l4 os started H enc F)
theorem nq(f:FuncId)(fn:Func)(hf:Tryz.pinned.checked.prog.funcNamed Rows.modelRollsUptoRow.func=some f)(hfn:Tryz.pinned.checked.prog.funcs[f]? =some fn):
 true=Tryz.pinned.checked.prog.looks []∧∀(j:Nat) t,fn.params[j]? =some t→Tryz.pinned.checked.prog.wantsStandIn t=false:=by
 obtain rfl:f=6:=XJ ((show Tryz.prog.funcNamed Rows.modelRollsUptoRow.func=some 6 by kernel_rfl).symm.trans hf) |>.symm;obtain rfl:fn=Tryz.f6:=(XJ (Tryz.func6.symm.trans hfn)).symm;refine⟨by kernel_rfl,fun j t ht=>?_⟩;rw[Tryz.params6]at ht;have hm:t∈([27,28,28]:List TypeId):=by simpa using Array.mem_of_getElem? ht
 exact(show∀t,t∈([27,28,28]:List TypeId)→Tryz.prog.wantsStandIn t=false by decide +kernel) t hm
theorem modelRolls_holds:Rows.ModelRollsUptoCardSaid:=
 Claim7.holds_tied_plain_at .later [] _ _ _ _ nR (fun _ h=>by cases h) (by kernel_rfl) (fun _ h=>by cases h) modelRollsUpto_row_tie rfl ⟨rfl,rfl⟩ (by kernel_rfl) rfl nq (by kernel_rfl)
end Go.Proofs.YtoepfmhnapedoaaGreatDoor
namespace Go.Proofs.YtoepfmhnapedoaaGreatDoor
open Aml Go Rn Lat Grs
structure Sp(n:Nat)(a n0:Int)(Fs:List gu)(μ:bc):Prop where
 len:μ.l.length=n
 vw:∃p,fC μ.r a n0=some p∧(1:Int)∈p.1
 sn:μ.sn a n0 1=some Fs
theorem Sp.wh{n:Nat}{a n0:Int}{Fs:List gu}{μ:bc}(h:Sp n a n0 Fs μ)(i:Nat)(l':nT):Sp n a n0 Fs ⟨μ.l.set i l',μ.r,μ.sn⟩:=⟨by simp[h.len],h.vw,h.sn⟩
theorem PR{dg:List UInt8→Int}{c:Cf}{n:Nat}{a n0:Int}{Fs:List gu}{μ:bc}{o:bl}{full:Bool}(h:Sp n a n0 Fs μ)(hw:jh μ.r)(hne:¬(o.level=a∧o.aB=n0∧(o.kind=1∨o.kind=12))):∀r μ',ed dg c μ o full= .inr (r,μ')→Sp n a n0 Fs μ':=by
 obtain⟨p,hp,h1⟩:=h.vw;have hp2:=((Qz hw hp).2 1 h1).2;refine Ah (P:=fun out=>∀r μ',out= .inr (r,μ')→Sp n a n0 Fs μ') ?_ ?_ ?_ ?_ ?_ ?_ ?_ ?_ ?_ ?_ ?_ ?_ ?_ ?_ ?_
 ·intro q r μ' he;unfold ib at he;cases he;refine⟨by simp[h.len],⟨p,?_,h1⟩,h.sn⟩;show fC (mP μ.r o.level o.aB).1 a n0=some p;rw[K1 hw,if_neg fun e=>hne ⟨e.1.symm,e.2.symm,.inl q⟩];exact hp
 ·intro q r μ' he;unfold e9 bS at he;simp only at he
  repeat' split at he
  all_goals cases he
  exact h.wh _ _
 ·intro q r μ' he;unfold eL bS at he;simp only at he
  repeat' split at he
  all_goals cases he
  exact h.wh _ _
 ·intro q r μ' he;unfold bU bS at he;simp only at he
  repeat' split at he
  all_goals cases he
  exact h.wh _ _
 ·intro q r μ' he;unfold gC bS at he;simp only at he
  repeat' split at he
  all_goals cases he
  exact h.wh _ _
 ·intro q r μ' he;unfold iz bS at he;simp only at he
  repeat' split at he
  all_goals cases he
  exact h.wh _ _
 ·intro q r μ' he;unfold mh bS at he;simp only at he
  repeat' split at he
  all_goals cases he
  exact h.wh _ _
 ·intro q r μ' he;unfold cI bS at he;simp only at he
  repeat' split at he
  all_goals cases he
  exact h.wh _ _
 ·intro q r μ' he;unfold getM at he
  repeat' split at he
  all_goals first|(cases he;done)|skip
  simp only at he;split at he
  all_goals cases he
  exact h
 ·intro q r μ' he;unfold fw at he
  repeat' split at he
  all_goals cases he
  exact h
 ·intro q r μ' he;unfold kK at he;cases he;by_cases e:a=o.level∧n0=o.aB
  ·have hp':=hp;rw[e.1,e.2]at hp';have hk:(oy μ.r o.level o.aB).2=p.2+1:=by rw[DO,hp'];rfl
   refine⟨h.len,⟨(p.1++[p.2+1],p.2+1),?_,by simp[h1]⟩,?_⟩
   ·show fC (oy μ.r o.level o.aB).1 a n0=_;rw[zO,if_pos e,hp'];rfl
   ·show ja μ.sn o.level o.aB _ _ a n0 1=_;unfold ja;rw[if_neg fun q=>by rw[hk]at q;omega];exact h.sn
  ·refine⟨h.len,⟨p,?_,h1⟩,?_⟩
   ·show fC (oy μ.r o.level o.aB).1 a n0=_;rw[zO,if_neg e];exact hp
   ·show ja μ.sn o.level o.aB _ _ a n0 1=_;unfold ja;rw[if_neg fun q=>e ⟨q.1,q.2.1⟩];exact h.sn
 ·intro q r μ' he;unfold db at he;split at he
  ·cases he
  ·cases he;have e:¬(a=o.level∧n0=o.aB):=fun e=>hne ⟨e.1.symm,e.2.symm,.inr q⟩;refine⟨h.len,⟨p,?_,h1⟩,?_⟩
   ·show fC (mo μ.r o.level o.aB o.snap).1 a n0=_;rw[Ho,if_neg e];exact hp
   ·show ja μ.sn o.level o.aB _ _ a n0 1=_;unfold ja;rw[if_neg fun q=>e ⟨q.1,q.2.1⟩];exact h.sn
 ·intro q r μ' he;unfold ia at he;split at he
  all_goals cases he
  exact h
 ·intro q r μ' he;unfold fX at he;split at he
  all_goals cases he
  exact h
 ·intro q r μ' he;unfold fA at he;simp only at he
  repeat' split at he
  all_goals cases he
  exact h.wh _ _
theorem FA{dg:List UInt8→Int}{c:Cf}{n:Nat}{a n0:Int}{Fs:List gu}{μ:bc}{o:bl}{full:Bool}(h:Sp n a n0 Fs μ)(hw:jh μ.r)(h16:o.kind≠16)(hne:¬(o.level=a∧o.aB=n0∧(o.kind=1∨o.kind=12))):Sp n a n0 Fs (eK dg c μ o full).2:=by
 obtain⟨p,hp,h1⟩:=h.vw;unfold eK;split
 ·exact h
 split
 ·refine⟨h.len,⟨p,?_,h1⟩,h.sn⟩;show fC (eu μ.r o.level).1 a n0=some p;rw[zP hw,if_neg fun e=>?_]
  ·exact hp
  ·rw[e.1,e.2,An (by rw[zl hw];omega)]at hp;cases hp
 split
 ·exact h
 cases ho:ed dg c μ o full with
 |inl e=>exact h
 |inr q=>exact PR h hw hne q.1 q.2 ho
noncomputable def sf(c:Cf)(n:Nat)(Fs:List gu)(q:bl):v8:=
 let L:=(List.range n).filter fun x:Nat=>jl c.up (x:Int) q.level
 if(L.any fun x=>(((Fs[x]?).getD fun _=>none) q.bucket).isSome)=false then gv 32 else
 ⟨0,0,OJ (L.map fun x=>pI x (fun k=>!xF k q.key) (((Fs[x]?).getD fun _=>none) q.bucket)) (qv q.n),[]⟩
theorem Hd(c:Cf)(n:Nat)(Fs:List gu)(q:bl):(sf c n Fs q).rows.length≤50∧(sf c n Fs q).pd=[]:=by
 unfold sf;simp only;split
 ·exact⟨XR _,rfl⟩
 ·refine⟨?_,rfl⟩;simp only[OJ,X3];have:(qv q.n).toNat≤50:=by unfold qv;(repeat' split) <;>omega
  omega
theorem JB{dg:List UInt8→Int}{c:Cf}{n:Nat}{a n0:Int}{Fs:List gu}{μ:bc}{q:bl}(h:Sp n a n0 Fs μ)(h0:0≤a)(h1:a<n)(hk:q.kind=10)(hl:q.level=a)(hs:q.aB=n0)(hn:q.snap=1):eK dg c μ q false=(sf c n Fs q,μ):=by
 obtain⟨p,hp,hm⟩:=h.vw
 have hsee:∀x,gk μ q x=((Fs[x]?).getD fun _=>none):=fun x=>by
  unfold gk;rw[if_pos (by omega),hl,hs,hn,h.sn];rfl
 have hns:¬fc μ q:=fun w=>w.2 (by rw[hl,hs,hn,jg,hp];exact hm);rw[jQ dg c μ false (by omega) (by omega) (by rw[h.len];omega) (by rw[lH,hl,hs,hp];rfl)];rw[show ed dg c μ q false=fw c μ q by simp[ed,hk]];unfold fw sf ft bG iB;rw[if_neg hns,h.len];simp only[hsee];split <;>rfl
theorem E9{dg:List UInt8→Int}{c:Cf}{μ:bc}(hw:jh μ.r){a:Int}(h0:0≤a)(h1:a<μ.l.length):∃μ2,eK dg c ⟨μ.l,(eu μ.r a).1,μ.sn⟩ (fp 11 a (eu μ.r a).2 0) false=(nY 1,μ2)∧Sp μ.l.length a (eu μ.r a).2 (μ.l.map nT.F) μ2:=by
 have hv:fC (eu μ.r a).1 a (eu μ.r a).2=some ([],0):=by rw[zP hw,if_pos ⟨rfl,rfl⟩]
 have hk:(oy (eu μ.r a).1 a (eu μ.r a).2).2=1:=by rw[DO,hv];rfl
 refine⟨⟨μ.l,(oy (eu μ.r a).1 a (eu μ.r a).2).1,ja μ.sn a (eu μ.r a).2 1 (some (μ.l.map nT.F))⟩,?_,rfl,⟨([1],1),?_,by simp⟩,?_⟩
 ·rw[jQ dg c _ false ⟨show(1:Int)≤11 by omega,show(11:Int)≤15 by omega⟩ h0 h1 (by rw[lH];show(fC (eu μ.r a).1 a (eu μ.r a).2).isSome=true;rw[hv];rfl)];rw[show ed dg c ⟨μ.l,(eu μ.r a).1,μ.sn⟩ (fp 11 a (eu μ.r a).2 0) false=kK ⟨μ.l,(eu μ.r a).1,μ.sn⟩ (fp 11 a (eu μ.r a).2 0)by simp[ed,fp]];unfold kK;simp only[show(fp 11 a (eu μ.r a).2 0).level=a from rfl,show(fp 11 a (eu μ.r a).2 0).aB=(eu μ.r a).2 from rfl,hk];rfl
 ·show fC (oy (eu μ.r a).1 a (eu μ.r a).2).1 a (eu μ.r a).2=_;rw[zO,if_pos ⟨rfl,rfl⟩,hv];rfl
 ·show ja _ _ _ _ _ a (eu μ.r a).2 1=_;unfold ja;simp
theorem OA{dg:List UInt8→Int}{c:Cf}{n:Nat}{a n0:Int}{Fs:List gu}{μ:bc}{q:bl}(h:Sp n a n0 Fs μ)(h0:0≤a)(h1:a<n)(hk:q.kind=10)(hl:q.level=a)(hs:q.aB=n0)(hn:q.snap=1):∃μ',eK dg c μ (fp 12 a n0 1) false=(gv 0,μ')∧eK dg c μ' q false=(gv 39,μ'):=by
 obtain⟨p,hp,hm⟩:=h.vw;have hu:(mo μ.r a n0 1).2=true:=by rw[PA,hp];exact decide_eq_true hm
 have hv:fC (mo μ.r a n0 1).1 a n0=some (C6 1 p.1,p.2):=by rw[Ho,if_pos ⟨rfl,rfl⟩,hp];rfl
 refine⟨⟨μ.l,(mo μ.r a n0 1).1,ja μ.sn a n0 1 none⟩,?_,?_⟩
 ·rw[jQ dg c μ false ⟨show(1:Int)≤12 by omega,show(12:Int)≤15 by omega⟩ h0 (show a<_ by rw[h.len];exact h1) (by rw[lH];show(fC μ.r a n0).isSome=true;rw[hp];rfl)];rw[show ed dg c μ (fp 12 a n0 1) false=db μ (fp 12 a n0 1)by simp[ed,fp]];unfold db;simp only[show(fp 12 a n0 1).level=a from rfl,show(fp 12 a n0 1).aB=n0 from rfl,show(fp 12 a n0 1).snap=1 from rfl,hu];rfl
 ·rw[jQ dg c _ false (by omega) (by omega) (by rw[hl];show a<(μ.l.length:Int);rw[h.len];exact h1) (by rw[lH,hl,hs];show(fC (mo μ.r a n0 1).1 a n0).isSome=true;rw[hv];rfl)];rw[show ed dg c ⟨μ.l,(mo μ.r a n0 1).1,ja μ.sn a n0 1 none⟩ q false=fw c ⟨μ.l,(mo μ.r a n0 1).1,ja μ.sn a n0 1 none⟩ q by simp[ed,hk]]
  have hns:fc ⟨μ.l,(mo μ.r a n0 1).1,ja μ.sn a n0 1 none⟩ q:=⟨by omega,by
   rw[hl,hs,hn,jg];show¬(1:Int)∈((fC (mo μ.r a n0 1).1 a n0).map (·.1)).getD [];rw[hv];simp[C6]⟩
  unfold fw;rw[if_pos hns];rfl
end Go.Proofs.YtoepfmhnapedoaaGreatDoor
