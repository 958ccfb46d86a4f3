/-
  Part 11 of the proof that the last text ends: from 'Functions that recover, on: regions whose order is open, behind the defer' to 'The reference's model: plain'. By an AI agent.
-/
import Derived.Test.YtoepfmhnapedoaaGreatDoorMD7
import Derived.Test.YtoepfmhnapedoaaGreatDoorMD5
import Derived.Test.YtoepfmhnapedoaaGreatDoorMD9
import Derived.Test.YtoepfmhnapedoaaGreatDoorMD10
set_option linter.unusedVariables false
set_option linter.unusedSimpArgs false
set_option maxRecDepth 100000
set_option maxHeartbeats 16000000
namespace Aml
open Go Go.RowKit
section
variable {P:Program} {w0:W0} {S0 S1:St} {md:Region.Mode} {ops:Array Oper}
theorem Y.jD{T:List Nat}{a0:Act}(hdst:∀(i:Nat) o,ops[i]? =some o→mi T o=true){gs ns:List Nat}{ro:Option Nat}{g0:Gh}{Q:Exit→List DV→St→Prop}:∀(fuel:Nat) (listed:Array Bool) (fr:List DV) (S:St) (g:Gh) (a:Act) (w:World),Same T a0 a→g0.le g→Rel w0 g S w→af g fr a.tmps.toList→Dk w0 g a w→
 Y.Ci P w0 S0 S1 gs ns md ops (fun fr S=>Q .normal fr S) fuel listed fr S→wpAnyIn (fz ro) 0 P md ops (Kt T a0 (Good w0 g0 Q)) fuel listed a w
 |0,listed,fr,S,g,a,w,hs,k,h1,h2,h3,h=>⟨h.1,⟨k.kd h3,g,fr,S,k,h1,h2,h.2⟩,hs⟩
 |fuel+1,listed,fr,S,g,a,w,hs,k,h1,h2,h3,h=>by
  refine⟨fun h0=>⟨⟨k.kd h3,g,fr,S,k,h1,h2,h.1 h0⟩,hs⟩,fun i hi=>?_⟩;have hq:=h.2 i hi;unfold eP at hq;unfold wpOpIn;split
  ·rename_i ho;simp only[ho]at hq;obtain⟨T',hp,hq⟩:=hq;exact Y.jD hdst fuel _ fr T' g a w hs k (hp.symm.rel h1) h2 h3 hq
  ·rename_i o ho;simp only[ho]at hq;rcases hq with⟨hw,hb⟩|⟨hw,hk⟩
   ·have hw':=cq (o:=o) h2 hw;rw[if_pos hw'];refine il (Y.oI hb) h1 (fun x _=>eA h2 x) h3 k h2 (Q:=Q) (fun v w' hg=>⟨hg,hs⟩) fun g' d' u S' w' k1 k2 k3 k4 k5=>?_;obtain⟨T',hp,k4⟩:=k4;exact Y.jD hdst fuel _ _ _ g' _ _ (oD (hdst i o ho) hs u) (k.trans k1) (hp.symm.rel k2) (bu (h2.mono k1) _ k3) (k1.dk k5) k4
   ·have hw':=cq (o:=o) h2 hw;rw[if_neg (by simp[hw'])];obtain⟨T',hp,hk⟩:=hk;exact⟨fun _ _=>trivial,Y.jD hdst fuel _ _ _ g _ _ (oD (hdst i o ho) hs undef) k (hp.symm.rel h1) (bu h2 _ (gu g)) (h3.cC (put_defers _ _ _) fun _ _ h _=>h) hk⟩
theorem Y.FA{T:List Nat}(hSS:∀T,Hm S0 T→Hm S1 T){id:Nat}{l:List Oper}{gs ns ord:List Nat}{fr:List DV}{S:St}{Q:Exit→List DV→St→Prop}(hm:P.follows .mixedOrders=true)(hd:l.all (mi T)=true)(hB:Y.xZ gs ns .any l.toArray ord (Array.replicate l.length false)=true)(hO:ord.length=l.length)(h:Y.LO P w0 S0 S1 gs ns l.toArray (fun fr S=>Q .normal fr S) ord fr S):P2 T P w0 (.region id l.toArray true) fr S Q:=by
 intro g a0 a w h1 h2 h3 hs;refine cD hm fun ro=>?_;have hR:Rel w0 g S {w with drawn:=w.drawn+1}:=h1.grow (eK w)
 have hcnt:∀l':List Nat,l'.Nodup→(∀k,k∈l'→(Array.replicate l.length false).getD k true=false)→l'.length≤ord.length:=by
  intro l' hn hl
  have hsub:∀k,k∈l'→k∈List.range l.length:=fun k hk=>by
   have:=hl k hk;rw[ace];rcases abz k l.length with h|h
   ·exact h
   ·rw[aaI,abG (by simpa using h)]at this;cases this
  have:=hn.length_le_of_subset (l₂:=List.range l.length) hsub;rw[hO];simpa using this
 have hdst:∀(i:Nat) o,l.toArray[i]? =some o→mi T o=true:=fun i o ho=>aa8.1 hd o (aaf (i:=i) (by simpa using ho));have:=Y.oQ hSS (P:=P) (w0:=w0) (S0:=S0) (S1:=S1) (md:= .any) (ops:=l.toArray) ord (Array.replicate l.length false) fr S hcnt hB h;have:=Y.jD (T:=T) (a0:=a0) hdst (ro:=ro) (g0:=g) (Q:=Q) _ _ fr S g a _ hs (.refl g) hR h2 (h3.cC rfl fun _ _ h _=>h) this;rw[hO]at this;simpa using this
def AK(T:List Nat)(P:Program)(w0:W0)(fr:List DV)(S:St)[c:Cn (Code×(Exit→List DV→St→Prop))]:Prop:=P2 T P w0 c.k.1 fr S c.k.2
theorem Y.yO{T:List Nat}(gs ns ord:List Nat){id:Nat}{l:List Oper}{fr:List DV}{S:St}{Q:Exit→List DV→St→Prop}(hm:P.follows .mixedOrders=true)(hB:(Y.r6 l gs ns ord&&l.all (mi T))=true)(h:Y.mo P w0 S ⟨[],[]⟩ gs ns l.toArray (fun fr S=>iu fr fun fr=>Q .normal fr S) ord fr S):@AK T P w0 fr S ⟨(.region id l.toArray true,Q)⟩:=by
 rw[aak]at hB;obtain⟨hB,hd⟩:=hB;simp only[Y.r6,aak,beq_iff_eq]at hB;refine Y.FA (fun T _=>Y.kQ T) hm hd hB.1.2 hB.2 (Y.cB (fun i o ho=>?_) ord h);have:l[i]? =some o:=by simpa using ho
 exact aa8.1 hB.1.1 o (aaf this)
def sJ(T:List Nat)(P:Program)(w0:W0)(ss:List Nat):Code→List DV→St→(Exit→List DV→St→Prop)→Prop
 | .skip,fr,S,Q=>Q .normal fr S
 | .seq x y,fr,S,Q=>sJ T P w0 ss x fr S (iv (fun fr S=>sJ T P w0 ss y fr S Q) Q)
 | .cond c x y,fr,S,Q=>dq (ev fr c) (sJ T P w0 ss x fr S Q) (sJ T P w0 ss y fr S Q)
 | .block n c,fr,S,Q=>sJ T P w0 ss c fr S (gH n Q)
 | .exit n,fr,S,Q=>Q (.exit n) fr S
 | .ret,fr,S,Q=>Q .ret fr S
 | .region n ops dr,fr,S,Q=>cF (ss.contains n) (@AK T P w0 fr S ⟨((.region n ops dr),Q)⟩) (rV P w0 ops (fun fr S=>Q .normal fr S) ops.toList fr S)
 |c,fr,S,Q=>@AK T P w0 fr S ⟨(c,Q)⟩
def uX(T ss:List Nat):Code→Bool
 | .skip=>true
 | .ret=>true
 | .exit _=>true
 | .seq a b=>uX T ss a&&uX T ss b
 | .cond _ a b=>uX T ss a&&uX T ss b
 | .block _ c=>uX T ss c
 | .region n ops dr=>ss.contains n||(!dr&&ops.toList.all (fun o=>eo o.op&&mi T o))
 |_=>false
theorem gp{T ss:List Nat}:∀(c:Code) {fr:List DV} {S:St} {Q:Exit→List DV→St→Prop},uX T ss c=true→sJ T P w0 ss c fr S Q→P2 T P w0 c fr S Q
 | .skip,fr,S,Q,_,h=>fun g v a w h1 h2 h3 h4=>oH ⟨⟨h3,g,fr,S,.refl g,h1,h2,h⟩,h4⟩
 | .ret,fr,S,Q,_,h=>fun g v a w h1 h2 h3 h4=>rE ⟨⟨h3,g,fr,S,.refl g,h1,h2,h⟩,h4⟩
 | .exit n,fr,S,Q,_,h=>fun g v a w h1 h2 h3 h4=>sG ⟨⟨h3,g,fr,S,.refl g,h1,h2,h⟩,h4⟩
 | .seq x y,fr,S,Q,ho,h=>fun g v a w h1 h2 h3 h4=>by
  simp only[uX,aak]at ho;refine lC (bg (gp x ho.1 h g v a w h1 h2 h3 h4) ?_);intro e a' w' hg
  cases e with
  |normal=>
   obtain⟨⟨hd,g',fr',S',k1,k2,k3,k4⟩,ht⟩:=hg;exact bg (gp y ho.2 k4 g' v a' w' k2 k3 (k1.dk hd) ht) fun _ _ _ k=>k.mono fun _ _ _ k=>k.of_le k1
  |exit n=>exact hg
  |goto n=>exact hg
  |ret=>exact hg
  |panic ch=>exact hg
  |outgrown=>exact hg
 | .cond c x y,fr,S,Q,ho,h=>fun g v a w h1 h2 h3 h4=>by
  simp only[uX,aak]at ho;have h:dq (ev fr c) (sJ T P w0 ss x fr S Q) (sJ T P w0 ss y fr S Q):=h;have hr:=eA h2 c;unfold dq at h;split at h
  ·rename_i b he;rw[he]at hr;exact dY (mj hr) (fun hb=>gp x ho.1 (h.1 hb) g v a w h1 h2 h3 h4) (fun hb=>gp y ho.2 (h.2 hb) g v a w h1 h2 h3 h4)
  ·exact h.elim
 | .block n c,fr,S,Q,ho,h=>fun g v a w h1 h2 h3 h4=>by
  unfold uX at ho;have h:sJ T P w0 ss c fr S (gH n Q):=h;refine ky (bg (gp c ho h g v a w h1 h2 h3 h4) ?_);intro e a' w' hg
  cases e with
  |exit m=>
   obtain⟨⟨hd,g',fr',S',k1,k2,k3,k4⟩,ht⟩:=hg;simp only[Exit.inBlock];simp only[Qp,gH]at k4;split
   ·rename_i e;rw[if_pos e]at k4;exact⟨⟨hd,g',fr',S',k1,k2,k3,k4⟩,ht⟩
   ·rename_i e;rw[if_neg e]at k4;exact⟨⟨hd,g',fr',S',k1,k2,k3,k4⟩,ht⟩
  |normal=>exact hg
  |goto n=>exact hg
  |ret=>exact hg
  |panic ch=>exact hg
  |outgrown=>exact hg
 | .region n ops dr,fr,S,Q,ho,h=>fun g v a w h1 h2 h3 h4=>by
  unfold uX at ho;have h:cF (ss.contains n) (@AK T P w0 fr S ⟨((.region n ops dr),Q)⟩) (rV P w0 ops (fun fr S=>Q .normal fr S) ops.toList fr S):=h
  cases hc:ss.contains n with
  |true=>
   rw[hc]at h;exact h g v a w h1 h2 h3 h4
  |false=>
   rw[hc]at h ho;simp only[adn,aak,abU]at ho;obtain⟨hd,ho⟩:=ho;subst hd
   have ho1:ops.toList.all (fun o=>eo o.op)=true:=aa8.2 fun o hm=>by
    have:=aa8.1 ho o hm;rw[aak]at this;exact this.1
   have ho2:ops.toList.all (mi T)=true:=aa8.2 fun o hm=>by
    have:=aa8.1 ho o hm;rw[aak]at this;exact this.2
   have h:rV P w0 ops (fun fr S=>Q .normal fr S) ops.toList fr S:=h;have h:=iQ _ ho1 h;have:=fR (P:=P) (id:=n) (l:=ops.toList) (Q:=Kt T v (Good w0 g Q)) (a:=a) (w:=w) fun ro=>kS (ro:=ro) (g0:=g) (Q:=Q) ops.toList fr S g a w ho2 h4 (.refl g) h1 h2 h3 (by simpa using h);simpa using this
 | .loop c,fr,S,Q,ho,h=>by cases ho
 | .rangeFunc f ps a b,fr,S,Q,ho,h=>by cases ho
 | .scope c,fr,S,Q,ho,h=>by cases ho
 | .label l,fr,S,Q,ho,h=>by cases ho
 | .goto l,fr,S,Q,ho,h=>by cases ho
 | .refuse w,fr,S,Q,ho,h=>by cases ho
theorem Br{T ss:List Nat}{fr:List DV}{S:St}{Q:Exit→List DV→St→Prop}:sJ T P w0 ss .skip fr S Q=Q .normal fr S:=rfl
theorem FX{T ss:List Nat}{fr:List DV}{S:St}{Q:Exit→List DV→St→Prop}(x y:Code):sJ T P w0 ss (.seq x y) fr S Q=sJ T P w0 ss x fr S (iv (fun fr S=>sJ T P w0 ss y fr S Q) Q):=rfl
theorem Cm{T ss:List Nat}{fr:List DV}{S:St}{Q:Exit→List DV→St→Prop}(c:Operand)(x y:Code):sJ T P w0 ss (.cond c x y) fr S Q=dq (ev fr c) (sJ T P w0 ss x fr S Q) (sJ T P w0 ss y fr S Q):=rfl
theorem yV{T ss:List Nat}{fr:List DV}{S:St}{Q:Exit→List DV→St→Prop}(n:Nat)(c:Code):sJ T P w0 ss (.block n c) fr S Q=sJ T P w0 ss c fr S (gH n Q):=rfl
theorem FZ{T ss:List Nat}{fr:List DV}{S:St}{Q:Exit→List DV→St→Prop}:sJ T P w0 ss .ret fr S Q=Q .ret fr S:=rfl
theorem Gn{T ss:List Nat}{fr:List DV}{S:St}{Q:Exit→List DV→St→Prop}(n:Nat)(l:List Oper)(dr:Bool):sJ T P w0 ss (.region n l.toArray dr) fr S Q=cF (ss.contains n) (@AK T P w0 fr S ⟨((.region n l.toArray dr),Q)⟩) (rV P w0 l.toArray (fun fr S=>iu fr fun fr=>Q .normal fr S) l fr S):=by simp[sJ,cF,iu]
@[congr] theorem aav {T ss:List Nat} {Q:Exit→List DV→St→Prop} {c:Code} {fr fr':List DV} {S S':St} (h1:fr=fr') (h2:S=S'):sJ T P w0 ss c fr S Q=sJ T P w0 ss c fr' S' Q:=by cases h1;cases h2;rfl
@[congr] theorem abK {T:List Nat} {fr fr':List DV} {S S':St} [c:Cn (Code×(Exit→List DV→St→Prop))] (h1:fr=fr') (h2:S=S'):AK T P w0 fr S=AK T P w0 fr' S':=by cases h1;cases h2;rfl
attribute [go_sem ↓] Br FX Cm yV FZ Gn
theorem sw{f:FuncId}{fn:Func}{p rest:Code}{id t1:Nat}{o1 od:Oper}{rs:List ResultVar}{args:List DV}{S:St}{K:DV→St→Prop}{cl:FuncId}{caps:List Nat}
 (hf:P.funcs[f]? =some fn) (hb:fn.body=some (.seq p (.seq (.region id #[o1,od] false) rest))) (hrs:fn.results=rs.toArray)
 (ho1:o1.op= .makeFunc (.func cl) #[] (caps.map .tmp).toArray∧o1.dst=some t1∧o1.guard=none) (hod:od.op= .defer {callee:= .value (.tmp t1),args:= #[],argTypes:= #[]}∧od.dst=none∧od.guard=none)
 (hcl:okF P cl=true) (hk1:tN [] p=true) (ht1:(rs.map lJ).contains t1=false∧t1<fn.ntmps∧args.length≤t1)
 (hp:vw P w0 [] p (dE (args++List.replicate (fn.ntmps-args.length) ud)) S fun e fr S1=>e= .normal∧∃bs:List Value,caps.map (fun t=>fr.getD t ud)=bs.map .v∧∃pq:DV→St→Prop,
  P2 (rs.map lJ) P ⟨w0.w,w0.gh,pq⟩ rest (fr.set t1 (.v (.func (.func cl) #[] bs.toArray))) S1 (fun e _ S2=>(e= .normal∨e= .ret)∧mV P fr S2 rs fun d=>K d S2)∧
  Idle P cl bs∧TZ P w0 cl bs pq fun S2=>mV P fr S2 rs fun d=>K d S2):ab P w0 f args S K:=by
 intro g vs w h1 h2;refine Calls.mono (R:=Ends w0 (g.aF []) K) ?_ fun e w'=>Ends.aF h1.below.fx;have h1:=h1.aF (w0':=w0) [] rfl h1.below.fx;have h2:af (g.aF []) args vs.toList:=h2.aF;generalize hg:g.aF []=g0 at h1 h2 ⊢;have hgd:g0.nf=[]:=by rw[←hg];rfl
 refine(gi (ro:=none) (n:=0)).1 (callsIn_of_wp_marks hf hb trivial ?_ rfl);have hlen:args.length=vs.size:=by simpa using h2.len
 have hR0:af g0 (args++List.replicate (fn.ntmps-args.length) ud) (vs++Array.replicate (fn.ntmps-vs.size) undef).toList:=by rw[hlen];simpa using h2.append (af.replicate g0 (fn.ntmps-vs.size))
 obtain⟨a0,ha0⟩:∃a0:Act,a0={tmps:=vs++Array.replicate (fn.ntmps-vs.size) undef,defers:=[]}:=⟨_,rfl⟩;rw[←ha0];have hR0:af g0 (args++List.replicate (fn.ntmps-args.length) ud) a0.tmps.toList:=by rw[ha0];exact hR0
 have hd0:a0.defers=[]:=by rw[ha0]
 have hz0:fn.ntmps≤a0.tmps.size:=by rw[ha0];simp;omega
 refine wpIn_seq (wpIn_mono (fQ p hk1 hp g0 a0 a0 w h1 hR0 (.nil (hd0.trans hgd.symm)) ⟨fun _ _=>rfl,rfl,rfl⟩ none (.inl rfl)) ?_);intro e a1 w1 hg1
 cases e with
 |exit n=>obtain⟨⟨_,_,_,_,_,_,_,q,_⟩,_⟩:=hg1;cases q
 |goto n=>obtain⟨⟨_,_,_,_,_,_,_,q,_⟩,_⟩:=hg1;cases q
 |ret=>obtain⟨⟨_,_,_,_,_,_,_,q,_⟩,_⟩:=hg1;cases q
 |outgrown=>obtain⟨_,_,_,_,_,_,_,q,_⟩:=hg1;cases q
 |panic ch=>
  obtain⟨⟨_,g',fr',S',k1,k2,k3,v,d,rfl,q1,q2⟩,hs⟩:=hg1;show LeavesInM (fz none) 0 P fn a1.tmps (Ends w0 g0 K) a1.defers (.panicking _) w1;rw[hs.2.1,hd0];exact .inr ⟨v,g',d,S',rfl,k1,k2,q1,q2⟩
 |normal=>
  obtain⟨⟨_,g1,fr1,S1,k1,R1,r1,_,bs,hbs,pq,hrest,hidle,hbr⟩,hs1⟩:=hg1;have hd1:a1.defers=[]:=hs1.2.1.trans hd0;have hz1:t1<a1.tmps.size:=by rw[hs1.2.2];omega
  have hev:((caps.map Operand.tmp).toArray.map a1.eval)=bs.toArray:=by
   have:caps.map (fun t=>a1.eval (.tmp t))=bs:=by
    refine acy fun i=>?_;have hi:=congrArg (·[i]?) hbs;simp only[aaE]at hi ⊢
    cases hc:caps[i]? with
    |none=>rw[hc]at hi;cases hb:bs[i]? with
     |none=>rfl
     |some x=>rw[hb]at hi;cases hi
    |some t=>
     rw[hc]at hi
     cases hb:bs[i]? with
     |none=>rw[hb]at hi;cases hi
     |some x=>
      rw[hb]at hi;simp only[abH,abg]at hi ⊢;have h:=eA r1 (.tmp t);rw[show ev fr1 (.tmp t)= .v x from hi]at h;exact ay h
   rw[←this];simp
  obtain⟨fv,hfv⟩:∃fv:Value,fv= .func (.func cl) #[] bs.toArray:=⟨_,rfl⟩;obtain⟨d,hd⟩:∃d:Deferred,d={target:= .fn (.func cl) bs.toArray,args:= #[]}:=⟨_,rfl⟩
  have hrun1:(execOp a1.eval o1).run P w1= .ok (.value fv) w1:=by
   have:∀(fn:Fn) (first cap:Array Value) (w:World),(Instr.makeFunc fn first cap).run P w= .ok (.func fn first cap) w:=fun _ _ _ _=>rfl;rw[hfv];unfold execOp;rw[ho1.1];simp only[hev];simp[this]
  have he2:(a1.put (some t1) fv).eval (.tmp t1)=fv:=by
   simp only[Act.put,Act.eval];rw[aaI,Array.getElem?_setIfInBounds_self_of_lt hz1];rfl
  have hrun2:(execOp (a1.put (some t1) fv).eval od).run P w1= .ok (.defer d) w1:=by
   unfold execOp;rw[hod.1,hd];have he3:=he2;rw[hfv]at he3;rw[hfv];simp only[resolve,he3];simp[Deferred.ofValue]
  refine wpIn_seq (wpIn_region_lit (l:=[o1,od]) ?_);unfold wpListIn;rw[if_pos (by simp[Region.wanted,ho1.2.2])];refine⟨fun _ _=>trivial,?_⟩;rw[show(fz none).round=none from rfl,Oper.semAt_none,hrun1];show wpListIn (fz none) 0 P _ _ [od] (a1.put o1.dst fv) w1;rw[ho1.2.1];unfold wpListIn;rw[if_pos (by simp[Region.wanted,hod.2.2])];refine⟨fun _ _=>trivial,?_⟩;rw[show(fz none).round=none from rfl,Oper.semAt_none,hrun2];obtain⟨a3,ha3⟩:∃a3:Act,a3={a1.put (some t1) fv with defers:=[d]}:=⟨_,rfl⟩;have hd3:a3.defers=[d]:=by rw[ha3]
  have e3:({a1.put (some t1) fv with defers:=d::(a1.put (some t1) fv).defers}:Act).put none undef=a3:=by
   rw[ha3];simp only[Act.put,hd1]
  show rest.wpIn (fz none) 0 P _ (({a1.put (some t1) fv with defers:=d::(a1.put (some t1) fv).defers}:Act).put od.dst undef) w1;rw[hod.2.1,e3];have t3:a3.tmps=(a1.put (some t1) fv).tmps:=by rw[ha3]
  have r3:af (g1.aF [d]) (fr1.set t1 (.v fv)) a3.tmps.toList:=by
   rw[t3];exact(bu r1 (some t1) (d:= .v fv) (.v _ (by rw[hfv];rfl))).aF
  rw[←hfv]at hrest;have R3:Rel ⟨w0.w,w0.gh,pq⟩ (g1.aF [d]) S1 w1:=R1.aF [d] rfl R1.below.fx
  have slots:∀a4,Same (rs.map lJ) a3 a4→results fn a4.tmps=results fn a1.tmps:=by
   intro a4 h4;refine wA hrs fun r hr=>?_;rw[h4.1 _ (abL hr),t3];simp only[Act.put]
   have:¬t1=lJ r:=by
    rintro e;have:=ht1.1;simp only[List.contains_eq_mem,decide_eq_false_iff_not]at this;exact this (e▸abL hr)
   rw[aa9,if_neg this]
  have hinv:∀w,(invoke d.target d.args).run P w= .ok (.enter cl bs.toArray) w:=by
   intro w;unfold okF at hcl;split at hcl
   ·rename_i fn' hfn';simp only[aak,abU]at hcl;obtain⟨hb,hname⟩:=hcl;have hbn:¬fn'.body=none:=by intro e;simp[e]at hb
    have hname':¬fn'.name= "runtime.NumGoroutine" :=by simpa using hname
    rw[hd];simp[invoke,callFunc,hfn',hname',hbn]
   ·cases hcl
  have fin:∀(g4:Gh) (S4:St) (w4:World) (a4:Act),Same (rs.map lJ) a3 a4→(g1.aF [d]).le g4→Rel w0 g4 S4 w4→mV P fr1 S4 rs (fun d=>K d S4)→LeavesInM (fz none) 0 P fn a4.tmps (Ends w0 g0 K) [] .returning w4:=by
   intro g4 S4 w4 a4 hs4 k4 R4 hres;obtain⟨v,dd,e1,e2,e3⟩:=DP (P:=P) R4 ((r1.aF (ds:=[d])).mono k4) hrs hres;refine⟨v,by rw[slots a4 hs4];exact e1,.inl ⟨v,g4.aF [],dd,S4,rfl,⟨fun b i u h=>k4.aY _ _ _ (k1.aY _ _ _ h),fun b i u h=>k4.acc _ _ _ (k1.acc _ _ _ h),k4.obj.trans k1.obj,hgd.symm⟩,R4.aF [] rfl R4.below.fx,e2.aF,e3⟩⟩
  refine wpIn_mono (hrest (g1.aF [d]) a3 a3 w1 R3 r3 (.nil hd3) ⟨fun _ _=>rfl,rfl,rfl⟩ none (.inl rfl)) ?_
  have norm:∀(g4:Gh) (S4:St) (w4:World) (a4:Act),Same (rs.map lJ) a3 a4→(g1.aF [d]).le g4→Rel w0 g4 S4 w4→mV P fr1 S4 rs (fun d=>K d S4)→LeavesInM (fz none) 0 P fn a4.tmps (Ends w0 g0 K) a4.defers .returning w4:=by
   intro g4 S4 w4 a4 hs4 k4 R4 hres;rw[hs4.2.1,hd3];refine⟨by simp,.inr ⟨fun h=>by simp[fz,Fence.wide]at h,.func cl,bs.toArray,cl,bs.toArray,by rw[hd],hinv w4,fun _ _=>trivial,eY (hidle w4) ?_⟩⟩;rintro e u' w' ⟨⟨r,rfl⟩,rfl,rfl⟩;exact fin g4 S4 _ a4 hs4 k4 R4 hres
  intro e a4 w4 hg
  cases e with
  |exit n=>obtain⟨⟨_,_,_,_,_,_,_,q,_⟩,_⟩:=hg;rcases q with q|q <;>cases q
  |goto n=>obtain⟨⟨_,_,_,_,_,_,_,q,_⟩,_⟩:=hg;rcases q with q|q <;>cases q
  |outgrown=>obtain⟨_,_,_,_,_,_,_,q,_⟩:=hg;rcases q with q|q <;>cases q
  |normal=>
   obtain⟨⟨_,g4,fr4,S4,k4,R4,r4,_,hres⟩,hs4⟩:=hg;exact norm g4 S4 w4 a4 hs4 k4 (R4.aF (w0':=w0) g4.nf rfl R4.below.fx) hres
  |ret=>
   obtain⟨⟨_,g4,fr4,S4,k4,R4,r4,_,hres⟩,hs4⟩:=hg;exact norm g4 S4 w4 a4 hs4 k4 (R4.aF (w0':=w0) g4.nf rfl R4.below.fx) hres
  |panic ch=>
   obtain⟨⟨_,g4,fr4,S4,k4,R4,r4,v,d',rfl,q1,q2⟩,hs4⟩:=hg;show LeavesInM (fz none) 0 P fn a4.tmps (Ends w0 g0 K) a4.defers (.panicking _) w4;rw[hs4.2.1,hd3];refine⟨by simp,.inr ⟨fun h=>by simp[fz,Fence.wide]at h,.func cl,bs.toArray,cl,bs.toArray,by rw[hd],hinv w4,fun _ _=>trivial,eY (hbr g4 S4 w4 v d' (R4.aF (w0':=w0) g4.nf rfl R4.below.fx) q1 q2) ?_⟩⟩;rintro e u' w' ⟨⟨r,rfl⟩,rfl,g5,T5,k5,R5,hres⟩;exact fin g5 T5 _ a4 hs4 (k4.trans k5) R5 hres
end
end Aml
namespace Go.Proofs.YtoepfmhnapedoaaGreatDoor
open Aml Go Rn Lat Grs
theorem ZV{P:Program}{w0:W0}{f:FuncId}{args args':List DV}{S:St}{K K':DV→St→Prop}(h:ab P w0 f args' S K')(hk:∀d S',K' d S'→∃e,Wk d e∧K e S')(ha:ej args args':=by exact ej.refl _):@AC P w0 f args S ⟨K⟩:=iL h ha hk
theorem vP{P:Program}{w0:W0}{f:FuncId}{args:List DV}{S:St}{K:DV→St→Prop}(h:(S.box.map (·.1)).Nodup→(S.acc.map (·.1)).Nodup→ab P w0 f args S K):ab P w0 f args S K:=
 fun g vs w h1 h2=>h h1.nb h1.na g vs w h1 h2
def ZY(fr:List DV)(S:St)[K:Cn (List DV→St→Prop)]:Prop:=K.k fr S
theorem C4{P:Program}{w0:W0}{c:Code}{fr:List DV}{S:St}{K:List DV→St→Prop}(h:vw P w0 [] c fr S fun e fr S1=>e= .normal∧@ZY fr S1 ⟨K⟩):vw P w0 [] c fr S fun e fr S1=>e= .normal∧K fr S1:=h
theorem wq{S T:St}{g g':MG}{M b:Nat}{c:Cf}{μ:bM}(h:MI T g' M c μ)(hF:iO S T g g')(hb:lk S.box b=none)(hg:b∉g'.bx)(v:List DV):MI ⟨Aml.up T.box b v,T.acc⟩ g' M c μ∧iO S ⟨Aml.up T.box b v,T.acc⟩ g g':=
 ⟨h.to (aar _) (fun i w q1 q2=>by show lk (Aml.up _ _ _) i=_;rw[ae (fun e=>hg (by rw[e];exact q1))];exact q2) fun _ _ _ q=>q,hF.m,fun i w q1 q2=>by show lk (Aml.up _ _ _) i=_;rw[ae (fun e=>by rw[←e,hb]at q2;cases q2)];exact hF.box i w q1 q2,hF.acc,hF.nb,hF.na⟩
theorem Yv{w0:W0}{S:St}{g:MG}{N:Nat}{c:Cf}{μ:bM}{o:aV}{full:Bool}(hgO:qZ w0)(hgC:nE w0)(hI:MI S g N c μ)(hM:ij N c μ)(hgr:c.gr.length≤1048576)(hN:N≤10000):
 ab Tryz.prog w0 12 [bC g.m,uB o,dB full] S (fun d S'=>Wk d (uM (iy fw c μ o full).1)∧∃g',MI S' g' (N+1) c (iy fw c μ o full).2∧iO S S' g g'):=by
 have hmd:=hI.md;have hlen:=hI.len;refine vP fun nb na=>?_;refine sw (P:=Tryz.prog) (fn:=Tryz.f12) (cl:=32) (caps:=[6]) (t1:=8) Tryz.func12 rfl rfl ⟨rfl,rfl,rfl⟩ ⟨rfl,rfl,rfl⟩ (by kernel_rfl) (by kernel_rfl) ⟨rfl,by rw[Tryz.ntmps12];decide,by simp⟩ ?_;refine C4 ?_;simp(maxDischargeDepth:=12) (maxSteps:=1000000) -implicitDefEqProofs only[go_sem,Nat.reduceAdd,Nat.reduceSub,Nat.reduceMul,Nat.reduceLeDiff,Nat.reduceEqDiff,Nat.reduceGT,Nat.reduceBEq,reduceCtorEq,↓reduceIte,Int.reduceToNat,Int.reduceLE,Int.reduceLT,Int.reduceNe,Int.reduceEq,Tryz.ntmps12];intro b4 b6;have n1:=an b6 b4.n (by simp(maxDischargeDepth:=12) (maxSteps:=1000000) -implicitDefEqProofs only[go_sem,Nat.reduceAdd,Nat.reduceSub,Nat.reduceMul,Nat.reduceLeDiff,Nat.reduceEqDiff,Nat.reduceGT,Nat.reduceBEq,reduceCtorEq,↓reduceIte,Int.reduceToNat,Int.reduceLE,Int.reduceLT,Int.reduceNe,Int.reduceEq]);have hm4:(b4.n=g.m)=False:=eq_false fun e=>by have:=ao b4;rw[e,hmd]at this;cases this
 have hm6:(b6.n=g.m)=False:=an b6 g.m (by simp(maxDischargeDepth:=12) (maxSteps:=1000000) -implicitDefEqProofs only[go_sem,Nat.reduceAdd,Nat.reduceSub,Nat.reduceMul,Nat.reduceLeDiff,Nat.reduceEqDiff,Nat.reduceGT,Nat.reduceBEq,reduceCtorEq,↓reduceIte,Int.reduceToNat,Int.reduceLE,Int.reduceLT,Int.reduceNe,Int.reduceEq,hm4,hmd]);have h4l:b4.n∉g.bx:=fun q=>hI.ny q (ao b4)
 have h6S:lk S.box b6.n=none:=by
  have q:=ao b6;simp only[lk]at q;rw[if_neg (fun e=>by rw[←n1];exact e.symm)]at q;exact q
 have h6l:b6.n∉g.bx:=fun q=>hI.ny q h6S;obtain⟨X,hX⟩:∃X:St,X=⟨(b6.n,[dI 0,dI 0,.sl 0 true [],dI 0,dI 0,dI 0,dI 0,.sl 0 true []])::(b4.n,[dI o.kind,dI o.level,dI o.az,dI o.snap,dS (tx o.bucket),dS (tx o.key),dS (tx o.value),dI o.label,dI o.cz,dI o.n,.sl 1 false (aA o.cC)])::S.box,S.acc⟩:=⟨_,rfl⟩;have hHX:Has S X:=by rw[hX];exact⟨fun b x q=>ai (ao b6) (ai (ao b4) q),fun _ _ q=>q⟩
 have x4:lk X.box b4.n=some [dI o.kind,dI o.level,dI o.az,dI o.snap,dS (tx o.bucket),dS (tx o.key),dS (tx o.value),dI o.label,dI o.cz,dI o.n,.sl 1 false (aA o.cC)]:=by rw[hX];simp(maxDischargeDepth:=12) (maxSteps:=1000000) -implicitDefEqProofs only[go_sem,Nat.reduceAdd,Nat.reduceSub,Nat.reduceMul,Nat.reduceLeDiff,Nat.reduceEqDiff,Nat.reduceGT,Nat.reduceBEq,reduceCtorEq,↓reduceIte,Int.reduceToNat,Int.reduceLE,Int.reduceLT,Int.reduceNe,Int.reduceEq,n1]
 have x6:lk X.box b6.n=some [dI 0,dI 0,.sl 0 true [],dI 0,dI 0,dI 0,dI 0,.sl 0 true []]:=by rw[hX];simp(maxDischargeDepth:=12) (maxSteps:=1000000) -implicitDefEqProofs only[go_sem,Nat.reduceAdd,Nat.reduceSub,Nat.reduceMul,Nat.reduceLeDiff,Nat.reduceEqDiff,Nat.reduceGT,Nat.reduceBEq,reduceCtorEq,↓reduceIte,Int.reduceToNat,Int.reduceLE,Int.reduceLT,Int.reduceNe,Int.reduceEq]
 have hIX:=hI.has hHX;have xm:=hIX.md
 have hXn:(X.box.map (·.1)).Nodup:=by
  rw[hX];refine aaV.2 ⟨fun hm=>?_,aaV.2 ⟨fun hm=>?_,nb⟩⟩
  ·obtain⟨p,hp,e⟩:=aaT.1 hm;exact Y.oG b6.h p hp e
  ·obtain⟨p,hp,e⟩:=aaT.1 hm;exact Y.oG b4.h p hp e
 have hXa:(X.acc.map (·.1)).Nodup:=by rw[hX];exact na
 obtain⟨pq,hpq⟩:∃pq:DV→St→Prop,pq=fun d T=>∃e,iy fw c μ o full=(dP e,μ)∧d= .jM 33 (dI e)∧∃g',MI T g' (N+1) c μ∧iO X T g g':=⟨_,rfl⟩;have hpan:∀e,iy fw c μ o full=(dP e,μ)→∀T g',MI T g' (N+1) c μ→iO X T g g'→pq (.jM 33 (dI e)) T:=fun e h1 T g' h2 h3=>by rw[hpq];exact⟨e,h1,rfl,g',h2,h3⟩
 have h6g:∀{T:St} {g':MG},iO X T g g'→b6.n∉g'.bx:=fun hF q=>(hF.nb _ q).elim h6l fun e=>by rw[x6]at e;cases e
 subst hX;refine⟨[.pointer (some ⟨b6.n,0,none⟩)],rfl,pq,?_,?_,?_⟩
 ·refine gp (ss:=[3,6,10,11,12]) _ (by kernel_rfl) ?_;simp(maxDischargeDepth:=12) (maxSteps:=1000000) -implicitDefEqProofs only[go_sem,Nat.reduceAdd,Nat.reduceSub,Nat.reduceMul,Nat.reduceLeDiff,Nat.reduceEqDiff,Nat.reduceGT,Nat.reduceBEq,reduceCtorEq,↓reduceIte,Int.reduceToNat,Int.reduceLE,Int.reduceLT,Int.reduceNe,Int.reduceEq];refine aw (aI _ true 1 _ fun h=>by cases h) ?_;rintro _ _ ⟨_,rfl,rfl⟩;simp(maxDischargeDepth:=12) (maxSteps:=1000000) -implicitDefEqProofs only[go_sem,Nat.reduceAdd,Nat.reduceSub,Nat.reduceMul,Nat.reduceLeDiff,Nat.reduceEqDiff,Nat.reduceGT,Nat.reduceBEq,reduceCtorEq,↓reduceIte,Int.reduceToNat,Int.reduceLE,Int.reduceLT,Int.reduceNe,Int.reduceEq];refine Y.yO [] [7] [0,1,2,3,4,5,6,7] mx (by kernel_rfl) ?_;simp(maxDischargeDepth:=12) (maxSteps:=1000000) -implicitDefEqProofs only[go_sem,Nat.reduceAdd,Nat.reduceSub,Nat.reduceMul,Nat.reduceLeDiff,Nat.reduceEqDiff,Nat.reduceGT,Nat.reduceBEq,reduceCtorEq,↓reduceIte,Int.reduceToNat,Int.reduceLE,Int.reduceLT,Int.reduceNe,Int.reduceEq,n1,hmd,hm4,hm6,hlen];refine Y.nS (fun T hT=>Sj ⟨w0.w,w0.gh,pq⟩ hgO (μ.l.length:Int) o T) ?_
  cases hck:r6 (μ.l.length:Int) o with
  |false=>
   simp(maxDischargeDepth:=12) (maxSteps:=1000000) -implicitDefEqProofs only[go_sem,Nat.reduceAdd,Nat.reduceSub,Nat.reduceMul,Nat.reduceLeDiff,Nat.reduceEqDiff,Nat.reduceGT,Nat.reduceBEq,reduceCtorEq,↓reduceIte,Int.reduceToNat,Int.reduceLE,Int.reduceLT,Int.reduceNe,Int.reduceEq];refine aw (aI _ false 40 _ fun _ T hT=>?_) ?_
   ·exact hpan 40 (by unfold iy;rw[if_pos hck]) T g ((hIX.has hT).le (abp N)) (.has hT)
   rintro _ _ ⟨q,_⟩;cases q
  |true=>
  have hck':(0≤o.kind∧o.kind<17)∧(o.kind=16∨(0≤o.level∧o.level<(μ.l.length:Int))):=of_decide_eq_true hck;simp(maxDischargeDepth:=12) (maxSteps:=1000000) -implicitDefEqProofs only[go_sem,Nat.reduceAdd,Nat.reduceSub,Nat.reduceMul,Nat.reduceLeDiff,Nat.reduceEqDiff,Nat.reduceGT,Nat.reduceBEq,reduceCtorEq,↓reduceIte,Int.reduceToNat,Int.reduceLE,Int.reduceLT,Int.reduceNe,Int.reduceEq];refine aw (aI _ true 40 _ fun h=>by cases h) ?_;rintro _ _ ⟨_,rfl,rfl⟩;by_cases hk0:o.kind=0
  ·have e0:(o.kind=0)=True:=eq_true hk0;have hd0:iy fw c μ o full=(Fk (oB μ.r o.level).2,⟨μ.l,(oB μ.r o.level).1,μ.sn⟩):=by unfold iy;rw[if_neg (by rw[hck];simp),if_pos hk0]
   simp(maxDischargeDepth:=12) (maxSteps:=1000000) -implicitDefEqProofs only[go_sem,Nat.reduceAdd,Nat.reduceSub,Nat.reduceMul,Nat.reduceLeDiff,Nat.reduceEqDiff,Nat.reduceGT,Nat.reduceBEq,reduceCtorEq,↓reduceIte,Int.reduceToNat,Int.reduceLE,Int.reduceLT,Int.reduceNe,Int.reduceEq,n1,e0];refine Y.yO [] [6,8] [0,1,2,4,3,5,6,7,8] mx (by kernel_rfl) ?_;simp(maxDischargeDepth:=12) (maxSteps:=1000000) -implicitDefEqProofs only[go_sem,Nat.reduceAdd,Nat.reduceSub,Nat.reduceMul,Nat.reduceLeDiff,Nat.reduceEqDiff,Nat.reduceGT,Nat.reduceBEq,reduceCtorEq,↓reduceIte,Int.reduceToNat,Int.reduceLE,Int.reduceLT,Int.reduceNe,Int.reduceEq,n1,hmd,hm4,hm6];refine aw (Xa _ hIX.tb (by have:=hM.r;omega) o.level) ?_;rintro _ T ⟨rfl,θ',hT,hF⟩;obtain⟨own',k1,k2,_,_⟩:=hIX.UE (abp N) hT hF;have t6:lk T.box b6.n=some [dI 0,dI 0,.sl 0 true [],dI 0,dI 0,dI 0,dI 0,.sl 0 true []]:=k2.box _ _ h6l x6;simp(maxDischargeDepth:=12) (maxSteps:=1000000) -implicitDefEqProofs only[go_sem,Nat.reduceAdd,Nat.reduceSub,Nat.reduceMul,Nat.reduceLeDiff,Nat.reduceEqDiff,Nat.reduceGT,Nat.reduceBEq,reduceCtorEq,↓reduceIte,Int.reduceToNat,Int.reduceLE,Int.reduceLT,Int.reduceNe,Int.reduceEq,t6];obtain⟨j1,j2⟩:=wq k1 ((iO.has hHX).trans k2) h6S (h6g k2) [dI 0,dI (oB μ.r o.level).2,.sl 0 true [],dI 0,dI 0,dI 0,dI 0,.sl 0 true []];rw[hd0];exact⟨.agg ⟨.refl _,.refl _,.nil _ _ _,.refl _,.refl _,.refl _,.refl _,.nil _ _ _,trivial⟩,_,j1,j2⟩
  have e0:(o.kind=0)=False:=eq_false hk0;by_cases hk16:o.kind=16
  ·have e16:(o.kind=16)=True:=eq_true hk16;have hd16:iy fw c μ o full=(dP 0,bT μ o full):=by unfold iy;rw[if_neg (by rw[hck];simp),if_neg hk0,if_pos hk16]
   simp(maxDischargeDepth:=12) (maxSteps:=1000000) -implicitDefEqProofs only[go_sem,Nat.reduceAdd,Nat.reduceSub,Nat.reduceMul,Nat.reduceLeDiff,Nat.reduceEqDiff,Nat.reduceGT,Nat.reduceBEq,reduceCtorEq,↓reduceIte,Int.reduceToNat,Int.reduceLE,Int.reduceLT,Int.reduceNe,Int.reduceEq,n1,e0,e16];refine aw (Uf hIX hM hN) ?_;rintro _ T ⟨g',k1,k2⟩;have t6:lk T.box b6.n=some [dI 0,dI 0,.sl 0 true [],dI 0,dI 0,dI 0,dI 0,.sl 0 true []]:=k2.box _ _ h6l x6;simp(maxDischargeDepth:=12) (maxSteps:=1000000) -implicitDefEqProofs only[go_sem,Nat.reduceAdd,Nat.reduceSub,Nat.reduceMul,Nat.reduceLeDiff,Nat.reduceEqDiff,Nat.reduceGT,Nat.reduceBEq,reduceCtorEq,↓reduceIte,Int.reduceToNat,Int.reduceLE,Int.reduceLT,Int.reduceNe,Int.reduceEq,t6];obtain⟨j1,j2⟩:=wq k1 ((iO.has hHX).trans k2) h6S (h6g k2) [dI 0,dI 0,.sl 0 true [],dI 0,dI 0,dI 0,dI 0,.sl 0 true []];rw[hd16];exact⟨.agg ⟨.refl _,.refl _,.nil _ _ _,.refl _,.refl _,.refl _,.refl _,.nil _ _ _,trivial⟩,_,j1,j2⟩
  have e16:(o.kind=16)=False:=eq_false hk16;have hlv:0≤o.level∧o.level<(μ.l.length:Int):=hck'.2.resolve_left hk16;have hxo:g.ls[o.level.toNat]? =some (g.ls[o.level.toNat]'(by omega)):=aac _;generalize g.ls[o.level.toNat]'(by omega)=own at hxo;simp(maxDischargeDepth:=12) (maxSteps:=1000000) -implicitDefEqProofs only[go_sem,Nat.reduceAdd,Nat.reduceSub,Nat.reduceMul,Nat.reduceLeDiff,Nat.reduceEqDiff,Nat.reduceGT,Nat.reduceBEq,reduceCtorEq,↓reduceIte,Int.reduceToNat,Int.reduceLE,Int.reduceLT,Int.reduceNe,Int.reduceEq,n1,e0,e16];refine Y.yO [12] [] [0,2,3,4,5,7,1,6,8,9,10,11,12,13] mx (by kernel_rfl) ?_;simp(maxDischargeDepth:=12) (maxSteps:=1000000) -implicitDefEqProofs only[go_sem,Nat.reduceAdd,Nat.reduceSub,Nat.reduceMul,Nat.reduceLeDiff,Nat.reduceEqDiff,Nat.reduceGT,Nat.reduceBEq,reduceCtorEq,↓reduceIte,Int.reduceToNat,Int.reduceLE,Int.reduceLT,Int.reduceNe,Int.reduceEq,n1,hmd,hm4,hm6,hxo];refine⟨hlv.1,by omega,fun bw=>?_⟩;have m4:=an bw b4.n (by simp(maxDischargeDepth:=12) (maxSteps:=1000000) -implicitDefEqProofs only[go_sem,Nat.reduceAdd,Nat.reduceSub,Nat.reduceMul,Nat.reduceLeDiff,Nat.reduceEqDiff,Nat.reduceGT,Nat.reduceBEq,reduceCtorEq,↓reduceIte,Int.reduceToNat,Int.reduceLE,Int.reduceLT,Int.reduceNe,Int.reduceEq,n1]);have m6:=an bw b6.n (by simp(maxDischargeDepth:=12) (maxSteps:=1000000) -implicitDefEqProofs only[go_sem,Nat.reduceAdd,Nat.reduceSub,Nat.reduceMul,Nat.reduceLeDiff,Nat.reduceEqDiff,Nat.reduceGT,Nat.reduceBEq,reduceCtorEq,↓reduceIte,Int.reduceToNat,Int.reduceLE,Int.reduceLT,Int.reduceNe,Int.reduceEq]);have mm:=an bw g.m (by simp(maxDischargeDepth:=12) (maxSteps:=1000000) -implicitDefEqProofs only[go_sem,Nat.reduceAdd,Nat.reduceSub,Nat.reduceMul,Nat.reduceLeDiff,Nat.reduceEqDiff,Nat.reduceGT,Nat.reduceBEq,reduceCtorEq,↓reduceIte,Int.reduceToNat,Int.reduceLE,Int.reduceLT,Int.reduceNe,Int.reduceEq,hmd,hm4,hm6])
  have hbwS:lk S.box bw.n=none:=by
   have q:=ao bw;simp only[lk]at q;rw[if_neg (fun e=>by rw[←m6];exact e.symm),if_neg (fun e=>by rw[←m4];exact e.symm)]at q;exact q
  have hbwl:bw.n∉g.bx:=fun q=>hI.ny q hbwS;refine Y.yO [] [7] [0,1,2,4,3,5,6,7] mx (by kernel_rfl) ?_;simp(maxDischargeDepth:=12) (maxSteps:=1000000) -implicitDefEqProofs only[go_sem,Nat.reduceAdd,Nat.reduceSub,Nat.reduceMul,Nat.reduceLeDiff,Nat.reduceEqDiff,Nat.reduceGT,Nat.reduceBEq,reduceCtorEq,↓reduceIte,Int.reduceToNat,Int.reduceLE,Int.reduceLT,Int.reduceNe,Int.reduceEq,n1,hmd,hm4,hm6,m4,m6,mm];obtain⟨X2,hX2⟩:∃X2:St,X2=⟨(bw.n,uD g.m own o full)::(b6.n,[dI 0,dI 0,.sl 0 true [],dI 0,dI 0,dI 0,dI 0,.sl 0 true []])::(b4.n,[dI o.kind,dI o.level,dI o.az,dI o.snap,dS (tx o.bucket),dS (tx o.key),dS (tx o.value),dI o.label,dI o.cz,dI o.n,.sl 1 false (aA o.cC)])::S.box,S.acc⟩:=⟨_,rfl⟩;have hXX2:Has ⟨(b6.n,[dI 0,dI 0,.sl 0 true [],dI 0,dI 0,dI 0,dI 0,.sl 0 true []])::(b4.n,[dI o.kind,dI o.level,dI o.az,dI o.snap,dS (tx o.bucket),dS (tx o.key),dS (tx o.value),dI o.label,dI o.cz,dI o.n,.sl 1 false (aA o.cC)])::S.box,S.acc⟩ X2:=by rw[hX2];exact⟨fun b x q=>ai (ao bw) q,fun _ _ q=>q⟩
  have y4:lk X2.box b4.n=some [dI o.kind,dI o.level,dI o.az,dI o.snap,dS (tx o.bucket),dS (tx o.key),dS (tx o.value),dI o.label,dI o.cz,dI o.n,.sl 1 false (aA o.cC)]:=hXX2.box _ _ x4;have y6:lk X2.box b6.n=some [dI 0,dI 0,.sl 0 true [],dI 0,dI 0,dI 0,dI 0,.sl 0 true []]:=hXX2.box _ _ x6;have yw:lk X2.box bw.n=some (uD g.m own o full):=by rw[hX2];simp[lk]
  have hI2:=hIX.has hXX2;subst hX2;refine Y.nS (fun T hT=>fL _ (hT.box _ _ yw)) ?_;simp(maxDischargeDepth:=12) (maxSteps:=1000000) -implicitDefEqProofs only[go_sem,Nat.reduceAdd,Nat.reduceSub,Nat.reduceMul,Nat.reduceLeDiff,Nat.reduceEqDiff,Nat.reduceGT,Nat.reduceBEq,reduceCtorEq,↓reduceIte,Int.reduceToNat,Int.reduceLE,Int.reduceLT,Int.reduceNe,Int.reduceEq,n1,hmd,hm4,hm6,m4,m6,mm];refine Y.nS (fun T hT=>YH _ (hI2.has hT).tb o.level o.az) ?_;by_cases hopen:dm μ.r o.level o.az<μ.r.length
  case neg=>
   rw[decide_eq_false hopen];simp(maxDischargeDepth:=12) (maxSteps:=1000000) -implicitDefEqProofs only[go_sem,Nat.reduceAdd,Nat.reduceSub,Nat.reduceMul,Nat.reduceLeDiff,Nat.reduceEqDiff,Nat.reduceGT,Nat.reduceBEq,reduceCtorEq,↓reduceIte,Int.reduceToNat,Int.reduceLE,Int.reduceLT,Int.reduceNe,Int.reduceEq];refine aw (aI _ false 30 _ fun _ T hT=>?_) ?_
   ·exact hpan 30 (by unfold iy;rw[if_neg (by rw[hck];simp),if_neg hk0,if_neg hk16,if_pos hopen]) T g ((hI2.has hT).le (abp N)) ((iO.has hXX2).trans (.has hT))
   rintro _ _ ⟨q,_⟩;cases q
  rw[decide_eq_true hopen];simp(maxDischargeDepth:=12) (maxSteps:=1000000) -implicitDefEqProofs only[go_sem,Nat.reduceAdd,Nat.reduceSub,Nat.reduceMul,Nat.reduceLeDiff,Nat.reduceEqDiff,Nat.reduceGT,Nat.reduceBEq,reduceCtorEq,↓reduceIte,Int.reduceToNat,Int.reduceLE,Int.reduceLT,Int.reduceNe,Int.reduceEq];refine aw (aI _ true 30 _ fun h=>by cases h) ?_;rintro _ _ ⟨_,rfl,rfl⟩;have hdm:iy fw c μ o full=iV μ (cr fw c μ o full):=by unfold iy;rw[if_neg (by rw[hck];simp),if_neg hk0,if_neg hk16,if_neg (fun q=>q hopen)]
  have hses:o.az≠0:=by
   obtain⟨s,hs,_⟩:=nI hopen;have:=(hI.tb.ok.le hs).1;rw[(eE hs).2.1]at this;omega
  have hwk:oL ⟨(bw.n,uD g.m own o full)::(b6.n,[dI 0,dI 0,.sl 0 true [],dI 0,dI 0,dI 0,dI 0,.sl 0 true []])::(b4.n,[dI o.kind,dI o.level,dI o.az,dI o.snap,dS (tx o.bucket),dS (tx o.key),dS (tx o.value),dI o.label,dI o.cz,dI o.n,.sl 1 false (aA o.cC)])::S.box,S.acc⟩ g bw.n own o full:=⟨yw,hxo,hlv.1,hbwl,hses⟩;simp(maxDischargeDepth:=12) (maxSteps:=1000000) -implicitDefEqProofs only[go_sem,Nat.reduceAdd,Nat.reduceSub,Nat.reduceMul,Nat.reduceLeDiff,Nat.reduceEqDiff,Nat.reduceGT,Nat.reduceBEq,reduceCtorEq,↓reduceIte,Int.reduceToNat,Int.reduceLE,Int.reduceLT,Int.reduceNe,Int.reduceEq];refine Y.yO [0] [3,5,6] [1,4,2,0,3,5,6] mx (by kernel_rfl) ?_;simp(maxDischargeDepth:=12) (maxSteps:=1000000) -implicitDefEqProofs only[go_sem,Nat.reduceAdd,Nat.reduceSub,Nat.reduceMul,Nat.reduceLeDiff,Nat.reduceEqDiff,Nat.reduceGT,Nat.reduceBEq,reduceCtorEq,↓reduceIte,Int.reduceToNat,Int.reduceLE,Int.reduceLT,Int.reduceNe,Int.reduceEq,m4,n1];refine aw (RI _ _) ?_;rintro _ _ ⟨l,es,cl,rfl,rfl,hget⟩;have hgk:=hget o.kind (by omega) (by omega);have hokf:=Kz (k:=o.kind) (by omega) (by omega);simp(maxDischargeDepth:=12) (maxSteps:=1000000) -implicitDefEqProofs only[go_sem,Nat.reduceAdd,Nat.reduceSub,Nat.reduceMul,Nat.reduceLeDiff,Nat.reduceEqDiff,Nat.reduceGT,Nat.reduceBEq,reduceCtorEq,↓reduceIte,Int.reduceToNat,Int.reduceLE,Int.reduceLT,Int.reduceNe,Int.reduceEq,m4,n1,hgk,hokf];have hX3:Has ⟨(bw.n,uD g.m own o full)::(b6.n,[dI 0,dI 0,.sl 0 true [],dI 0,dI 0,dI 0,dI 0,.sl 0 true []])::(b4.n,[dI o.kind,dI o.level,dI o.az,dI o.snap,dS (tx o.bucket),dS (tx o.key),dS (tx o.value),dI o.label,dI o.cz,dI o.n,.sl 1 false (aA o.cC)])::S.box,S.acc⟩ ⟨(bw.n,uD g.m own o full)::(b6.n,[dI 0,dI 0,.sl 0 true [],dI 0,dI 0,dI 0,dI 0,.sl 0 true []])::(b4.n,[dI o.kind,dI o.level,dI o.az,dI o.snap,dS (tx o.bucket),dS (tx o.key),dS (tx o.value),dI o.label,dI o.cz,dI o.n,.sl 1 false (aA o.cC)])::S.box,(l.n,.xo (.mp (.int .i64) es cl))::S.acc⟩:=⟨fun _ _ q=>q,fun a x q=>ai (ao l) q⟩;refine ZV (opI (w0:=⟨w0.w,w0.gh,pq⟩) hgC (hI2.has hX3) hM hgr hN (hwk.has hX3) (by omega) (by omega) fun e he T g' k1 k2=>hpan e (by rw[hdm,he];rfl) T g' k1 (((iO.has hXX2).trans (.has hX3)).trans k2)) ?_;rintro d T ⟨r,μ',g',ho,hwd,k1,k2⟩;refine⟨uM r,hwd,?_⟩;have hFX:=((iO.has hXX2).trans (.has hX3)).trans k2;have t6:lk T.box b6.n=some [dI 0,dI 0,.sl 0 true [],dI 0,dI 0,dI 0,dI 0,.sl 0 true []]:=hFX.box _ _ h6l x6;rw[ho]at hdm;simp(maxDischargeDepth:=12) (maxSteps:=1000000) -implicitDefEqProofs only[go_sem,Nat.reduceAdd,Nat.reduceSub,Nat.reduceMul,Nat.reduceLeDiff,Nat.reduceEqDiff,Nat.reduceGT,Nat.reduceBEq,reduceCtorEq,↓reduceIte,Int.reduceToNat,Int.reduceLE,Int.reduceLT,Int.reduceNe,Int.reduceEq,t6];obtain⟨j1,j2⟩:=wq k1 ((iO.has hHX).trans hFX) h6S (h6g hFX) [dI r.e,dI r.n,.sl 3 false (r.rows.map oR),dI 0,dI 0,dI 0,dI 0,.sl 6 false (r.rz.map uA)];rw[hdm];exact⟨.refl _,g',j1,j2⟩
 ·intro w;exact eY (zR (fz none) (fun _=>trivial) rfl ⟨b6.n,0,none⟩ w) fun e u w' h=>⟨⟨_,h.1⟩,h.2.1,h.2.2⟩
 ·rintro g0 T w v d r hv hq;rw[hpq]at hq;obtain⟨e,he,rfl,g',hIT,hFT⟩:=hq;obtain⟨u,rfl,hu⟩:=kN hv;have hu:=ay hu;subst hu;have t6:lk T.box b6.n=some [dI 0,dI 0,.sl 0 true [],dI 0,dI 0,dI 0,dI 0,.sl 0 true []]:=hFT.box _ _ h6l x6;obtain⟨us,e1,hh,hru,hone,hset⟩:=r.xA (ds':=[dI e,dI 0,.sl 0 true [],dI 0,dI 0,dI 0,dI 0,.sl 0 true []]) t6;have hus:us.size=8:=by have:=hru.len;simpa using this.symm
  refine eY (DB (fz none) (fun _=>trivial) rfl b6.n e1 us e [] w hh hus) ?_;rintro e' u' w' ⟨h1,h2,h3⟩;refine⟨⟨_,h1⟩,h2,g0,⟨up T.box b6.n [dI e,dI 0,.sl 0 true [],dI 0,dI 0,dI 0,dI 0,.sl 0 true []],T.acc⟩,.refl g0,?_,?_⟩
  ·rw[h3];refine hset _ ?_ ?_
   ·exact af.cons (.v _ rfl) (af.cons (.v _ rfl) (af.cons (.nil 0 true none 0 fun _=>rfl) (af.cons (.v _ rfl) (af.cons (.v _ rfl) (af.cons (.v _ rfl) (af.cons (.v _ rfl) (af.cons (.nil 0 true none 0 fun _=>rfl) (af.nil _))))))))
   ·intro u hu;simp at hu
    repeat' first|(rcases hu with rfl|hu;rfl)|(subst hu;rfl)
  ·simp(maxDischargeDepth:=12) (maxSteps:=1000000) -implicitDefEqProofs only[go_sem,Nat.reduceAdd,Nat.reduceSub,Nat.reduceMul,Nat.reduceLeDiff,Nat.reduceEqDiff,Nat.reduceGT,Nat.reduceBEq,reduceCtorEq,↓reduceIte,Int.reduceToNat,Int.reduceLE,Int.reduceLT,Int.reduceNe,Int.reduceEq,t6];obtain⟨k1,k2⟩:=wq hIT ((iO.has hHX).trans hFT) h6S (h6g hFT) [dI e,dI 0,.sl 0 true [],dI 0,dI 0,dI 0,dI 0,.sl 0 true []];rw[he];exact⟨.agg ⟨.refl _,.refl _,.nil _ _ _,.refl _,.refl _,.refl _,.refl _,.nil _ _ _,trivial⟩,g',k1,k2⟩
theorem Ze{w0:W0}{S:St}{g:MG}{N:Nat}{c:Cf}{μ:bM}{o:aV}{full:Bool}(hgO:qZ w0)(hgC:nE w0)(hI:MI S g N c μ)(hM:ij N c μ)(hgr:c.gr.length≤1048576)(hN:N≤10000):
 ab Tryz.prog w0 12 [bC g.m,uB o,dB full] S (fun d S'=>d=uM (iy fw c μ o full).1∧∃g',MI S' g' (N+1) c (iy fw c μ o full).2∧iO S S' g g'):=
 iL (Yv hgO hgC hI hM hgr hN) (ej.refl _) fun d S' h=>⟨_,h.1,rfl,h.2⟩
end Go.Proofs.YtoepfmhnapedoaaGreatDoor
namespace Aml.Y
open Go Go.RowKit
section
variable {P:Program} {w0:W0} {S0 S1:St} {ops:Array Oper} {md:Region.Mode}
def NQ(gs ns:List Nat)(md:Region.Mode)(ops:Array Oper)(F:Array Bool→Bool):List Nat→Array Bool→Bool
 |[],listed=>F listed
 |k::ks,listed=>(Region.ready md ops listed).contains k&&Qu gs ns md ops listed k&&NQ gs ns md ops F ks (listed.setIfInBounds k true)
theorem tL{k:Nat}{listed:Array Bool}{m:Nat}(hun:listed.getD k true=false)(hcnt:∀l':List Nat,l'.Nodup→(∀k,k∈l'→listed.getD k true=false)→l'.length≤m+1):∀l':List Nat,l'.Nodup→(∀j,j∈l'→(listed.setIfInBounds k true).getD j true=false)→l'.length≤m:=by
 intro l' hn hl'
 have hks:k<listed.size:=by
  rcases abz k listed.size with h|h
  ·exact h
  ·rw[aaI,abG h]at hun;cases hun
 have hkl:k∉l':=fun hk=>by
  have:=hl' k hk;rw[aaI,aa9]at this;simp[hks]at this
 have:=hcnt (k::l') (aaV.2 ⟨hkl,hn⟩) fun m hm=>by
  rcases aaJ.1 hm with rfl|hm
  ·exact hun
  ·have:=hl' m hm;rw[getD_set_ne true (show k≠m from fun e=>hkl (e▸hm))]at this;exact this
 simp at this;omega
theorem L2(hSS:∀T,Hm S0 T→Hm S1 T){gs ns:List Nat}{K G:List DV→St→Prop}{F:Array Bool→Bool}{m:Nat}
 (hG:∀listed fr S,F listed=true→(∀l':List Nat,l'.Nodup→(∀k,k∈l'→listed.getD k true=false)→l'.length≤m)→G fr S→Ci P w0 S0 S1 gs ns md ops K m listed fr S):∀(l:List Nat) (listed:Array Bool) (fr:List DV) (S:St),
 (∀l':List Nat,l'.Nodup→(∀k,k∈l'→listed.getD k true=false)→l'.length≤l.length+m)→
 NQ gs ns md ops F l listed=true→LO P w0 S0 S1 gs ns ops G l fr S→Ci P w0 S0 S1 gs ns md ops K (l.length+m) listed fr S
 |[],listed,fr,S,hcnt,hB,h=>by
  simp only[ab8,acE]at hcnt ⊢;exact hG listed fr S hB hcnt h
 |k::l,listed,fr,S,hcnt,hB,h=>by
  simp only[NQ,aak]at hB;obtain⟨⟨hr,hf⟩,hB'⟩:=hB;have hr':k∈Region.ready md ops listed:=by simpa using hr
  have hun:=(mem_ready.1 hr').1;unfold LO at h;split at h
  ·exact h.elim
  rename_i o h0
  have hcnt':∀l':List Nat,l'.Nodup→(∀k,k∈l'→listed.getD k true=false)→l'.length≤(l.length+m)+1:=fun l' a b=>by
   have:=hcnt l' a b;simp only[aaW]at this;omega
  have e:(k::l).length+m=(l.length+m)+1:=by simp only[aaW];omega
  rw[e];refine vQ hSS h0 (l.length+m) listed fr S (vF hf) (tg h0 hf) hcnt' hr' ?_;exact dF (fun fr S h=>⟨S,.refl S,L2 hSS hG l _ fr S (tL hun hcnt') hB' h⟩) h
theorem rC{gs ns:List Nat}{K K':List DV→St→Prop}(h:∀fr S,K fr S→K' fr S):∀(l:List Nat) {fr:List DV} {S:St},LO P w0 S0 S1 gs ns ops K l fr S→LO P w0 S0 S1 gs ns ops K' l fr S
 |[],fr,S,q=>h _ _ q
 |i::is,fr,S,q=>by
  unfold LO at q ⊢;split at q
  ·exact q.elim
  ·exact dF (fun fr S q=>rC h is q) q
inductive Tr where
 |ord (l:List Nat)
 |br (pre:List Nat) (a:Nat) (ta:Tr) (b:Nat) (tb:Tr)
def Qn:Tr→Nat
 | .ord l=>l.length
 | .br pre a ta b tb=>pre.length+(Qn ta+1)
def Md(gs ns:List Nat)(ops:Array Oper):Tr→Array Bool→Bool
 | .ord l,listed=>xZ gs ns .any ops l listed
 | .br pre a ta b tb,listed=>Qn ta==Qn tb&&NQ gs ns .any ops (fun listed=>(Region.ready .any ops listed).all (fun i=>i==a||i==b)&&!(Region.ready .any ops listed).isEmpty&&Md gs ns ops ta (listed.setIfInBounds a true)&&Md gs ns ops tb (listed.setIfInBounds b true)) pre listed
def LT(P:Program)(w0:W0)(S0 S1:St)(gs ns:List Nat)(ops:Array Oper)(K:List DV→St→Prop):Tr→List DV→St→Prop
 | .ord l,fr,S=>LO P w0 S0 S1 gs ns ops K l fr S
 | .br pre a ta b tb,fr,S=>LO P w0 S0 S1 gs ns ops (fun fr S=>LO P w0 S0 S1 gs ns ops (LT P w0 S0 S1 gs ns ops K ta) [a] fr S∧LO P w0 S0 S1 gs ns ops (LT P w0 S0 S1 gs ns ops K tb) [b] fr S) pre fr S
def Qt(P:Program)(w0:W0)(S0 S1:St)(gs ns:List Nat)(ops:Array Oper)(K:List DV→St→Prop):Tr→List DV→St→Prop
 | .ord l,fr,S=>mo P w0 S0 S1 gs ns ops K l fr S
 | .br pre a ta b tb,fr,S=>mo P w0 S0 S1 gs ns ops (fun fr S=>mo P w0 S0 S1 gs ns ops (Qt P w0 S0 S1 gs ns ops K ta) [a] fr S∧mo P w0 S0 S1 gs ns ops (Qt P w0 S0 S1 gs ns ops K tb) [b] fr S) pre fr S
theorem qc{gs ns:List Nat}{K:List DV→St→Prop}(hs:∀(i:Nat) (o:Oper),ops[i]? =some o→eo o.op=true):∀(t:Tr) {fr:List DV} {S:St},Qt P w0 S0 S1 gs ns ops K t fr S→LT P w0 S0 S1 gs ns ops K t fr S
 | .ord l,fr,S,h=>cB hs l h
 | .br pre a ta b tb,fr,S,h=>rC (fun fr S h=>⟨rC (fun fr S h=>qc hs ta h) _ (cB hs _ h.1),rC (fun fr S h=>qc hs tb h) _ (cB hs _ h.2)⟩) pre (cB hs pre h)
theorem Iv(hSS:∀T,Hm S0 T→Hm S1 T){gs ns:List Nat}{K:List DV→St→Prop}:∀(t:Tr) (listed:Array Bool) (fr:List DV) (S:St),
 (∀l':List Nat,l'.Nodup→(∀k,k∈l'→listed.getD k true=false)→l'.length≤Qn t)→
 Md gs ns ops t listed=true→LT P w0 S0 S1 gs ns ops K t fr S→Ci P w0 S0 S1 gs ns .any ops K (Qn t) listed fr S
 | .ord l,listed,fr,S,hcnt,hB,h=>oQ hSS l listed fr S hcnt hB h
 | .br pre a ta b tb,listed,fr,S,hcnt,hB,h=>by
  simp only[Md,aak,beq_iff_eq]at hB;obtain⟨he,hB⟩:=hB;refine L2 hSS (m:=Qn ta+1) (fun listed fr S hF hc hG=>?_) pre listed fr S hcnt hB h;simp only[aak]at hF;obtain⟨⟨⟨hr,hne⟩,ha⟩,hb⟩:=hF;refine⟨fun h0=>(by rw[h0]at hne;cases hne),fun i hi=>?_⟩;have hik:i=a∨i=b:=by have:=aa8.1 hr i hi;simpa using this
  have hun:=(mem_ready.1 hi).1;rcases hik with rfl|rfl
  ·have hq:=hG.1;unfold LO at hq;unfold eP
   cases ho:ops[i]? with
   |none=>rw[ho]at hq;exact hq.elim
   |some o=>
    rw[ho]at hq;simp only at hq ⊢;exact dF (fun fr S h=>⟨S,.refl S,Iv hSS ta _ fr S (tL hun hc) ha h⟩) hq
  ·have hq:=hG.2;unfold LO at hq;unfold eP
   cases ho:ops[i]? with
   |none=>rw[ho]at hq;exact hq.elim
   |some o=>
    rw[ho]at hq;simp only at hq ⊢;exact dF (fun fr S h=>⟨S,.refl S,by rw[he];exact Iv hSS tb _ fr S (fun l' x y=>by have:=tL hun hc l' x y;rw[he]at this;exact this) hb h⟩) hq
def VT(l:List Oper)(gs ns:List Nat)(t:Tr):Bool:=l.all (fun o=>eo o.op)&&Md gs ns l.toArray t (Array.replicate l.length false)&&(Qn t==l.length)
theorem Rj(S0 S1:St)(gs ns:List Nat)(t:Tr){id:Nat}{l:List Oper}{fr:List DV}{S:St}{Q:Exit→List DV→St→Prop}(hm:P.follows .mixedOrders=true)(hB:VT l gs ns t=true)(hSS:∀T,Hm S0 T→Hm S1 T)
 (h:Qt P w0 S0 S1 gs ns l.toArray (fun fr S=>iu fr fun fr=>Q .normal fr S) t fr S):fV P w0 (.region id l.toArray true) fr S Q:=by
 simp only[VT,aak,beq_iff_eq]at hB
 have hs:∀(i:Nat) (o:Oper),l.toArray[i]? =some o→eo o.op=true:=fun i o ho=>by
  have:l[i]? =some o:=by simpa using ho
  exact aa8.1 hB.1.1 o (aaf this)
 have h':=qc hs t h;intro g a' w h1 h2 h3;refine cD hm fun ro=>?_;have hR:Rel w0 g S {w with drawn:=w.drawn+1}:=h1.grow (eK w)
 have hcnt:∀l':List Nat,l'.Nodup→(∀k,k∈l'→(Array.replicate l.length false).getD k true=false)→l'.length≤Qn t:=by
  intro l' hn hl
  have hsub:∀k,k∈l'→k∈List.range l.length:=fun k hk=>by
   have:=hl k hk;rw[ace];rcases abz k l.length with h|h
   ·exact h
   ·rw[aaI,abG (by simpa using h)]at this;cases this
  have:=hn.length_le_of_subset (l₂:=List.range l.length) hsub;rw[hB.2];simpa using this
 have:=Iv (P:=P) (w0:=w0) (S0:=S0) (S1:=S1) (ops:=l.toArray) (K:=fun fr S=>Q .normal fr S) hSS t (Array.replicate l.length false) fr S hcnt hB.1.2 ?_
 ·have:=gj (ro:=ro) (g0:=g) (Q:=Q) _ _ fr S g a' _ (.refl g) hR h2 (h3.cC rfl fun _ _ h _=>h) this;rw[hB.2]at this;simpa using this
 ·exact h'
end
section
variable {P:Program} {w0:W0} {S0 S1:St} {gs ns:List Nat} {ops:Array Oper} {fr:List DV} {S:St} {K:List DV→St→Prop}
theorem Xn(l:List Nat):Qt P w0 S0 S1 gs ns ops K (.ord l) fr S=mo P w0 S0 S1 gs ns ops K l fr S:=rfl
theorem Y1(pre:List Nat)(a:Nat)(ta:Tr)(b:Nat)(tb:Tr):Qt P w0 S0 S1 gs ns ops K (.br pre a ta b tb) fr S=mo P w0 S0 S1 gs ns ops (fun fr S=>mo P w0 S0 S1 gs ns ops (Qt P w0 S0 S1 gs ns ops K ta) [a] fr S∧mo P w0 S0 S1 gs ns ops (Qt P w0 S0 S1 gs ns ops K tb) [b] fr S) pre fr S:=rfl
theorem FW(B:List (Nat×List DV))(A:List (Nat×Ob)):Has ⟨B,[]⟩ ⟨B,A⟩=True:=eq_true ⟨fun b x h=>h,fun l o h=>(by cases h)⟩
end
attribute [go_sem ↓] Xn Y1
attribute [go_sem] FW
end Aml.Y
namespace Go.Proofs.YtoepfmhnapedoaaGreatDoor
open Aml Go Rn Lat Grs
theorem SI(w0:W0)(l:List (List UInt8))(S:St)(h0:l.length≤1048576):ab Tryz.prog w0 27 [.sl 1 false (aA l)] S fun d S'=>d= .sl 1 false (aA l)∧S'=S:=by
 refine eT (ab.mono (K:=fun d S'=>∃b:FN S.acc,d= .acc b.n (aA l).length∧S'=⟨S.box,(b.n,.arr 1 (aA l))::S.acc⟩) ?_ ?_)
 ·refine AX 1 (by omega) ?_;refine lO [] mx Tryz.func27 rfl rfl (by kernel_rfl) ?_;refine @aa _ (ah @Tryz.ntmps27 ?_);intro b hb;refine⟨fun h1=> .inl ⟨abF fun hn=>?_,0,rfl⟩,fun h1=>⟨by omega,by unfold maxLen;omega,fun c=> .inr ⟨c,rfl,rfl⟩⟩⟩;rw[hb hn]at h1;cases h1
 ·rintro d S' ⟨b,rfl,rfl⟩;exact @aa _ bY
theorem Tc(w0:W0)(l:List Nat)(S:St)(h0:l.length≤1048576):ab Tryz.prog w0 28 [.sl 1 false ((l.map fun x:Nat=>dU (x:Int)))] S fun d S'=>d= .sl 1 false ((l.map fun x:Nat=>dU (x:Int)))∧S'=S:=by
 refine eT (ab.mono (K:=fun d S'=>∃b:FN S.acc,d= .acc b.n ((l.map fun x:Nat=>dU (x:Int))).length∧S'=⟨S.box,(b.n,.arr 1 ((l.map fun x:Nat=>dU (x:Int))))::S.acc⟩) ?_ ?_)
 ·refine AX 1 (by omega) ?_;refine lO [] mx Tryz.func28 rfl rfl (by kernel_rfl) ?_;refine @aa _ (ah @Tryz.ntmps28 ?_);intro b hb;refine⟨fun h1=> .inl ⟨abF fun hn=>?_,0,rfl⟩,fun h1=>⟨by omega,by unfold maxLen;omega,fun c=> .inr ⟨c,rfl,rfl⟩⟩⟩;rw[hb hn]at h1;cases h1
 ·rintro d S' ⟨b,rfl,rfl⟩;exact @aa _ bY
theorem Ut(w0:W0)(l:List Int)(S:St)(h0:l.length≤1048576):ab Tryz.prog w0 29 [.sl 1 false (l.map dI)] S fun d S'=>d= .sl 1 false (l.map dI)∧S'=S:=by
 refine eT (ab.mono (K:=fun d S'=>∃b:FN S.acc,d= .acc b.n (l.map dI).length∧S'=⟨S.box,(b.n,.arr 1 (l.map dI))::S.acc⟩) ?_ ?_)
 ·refine AX 1 (by omega) ?_;refine lO [] mx Tryz.func29 rfl rfl (by kernel_rfl) ?_;refine @aa _ (ah @Tryz.ntmps29 ?_);intro b hb;refine⟨fun h1=> .inl ⟨abF fun hn=>?_,0,rfl⟩,fun h1=>⟨by omega,by unfold maxLen;omega,fun c=> .inr ⟨c,rfl,rfl⟩⟩⟩;rw[hb hn]at h1;cases h1
 ·rintro d S' ⟨b,rfl,rfl⟩;exact @aa _ bY
theorem Sy(w0:W0)(l:List G)(S:St)(h0:l.length≤1048576):ab Tryz.prog w0 30 [.sl 3 false (l.map gD)] S fun d S'=>d= .sl 3 false (l.map gD)∧S'=S:=by
 refine eT (ab.mono (K:=fun d S'=>∃b:FN S.acc,d= .acc b.n (l.map gD).length∧S'=⟨S.box,(b.n,.arr 3 (l.map gD))::S.acc⟩) ?_ ?_)
 ·refine AX 3 (by omega) ?_;refine lO [] mx Tryz.func30 rfl rfl (by kernel_rfl) ?_;refine @aa _ (ah @Tryz.ntmps30 ?_);intro b hb;refine⟨fun h1=> .inl ⟨abF fun hn=>?_,0,rfl⟩,fun h1=>⟨by omega,by unfold maxLen;omega,fun c=> .inr ⟨c,rfl,rfl⟩⟩⟩;rw[hb hn]at h1;cases h1
 ·rintro d S' ⟨b,rfl,rfl⟩;exact @aa _ bY
def uV(n:Nat):bM:=⟨List.replicate n ⟨fun _=>none,[],0,fun _=>none⟩,[],fun _ _ _=>none⟩
theorem ey{α:Type}(b:Nat)(v:α)(L:List (Nat×α)):lk ((b,v)::L) b=some v:=by simp[lk]
def NwS(S:St)(c:Cf)(T:St)(θ:fI)(sn m:Nat):Prop:=lk T.box m=some [.sl 1 false (aA c.nm),dH c.up,iH c.qu,gL c.gr,.sl 0 true [],bC θ.t,.mp sn]∧TI T θ []∧lk T.acc sn=some (.xo (.mp (.st [.i64,.i64,.i64]) [] 0))∧(∀i v,lk S.box i=some v→lk T.box i=some v)∧(∀i v,lk S.acc i=some v→lk T.acc i=some v)∧
 (∀i,i∈θ.bx→lk S.box i=none)∧(∀i,i∈θ.ax→lk S.acc i=none)∧lk S.box m=none∧lk S.acc sn=none∧m∉θ.bx∧sn∉θ.ax
structure NwL(T:St)(c:Cf)(θ:fI)(sn m lr:Nat)(i:Nat)(B:List (Nat×List DV))(A:List (Nat×Ob))(ls:List Nat)(own:Nat→Ow):Prop where
 mb:lk B m=some [.sl 1 false (aA c.nm),dH c.up,iH c.qu,gL c.gr,.acc lr i,bC θ.t,.mp sn]
 row:lk A lr=some (.arr 1 (ls.map bC))
 len:ls.length=i
 Mq:∀j v,j≠m→lk T.box j=some v→lk B j=some v
 S7:∀j v,lk T.acc j=some v→lk A j=some v
 el:∀(x:Nat) bx,ls[x]? =some bx→lk T.box bx=none∧∃b r,lk B bx=some [.mp b,.acc r 0,dI 0,.v (.map none)]∧lk A b=some (.xo (.mp .str [] 0))∧lk A r=some (.arr 6 [])∧own b= .b x∧own r= .au x
 nd:ls.Nodup
 ow:∀j,own j≠ .no→lk T.acc j=none∧j≠lr∧lk A j≠none
theorem Vj{w0:W0}(hgT:jv w0)(hk:KU w0)(c:Cf)(hc:zu c)(S:St):
 ab Tryz.prog w0 10 [QK c] S (fun d S'=>(¬Ef c∧d= .cW [.v (.pointer none),dI 1]∧S'=S)∨(Ef c∧∃g,d= .cW [bC g.m,dI 0]∧MI S' g 0 c (uV c.up.length)∧(∀i v,lk S.box i=some v→lk S'.box i=some v)∧(∀i v,lk S.acc i=some v→lk S'.acc i=some v)∧(∀i,i∈g.bx→lk S.box i=none)∧∀i,g.own i≠ .no→lk S.acc i=none)):=by
 have h1:=hc.YL;have h2:=hc.PL;have h3:=hc.YT;have h4:=hc.XU;refine mh [4,9] mx Tryz.func10 rfl rfl (by kernel_rfl) ?_;refine @aa _ (ah @Tryz.ntmps10 ?_);intro b1;refine aq (SJ _ hgT hk c hc _) ?_;by_cases hP:Ef c
 case neg=>
  rw[kG hP];refine @aa _ (av ?_);exact⟨_,_,.refl _,.aN (.refl _),.inl ⟨hP,rfl,rfl⟩⟩
 rw[fK hP];refine @aa _ (av ?_);refine aR (SI w0 c.nm _ h1) (@aa _ (av ?_));refine aR (Tc w0 c.up _ h2) (@aa _ (av ?_));refine aR (Ut w0 c.qu _ h3) (@aa _ (av ?_));refine aR (Sy w0 c.gr _ h4) (@aa _ (av ?_));have hb1:lk ((b1.n,[.sl 1 false (aA c.nm),dH c.up,iH c.qu,gL c.gr])::S.box) b1.n=some [.sl 1 false (aA c.nm),dH c.up,iH c.qu,gL c.gr]:=by simp[lk]
 refine oN (σ:=St×fI×Nat×Nat) [4] [1,4] (fun s=>[(4,bC s.2.2.2)]) (fun s=>s.1) (fun s=>NwS ⟨(b1.n,[.sl 1 false (aA c.nm),dH c.up,iH c.qu,gL c.gr])::S.box,S.acc⟩ c s.1 s.2.1 s.2.2.1 s.2.2.2) mx (by kernel_rfl) ?_ ?_
 ·refine Y.Rj ⟨(b1.n,[.sl 1 false (aA c.nm),dH c.up,iH c.qu,gL c.gr])::S.box,S.acc⟩ ⟨[],[]⟩ [1,2,4] [] (.br [0] 1 (.ord [2,3,4,5]) 2 (.ord [1,3,4,5])) mx (by kernel_rfl) (fun T _=>Y.kQ T) ?_;refine @aa _ (av ?_);refine⟨?_,fun sn=>?_⟩
  ·refine aw (U4 w0 _) ?_;rintro _ T ⟨θ,rfl,hT,hbx,hac,hfb,hfa⟩;refine @aa _ (av ?_);refine⟨⟨hbx,hac⟩,fun sn=>?_⟩;have hsn:=ao sn;refine⟨⟨hbx,fun i v q=>ai hsn (hac i v q)⟩,fun m=>?_⟩;have hm:=ao m
   have hmS:lk ((b1.n,[.sl 1 false (aA c.nm),dH c.up,iH c.qu,gL c.gr])::S.box) m.n=none:=by
    cases hx:lk ((b1.n,[.sl 1 false (aA c.nm),dH c.up,iH c.qu,gL c.gr])::S.box) m.n with
    |none=>rfl
    |some v=>rw[hbx _ _ hx]at hm;cases hm
   have hsS:lk S.acc sn.n=none:=by
    cases hx:lk S.acc sn.n with
    |none=>rfl
    |some v=>rw[hac _ _ hx]at hsn;cases hsn
   refine⟨⟨fun i v q=>ai hm (hbx i v q),fun i v q=>ai hsn (hac i v q)⟩,(⟨(m.n,[.sl 1 false (aA c.nm),dH c.up,iH c.qu,gL c.gr,.sl 0 true [],bC θ.t,.mp sn.n])::T.box,(sn.n,.xo (.mp (.st [.i64,.i64,.i64]) [] 0))::T.acc⟩,θ,sn.n,m.n),⟨ey _ _ _,hT.mono (fun i v _ q=>ai hm q) fun i v _ q=>ai hsn q,by simp[lk],fun i v q=>ai hm (hbx i v q),fun i v q=>ai hsn (hac i v q),hfb,hfa,hmS,hsS,fun q=>hT.ny _ q hm,fun q=>hT.xn _ q hsn⟩,.refl _,.refl _⟩
  ·have hsn:=ao sn;refine aw (U4 w0 _) ?_;rintro _ T ⟨θ,rfl,hT,hbx,hac,hfb,hfa⟩;refine @aa _ (av ?_);refine⟨⟨hbx,fun i v q=>hac i v (ai hsn q)⟩,fun m=>?_⟩;have hm:=ao m
   have hmS:lk ((b1.n,[.sl 1 false (aA c.nm),dH c.up,iH c.qu,gL c.gr])::S.box) m.n=none:=by
    cases hx:lk ((b1.n,[.sl 1 false (aA c.nm),dH c.up,iH c.qu,gL c.gr])::S.box) m.n with
    |none=>rfl
    |some v=>rw[hbx _ _ hx]at hm;cases hm
   have hsT:=hac sn.n (.xo (.mp (.st [.i64,.i64,.i64]) [] 0)) (by simp[lk])
   have hfa':∀i,i∈θ.ax→lk S.acc i=none:=fun i q=>by
    have:=hfa i q
    cases hx:lk S.acc i with
    |none=>rfl
    |some v=>rw[ai hsn hx]at this;cases this
   refine⟨⟨fun i v q=>ai hm (hbx i v q),fun i v q=>hac i v (ai hsn q)⟩,(⟨(m.n,[.sl 1 false (aA c.nm),dH c.up,iH c.qu,gL c.gr,.sl 0 true [],bC θ.t,.mp sn.n])::T.box,T.acc⟩,θ,sn.n,m.n),⟨ey _ _ _,hT.mono (fun i v _ q=>ai hm q) fun i v _ q=>q,hsT,fun i v q=>ai hm (hbx i v q),fun i v q=>hac i v (ai hsn q),hfb,hfa',hmS,hsn,fun q=>hT.ny _ q hm,fun q=>by have:=hfa _ q;simp[lk]at this⟩,.refl _,.refl _⟩
 rintro⟨T,θ,sn,m⟩ hN;simp only at hN;obtain⟨hm,hT,hsn,hbx,hac,hfb,hfa,hmS,hsS,hmθ,hsθ⟩:=hN;have t1:=hbx b1.n _ hb1;refine @aa _ (cK @t1 @hm ?_);refine fh m 4 1 (by omega) (ds:=[.sl 1 false (aA c.nm),dH c.up,iH c.qu,gL c.gr,.sl 0 true [],bC θ.t,.mp sn]) hm rfl fun lr=>?_;have hlr:=ao lr;have hlrA:∀j x,lk T.acc j=some x→j≠lr.n:=fun j x h e=>by rw[e,hlr]at h;cases h
 refine fZ [8] [4,31,32] (σ:=Nat×List (Nat×List DV)×List (Nat×Ob)×List Nat×(Nat→Ow)) (fun s=>[(4,bC m),(31,dI c.up.length),(32,dI s.1)]) (fun s=>⟨s.2.1,s.2.2.1⟩) (fun s=>s.1≤c.up.length∧NwL T c θ sn m lr.n s.1 s.2.1 s.2.2.1 s.2.2.2.1 s.2.2.2.2) (fun s=>c.up.length-s.1) (0,Aml.up T.box m [.sl 1 false (aA c.nm),dH c.up,iH c.qu,gL c.gr,.acc lr.n 0,bC θ.t,.mp sn],(lr.n,.arr 1 [])::T.acc,[],fun _=> .no) mx (by kernel_rfl) ⟨⟨aa6 _,?_⟩,?_⟩ ?_
 ·exact⟨bd hm,by simp[lk],rfl,fun j v q1 q2=>by rw[ae (abx q1)];exact q2,fun j v q=>ai hlr q,fun x bx q=>by simp at q,acT,fun j q=>absurd rfl q⟩
 ·exact @aa _ bY
 ·rintro⟨i,B,A,ls,own⟩ ⟨hi,hL⟩;simp only at hi hL;have hmb:=hL.mb;have hrow:=hL.row;have hlen:=hL.len;by_cases hil:i<c.up.length
  ·have e1:IntKind.i64.wrap ((i:Int)+1)=((i+1:Nat):Int):=aJ (by omega);have hm8:maxLen=9223372036854775807:=rfl;refine @aa _ (ah @hmb ?_);refine⟨fun _=>fun bm bx=>?_,fun h=>absurd hil h⟩;have hbmA:=ao bm;have nbl:(bm.n=lr.n)=False:=eq_false fun e=>by rw[e,hrow]at hbmA;cases hbmA
   have hbxB:=ao bx;have hbxm:(bx.n=m)=False:=eq_false fun e=>by rw[e,hmb]at hbxB;cases hbxB
   have hls:(ls.map bC).length=i:=by rw[abI,hlen]
   refine @aa _ (cL @nbl @hrow @hlen ?_);refine⟨by omega,by unfold maxLen;omega,?_⟩;refine fh bx.n 1 6 (by omega) (ds:=[.mp bm.n,.sl 0 true [],dI 0,.v (.map none)]) (ey _ _ _) rfl fun r=>G0 [] mx (by kernel_rfl) ?_;have hr:=ao r;have hrA:lk ((bm.n,Ob.xo (.mp .str [] 0))::Aml.up A lr.n (.arr 1 ((ls++[bx.n]).map bC))) r.n=none:=by rw[aaZ];exact hr
   refine @aa _ (ah @e1 ?_);have hbmU:∀X:Ob,lk (Aml.up A lr.n X) bm.n=none:=fun X=>by rw[ae (fun e=>by rw[←nbl];exact e.symm)];exact hbmA
   have hbxU:∀X,lk (Aml.up B m X) bx.n=none:=fun X=>by rw[ae (fun e=>by rw[←hbxm];exact e.symm)];exact hbxB
   have hrb:bm.n≠r.n:=fun e=>by rw[←e,ey]at hrA;cases hrA
   have hrU:lk (Aml.up A lr.n (.arr 1 ((ls++[bx.n]).map bC))) r.n=none:=by
    simp only[lk]at hrA;rw[if_neg hrb]at hrA;exact hrA
   have hrA0:lk A r.n=none:=o0 hrU;have hrl:r.n≠lr.n:=fun e=>by rw[e,hrow]at hrA0;cases hrA0
   have hkeep:∀j v,j≠lr.n→lk A j=some v→lk ((r.n,Ob.arr 6 [])::(bm.n,Ob.xo (.mp .str [] 0))::Aml.up A lr.n (.arr 1 ((ls++[bx.n]).map bC))) j=some v:=fun j v q1 q2=>ai hrA (ai (hbmU _) (by rw[ae (abx q1)];exact q2));have hkeepB:∀j v,j≠m→lk B j=some v→lk ((bx.n,[DV.mp bm.n,.acc r.n 0,dI 0,.v (.map none)])::Aml.up B m [.sl 1 false (aA c.nm),dH c.up,iH c.qu,gL c.gr,.acc lr.n (i+1),bC θ.t,.mp sn]) j=some v:=fun j v q1 q2=>ai (hbxU _) (by rw[ae (abx q1)];exact q2);have hTm:∀j,lk T.box j=none→j≠m:=fun j q e=>by rw[e,hm]at q;cases q
   refine⟨(i+1,(bx.n,[.mp bm.n,.acc r.n 0,dI 0,.v (.map none)])::Aml.up B m [.sl 1 false (aA c.nm),dH c.up,iH c.qu,gL c.gr,.acc lr.n (i+1),bC θ.t,.mp sn],(r.n,.arr 6 [])::(bm.n,.xo (.mp .str [] 0))::Aml.up A lr.n (.arr 1 ((ls++[bx.n]).map bC)),ls++[bx.n],fun j=>if j=bm.n then .b i else if j=r.n then .au i else own j),⟨by simp only;omega,⟨ai (hbxU _) (bd hmb),ai hrA (ai (hbmU _) (bd hrow)),by simp[hlen],fun j v q1 q2=>hkeepB j v q1 (hL.Mq j v q1 q2),fun j v q=>hkeep j v (hlrA j v q) (hL.S7 j v q),fun x b' hx=>?_,?_,fun j q=>?_⟩⟩,by simp only;omega,rfl,by rw[aaZ];exact .refl _⟩
   ·rcases abz x ls.length with q3|q3
    ·rw[abE q3]at hx;obtain⟨z0,b,r',z1,z2,z3,z4,z5⟩:=hL.el x b' hx;have zb:=(hL.ow b (by rw[z4];simp)).2.1;have zr:=(hL.ow r' (by rw[z5];simp)).2.1;have n1:b≠bm.n:=fun e=>by rw[e,hbmA]at z2;cases z2
     have n2:b≠r.n:=fun e=>by rw[e,hrA0]at z2;cases z2
     have n3:r'≠bm.n:=fun e=>by rw[e,hbmA]at z3;cases z3
     have n4:r'≠r.n:=fun e=>by rw[e,hrA0]at z3;cases z3
     refine⟨z0,b,r',hkeepB _ _ (hTm _ z0) z1,hkeep _ _ zb z2,hkeep _ _ zr z3,?_,?_⟩
     ·simp only;rw[if_neg n1,if_neg n2];exact z4
     ·simp only;rw[if_neg n3,if_neg n4];exact z5
    ·rw[abl q3]at hx
     have hj:x-ls.length=0:=by
      cases hj:x-ls.length with
      |zero=>rfl
      |succ k=>rw[hj]at hx;simp at hx
     rw[hj]at hx;cases hx;have hxi:x=i:=by omega
     refine⟨?_,bm.n,r.n,ey _ _ _,ai hrA (ey _ _ _),ey _ _ _,?_,?_⟩
     ·cases hz:lk T.box bx.n with
      |none=>rfl
      |some v=>rw[hL.Mq bx.n v (by rw[Ne,hbxm];exact id) hz]at hbxB;cases hbxB
     ·simp only[if_true,hxi]
     ·simp only[if_true,hxi];rw[if_neg (abx hrb)]
   ·refine acV.2 ⟨hL.nd,by simp,fun a ha b' hb'=>?_⟩;rw[aau.1 hb'];rintro rfl;obtain⟨x,hx⟩:=abv.1 ha;obtain⟨_,b,r',z1,_⟩:=hL.el x _ hx;rw[hbxB]at z1;cases z1
   ·simp only at q
    have hTA:∀j,lk A j=none→lk T.acc j=none:=fun j q=>by
     cases hz:lk T.acc j with
     |none=>rfl
     |some v=>rw[hL.S7 j v hz]at q;cases q
    by_cases e1:j=bm.n
    ·rw[e1];exact⟨hTA _ hbmA,by rw[Ne,nbl];exact id,by rw[ai hrA (ey _ _ _)];simp⟩
    ·rw[if_neg e1]at q;by_cases e2:j=r.n
     ·rw[e2];exact⟨hTA _ hrA0,hrl,by rw[ey];simp⟩
     ·rw[if_neg e2]at q;obtain⟨z1,z2,z3⟩:=hL.ow j q;obtain⟨v,hv⟩:=bF z3;exact⟨z1,z2,by rw[hkeep j v z2 hv];simp⟩
  ·have hie:i=c.up.length:=by omega
   subst hie;refine @aa _ (av ?_);refine⟨fun h=>absurd h hil,fun _=>?_⟩;refine PA m 4 (xs:=ls.map bC) (ds:=[.sl 1 false (aA c.nm),dH c.up,iH c.qu,gL c.gr,.acc lr.n c.up.length,bC θ.t,.mp sn]) hmb (by rw[abI,hlen];rfl) hrow (G0 [] mx (by kernel_rfl) ?_);refine @aa _ (av ?_)
   have hE:∃own':Nat→Ow,(∀j,j∈θ.ax→own' j= .tb)∧own' sn= .sm∧(∀j,own j≠ .no→own' j=own j)∧∀j,own' j≠ .no→j∈θ.ax∨j=sn∨own j≠ .no:=by
    classical
    refine⟨fun j=>if j∈θ.ax then .tb else if j=sn then .sm else own j,fun j q=>if_pos q,by simp only;rw[if_neg hsθ];simp,fun j q=>?_,fun j q=>?_⟩
    ·have z:=(hL.ow j q).1;simp only;rw[if_neg (fun q2=>hT.xn j q2 z),if_neg (fun e=>by rw[e,hsn]at z;cases z)]
    ·simp only at q;split at q
     ·rename_i q2;exact .inl q2
     ·split at q
      ·rename_i q2;exact .inr (.inl q2)
      ·exact .inr (.inr q)
   obtain⟨own',o1,o2,o3,o4⟩:=hE;have hlrn:∀j v,lk T.acc j=some v→lk (Aml.up A lr.n (Ob.tl 1 (ls.map bC))) j=some v:=fun j v q=>by rw[ae (abx (hlrA j v q))];exact hL.S7 j v q
   have hmB:∀j v,j≠m→lk B j=some v→lk (Aml.up B m [.sl 1 false (aA c.nm),dH c.up,iH c.qu,gL c.gr,.sl 1 false (ls.map bC),bC θ.t,.mp sn]) j=some v:=fun j v q1 q2=>by rw[ae (abx q1)];exact q2
   have hlsT:∀j,j∈ls→lk T.box j=none:=fun j q=>by
    obtain⟨x,hx⟩:=abv.1 q;exact(hL.el x j hx).1
   have hSX:∀i v,lk S.box i=some v→lk ((b1.n,[DV.sl 1 false (aA c.nm),dH c.up,iH c.qu,gL c.gr])::S.box) i=some v:=fun i v q=>ai (ao b1) q
   have hST:∀i,lk T.box i=none→lk S.box i=none:=fun i q=>by
    cases hz:lk S.box i with
    |none=>rfl
    |some v=>rw[hbx i v (hSX i v hz)]at q;cases q
   have hmT:m∉ls:=fun q=>by have:=hlsT m q;rw[hm]at this;cases this
   refine⟨_,_,.refl _,.refl _,.inr ⟨hP,⟨m,ls,θ,sn,own'⟩,rfl,⟨bd hmb,hc.A8,by simp[uV,hlen],aaV.2 ⟨hmT,hL.nd⟩,fun j q1 q2=>?_,fun x bx l q1 q2=>?_,hT.mono (fun j v q1 q2=>hmB j v (fun e=>hmθ (e▸q1)) (hL.Mq j v (fun e=>hmθ (e▸q1)) q2)) (fun j v _ q2=>hlrn j v q2),o1,⟨[],0,hlrn _ _ hsn,fun lv n k=>⟨fun _=>by simp[aT],fun Fs h=>(by cases h)⟩⟩,o2,fun j q=>?_⟩,fun j v q=>?_,fun j v q=>hlrn j v (hac j v q),fun j q=>?_,fun j q=>?_⟩⟩
   ·rcases aaJ.1 q2 with q2|q2
    ·have e:j=m:=q2;exact hmθ (by rw[←e];exact q1)
    ·exact hT.ny j q1 (hlsT j q2)
   ·obtain⟨z0,b,r,z1,z2,z3,z4,z5⟩:=hL.el x bx q1
    have hl:l=⟨fun _=>none,[],0,fun _=>none⟩:=by
     simp only[uV,ab6]at q2;split at q2
     ·exact(abR q2).symm
     ·cases q2
    subst hl;have zb:=(hL.ow b (by rw[z4];simp)).2.1;have zr:=(hL.ow r (by rw[z5];simp)).2.1;refine⟨b,fun _=>none,r,.v (.map none),hmB bx _ (fun e=>hmT (e▸aaf q1)) z1,⟨⟨[],0,by show lk (Aml.up _ _ _) _=_;rw[ae (abx zb)];exact z2,aar _,fun n=>by simp[aT]⟩,fun n=>by simp,fun n i f h=>(by cases h),fun n m i h=>(by cases h),fun n i h=>(by cases h)⟩,⟨(o3 b (by rw[z4];simp)).trans z4,fun n i h=>(by cases h)⟩,.inl (by show lk (Aml.up _ _ _) _=_;rw[ae (abx zr)];exact z3),(o3 r (by rw[z5];simp)).trans z5,fun h=>absurd rfl h⟩
   ·rcases o4 j q with q2|q2|q2
    ·obtain⟨v,hv⟩:=bF (hT.xn j q2);rw[hlrn j v hv];simp
    ·rw[q2,hlrn _ _ hsn];simp
    ·exact gE (hL.ow j q2).2.2
   ·have z:=hbx j v (hSX j v q)
    have hjm:j≠m:=fun e=>by
     have:=hSX j v q;rw[e]at this;rw[show lk ((b1.n,[DV.sl 1 false (aA c.nm),dH c.up,iH c.qu,gL c.gr])::S.box) m=none from hmS]at this;cases this
    exact hmB j v hjm (hL.Mq j v hjm z)
   ·unfold MG.bx at q;rcases aaD.1 q with q2|q2
    ·rcases aaJ.1 q2 with q3|q3
     ·rw[q3]
      cases hz:lk S.box m with
      |none=>rfl
      |some v=>have:=hSX m v hz;rw[show lk ((b1.n,[DV.sl 1 false (aA c.nm),dH c.up,iH c.qu,gL c.gr])::S.box) m=none from hmS]at this;cases this
     ·exact hST j (hlsT j q3)
    ·cases hz:lk S.box j with
     |none=>rfl
     |some v=>have:=hfb j q2;rw[show lk ((b1.n,[DV.sl 1 false (aA c.nm),dH c.up,iH c.qu,gL c.gr])::S.box) j=some v from hSX j v hz]at this;cases this
   ·rcases o4 j q with q2|q2|q2
    ·exact hfa j q2
    ·rw[q2];exact hsS
    ·cases hz:lk S.acc j with
     |none=>rfl
     |some v=>have:=(hL.ow j q2).1;rw[hac j v hz]at this;cases this
def kK(r:List RH)(lv n:Int):Option (List Int×Int):=(r[dm r lv n]?).map fun s=>(s.sn,s.last)
theorem wh(r:List RH)(lv n:Int):dm r lv n<r.length↔(kK r lv n).isSome=true:=by
 unfold kK;rw[Option.isSome_map];constructor
 ·intro h;rw[aac h];rfl
 ·intro h;obtain⟨x,hx⟩:=acF.1 h;exact(aad.1 hx).1
theorem MV{r:List RH}{lv n:Int}(h:¬dm r lv n<r.length):kK r lv n=none:=by
 unfold kK;rw[aaS (by omega)];rfl
theorem Hu{r:List RH}(hr:mH r)(l lv n:Int):kK (oB r l).1 lv n=if lv=l∧n=(ic r l:Int)+1 then some ([],0)else kK r lv n:=by
 unfold kK;rw[PT hr];by_cases h:dm r lv n<r.length
 ·rw[if_pos h];have hne:¬(lv=l∧n=(ic r l:Int)+1):=fun q=>by rw[q.1,q.2,Ke hr]at h;omega
  rw[if_neg hne];show((r++_)[dm r lv n]?).map _=_;rw[abE h]
 ·rw[if_neg h];by_cases q:lv=l∧n=(ic r l:Int)+1
  ·rw[if_pos q,if_pos q];show((r++_)[r.length]?).map _=_;rw[abl (aar _),ad0];rfl
  ·rw[if_neg q,if_neg q,aaS (l:=r) (by omega)];show((r++_)[r.length+1]?).map _=_;rw[aaS (by simp)]
theorem zN{r:List RH}{l m lv n:Int}(h1:dm r l m<r.length)(h2:dm r lv n<r.length)(hne:¬(lv=l∧n=m)):dm r l m≠dm r lv n:=fun e=>by
 obtain⟨s,hs,_⟩:=nI h1;have q1:=eE hs;rw[e]at hs;have q2:=eE hs;exact hne ⟨q2.1.symm.trans q1.1,q2.2.1.symm.trans q1.2.1⟩
theorem H3{r:List RH}(hr:mH r)(l m lv n:Int):kK (oy r l m).1 lv n=if lv=l∧n=m then none else kK r lv n:=by
 by_cases h:dm r l m<r.length
 ·have hi:=PU hr h lv n;unfold kK;rw[hi];have e1:(oy r l m).1=r.set (dm r l m) ⟨l,m,[],0,true⟩:=by unfold oy;rw[if_pos h]
  by_cases q:lv=l∧n=m
  ·rw[if_pos q,if_pos q,e1,aaS (by simp)]
   try rfl
  ·rw[if_neg q,if_neg q,e1];by_cases h2:dm r lv n<r.length
   ·rw[ab5 (zN h h2 q)]
   ·rw[aaS (by simp;omega),aaS (by omega)]
 ·have e1:(oy r l m).1=r:=by unfold oy;rw[if_neg h]
  rw[e1];by_cases q:lv=l∧n=m
  ·rw[if_pos q,q.1,q.2,MV h]
  ·rw[if_neg q]
theorem KT{r:List RH}{l m:Int}{s t:RH}(hs:r[dm r l m]? =some s)(e1:t.lv=s.lv)(e2:t.n=s.n)(e3:t.gone=s.gone)(lv n:Int):kK (r.set (dm r l m) t) lv n=if lv=l∧n=m then some (t.sn,t.last)else kK r lv n:=by
 have h:=(aad.1 hs).1;unfold kK;rw[Ds hs e1 e2 e3];by_cases q:lv=l∧n=m
 ·rw[if_pos q,q.1,q.2,abZ h];rfl
 ·rw[if_neg q];by_cases h2:dm r lv n<r.length
  ·rw[ab5 (zN h h2 q)]
  ·rw[aaS (by simp;omega),aaS (by omega)]
theorem Is(r:List RH)(l m lv n:Int):kK (oz r l m).1 lv n=if lv=l∧n=m then(kK r l m).map (fun p=>(p.1++[p.2+1],p.2+1))else kK r lv n:=by
 unfold oz
 cases hs:r[dm r l m]? with
 |some s=>
  simp only;rw[KT (t:=Kc s) hs rfl rfl rfl];have e:kK r l m=some (s.sn,s.last):=by unfold kK;rw[hs];rfl
  rw[e];rfl
 |none=>
  simp only;have e:kK r l m=none:=by unfold kK;rw[hs];rfl
  by_cases q:lv=l∧n=m
  ·rw[if_pos q,q.1,q.2,e];rfl
  ·rw[if_neg q]
theorem J0(r:List RH)(l m x lv n:Int):kK (oA r l m x).1 lv n=if lv=l∧n=m then(kK r l m).map (fun p=>(pX x p.1,p.2))else kK r lv n:=by
 unfold oA
 cases hs:r[dm r l m]? with
 |some s=>
  simp only;have e:kK r l m=some (s.sn,s.last):=by unfold kK;rw[hs];rfl
  split
  ·rename_i h;have hf:pX x s.sn=s.sn:=List.filter_eq_self.2 (List.length_filter_eq_length_iff.1 h);by_cases q:lv=l∧n=m
   ·rw[if_pos q,q.1,q.2,e];simp only[abH,hf]
   ·rw[if_neg q]
  ·simp only;rw[KT (t:=⟨s.lv,s.n,pX x s.sn,s.last,s.gone⟩) hs rfl rfl rfl,e];rfl
 |none=>
  simp only;have e:kK r l m=none:=by unfold kK;rw[hs];rfl
  by_cases q:lv=l∧n=m
  ·rw[if_pos q,q.1,q.2,e];rfl
  ·rw[if_neg q]
theorem PM(r:List RH)(l m:Int):(oz r l m).2=((kK r l m).map fun p=>p.2+1).getD 0:=by
 unfold oz kK;cases r[dm r l m]? <;>rfl
theorem fa(r:List RH)(l m:Int):lL r l m=((kK r l m).map (·.1)).getD []:=by
 unfold lL kK;cases r[dm r l m]? <;>rfl
theorem Wf{r:List RH}(hr:mH r){l m:Int}{p:List Int×Int}(h:kK r l m=some p):1≤m∧(∀x,x∈p.1→1≤x∧x≤p.2):=by
 unfold kK at h;obtain⟨s,hs,rfl⟩:=aay.1 h;have h1:=(hr.le hs).1;rw[(eE hs).2.1]at h1;exact⟨h1,hr.Qk s (aaf hs)⟩
end Go.Proofs.YtoepfmhnapedoaaGreatDoor
namespace Go.Proofs.YtoepfmhnapedoaaGreatDoor
open Aml Go Rn Lat Grs
section
variable {N:Nat} {c:Cf} {μ:bM} {o:aV} {full:Bool}
theorem ij.le{M:Nat}(h:ij N c μ)(k:N≤M):ij M c μ:=⟨h.n,h.nl,by have:=h.r;omega,fun s hs=>by have:=h.la s hs;omega,h.CA,h.sp,fun l hl=>by have:=h.au l hl;omega,h.sz⟩
theorem ij.qs(h:ij N c μ)(i:Nat)(l':uy)(ha:l'.au.length≤N+1)(h1:xR l'.F)(h2:xR l'.D):ij (N+1) c ⟨μ.l.set i l',μ.r,μ.sn⟩:=by
 have h':=h.le (abp N);have hm:∀l,l∈μ.l.set i l'→l∈μ.l∨l=l':=fun l hl=>acN hl;refine⟨by simpa using h.n,by simpa using h.nl,h'.r,h'.la,h.CA,fun lv n k hk=>?_,fun l hl=>(hm l hl).elim (h'.au l) fun e=>e▸ha,fun l hl=>(hm l hl).elim (h.sz l) fun e=>e▸⟨h1,h2⟩⟩;obtain⟨Fs,q1,q2⟩:=h.sp lv n k hk;exact⟨Fs,q1,by simpa using q2⟩
theorem ij.az(h:ij N c μ){r':List RH}{sn':Int→Int→Int→Option (List eZ)}(h1:r'.length≤N+1)(h2:rK r' ((N+1:Nat):Int))(h3:mH r')(h4:∀lv n k,k∈lL r' lv n→∃Fs,sn' lv n k=some Fs∧Fs.length=μ.l.length):ij (N+1) c ⟨μ.l,r',sn'⟩:=
 ⟨h.n,h.nl,h1,h2,h3,h4,fun l hl=>by have:=h.au l hl;show _≤N+1;omega,h.sz⟩
theorem xR.none_:xR fun _=>none:=fun n f h=>by cases h
theorem xR.dG{F:eZ}(h:xR F){n:List UInt8}{f:List UInt8→Option (List UInt8)}(h1:n.length≤1000)(h2:∀k v,f k=some v→k.length≤1000∧v.length≤1000):xR (dG F n f):=fun m g hg=>by
 unfold Proofs.YtoepfmhnapedoaaGreatDoor.dG at hg;by_cases e:m=n
 ·rw[if_pos e]at hg;cases hg;exact⟨by rw[e];exact h1,h2⟩
 ·rw[if_neg e]at hg;exact h m g hg
theorem xR.mT{F:eZ}(h:xR F)(n:List UInt8):xR (mT F n):=fun m g hg=>by
 unfold Proofs.YtoepfmhnapedoaaGreatDoor.mT at hg;by_cases e:m=n
 ·rw[if_pos e]at hg;cases hg
 ·rw[if_neg e]at hg;exact h m g hg
theorem I5{x:Int}(h:0≤x∧x.toNat<μ.l.length):aE μ x∈μ.l:=by
 have hl:μ.l[x.toNat]? =some μ.l[x.toNat]:=aac h.2;rw[bB hl h.1];exact acH _
theorem mL(h:ij N c μ)(x:Int):xR (aE μ x).F∧xR (aE μ x).D∧(aE μ x).au.length≤N:=by
 by_cases hx:0≤x∧x.toNat<μ.l.length
 ·have hm:=I5 (μ:=μ) hx;exact⟨(h.sz _ hm).1,(h.sz _ hm).2,h.au _ hm⟩
 ·have e:aE μ x=⟨fun _=>none,[],0,fun _=>none⟩:=by
   unfold aE;by_cases h0:0≤x
   ·rw[if_pos h0,aaS (by omega)];rfl
   ·rw[if_neg h0];rfl
  rw[e];exact⟨xR.none_,xR.none_,aa6 _⟩
theorem GG{dg:List UInt8→Int}(P:jP→Prop)(p1:o.kind=1→P (jI μ o))(p2:o.kind=2→P (ie μ o))(p3:o.kind=3→P (eG μ o))(p4:o.kind=4→P (cJ μ o))(p5:o.kind=5→P (gY μ o full))(p6:o.kind=6→P (iq μ o full))(p7:o.kind=7→P (mE μ o full))(p8:o.kind=8→P (cP μ o full))(p9:o.kind=9→P (getM c μ o))(p10:o.kind=10→P (iZ c μ o))(p11:o.kind=11→P (nG μ o))(p12:o.kind=12→P (eJ μ o))(p13:o.kind=13→P (ia c μ o))(p14:o.kind=14→P (gy c μ o))(p15:P (fY dg c μ o full)):P (cr dg c μ o full):=by
 unfold cr;by_cases k1:o.kind=1
 ·rw[if_pos k1];exact p1 k1
 rw[if_neg k1];by_cases k2:o.kind=2
 ·rw[if_pos k2];exact p2 k2
 rw[if_neg k2];by_cases k3:o.kind=3
 ·rw[if_pos k3];exact p3 k3
 rw[if_neg k3];by_cases k4:o.kind=4
 ·rw[if_pos k4];exact p4 k4
 rw[if_neg k4];by_cases k5:o.kind=5
 ·rw[if_pos k5];exact p5 k5
 rw[if_neg k5];by_cases k6:o.kind=6
 ·rw[if_pos k6];exact p6 k6
 rw[if_neg k6];by_cases k7:o.kind=7
 ·rw[if_pos k7];exact p7 k7
 rw[if_neg k7];by_cases k8:o.kind=8
 ·rw[if_pos k8];exact p8 k8
 rw[if_neg k8];by_cases k9:o.kind=9
 ·rw[if_pos k9];exact p9 k9
 rw[if_neg k9];by_cases No:o.kind=10
 ·rw[if_pos No];exact p10 No
 rw[if_neg No];by_cases QA:o.kind=11
 ·rw[if_pos QA];exact p11 QA
 rw[if_neg QA];by_cases Nz:o.kind=12
 ·rw[if_pos Nz];exact p12 Nz
 rw[if_neg Nz];by_cases Gt:o.kind=13
 ·rw[if_pos Gt];exact p13 Gt
 rw[if_neg Gt];by_cases XY:o.kind=14
 ·rw[if_pos XY];exact p14 XY
 rw[if_neg XY];exact p15
theorem R0(h:ij N c μ){r:pr}{μ':bM}(ho:cr fw c μ o full= .inr (r,μ')):ij (N+1) c μ':=by
 obtain⟨z1,z2,z3⟩:=mL h o.level;have h':=h.le (abp N);have hN1:((N+1:Nat):Int)=(N:Int)+1:=by omega
 revert ho
 refine GG (P:=fun out=>out= .inr (r,μ')→ij (N+1) c μ') ?_ ?_ ?_ ?_ ?_ ?_ ?_ ?_ ?_ ?_ ?_ ?_ ?_ ?_ ?_
 ·intro _ ho;unfold jI at ho;cases ho;have hs:=h.qs o.level.toNat {aE μ o.level with has:=if(aE μ o.level).has=o.az then 0 else(aE μ o.level).has} (by simp only;omega) z1 z2;refine⟨hs.n,hs.nl,by rw[DS];have:=h.r;omega,?_,h.CA.cl _ _,fun lv n k hk=>?_,hs.au,hs.sz⟩
  ·rw[hN1];exact h.la.cl (by omega) _ _
  ·refine hs.sp lv n k ?_;simp only at hk ⊢;rw[fa,H3 h.CA]at hk;rw[fa];split at hk
   ·simp at hk
   ·exact hk
 ·intro _ ho;unfold ie cE at ho;simp only at ho;split at ho
  ·cases ho
  ·cases ho;exact h.qs _ _ (by simp only;omega) z1 z1
 ·intro _ ho;unfold eG cE at ho;simp only at ho;split at ho
  ·cases ho
  ·cases ho;exact h.qs _ _ (by simp only;omega) z2 z2
 ·intro _ ho;unfold cJ cE at ho;simp only at ho;split at ho
  ·cases ho
  ·cases ho;exact h.qs _ _ (by simp only;omega) z1 z2
 ·intro _ ho;unfold gY cE at ho;simp only at ho;split at ho
  ·cases ho
  ·split at ho
   ·cases ho
   ·rename_i q;have q:=abe.1 q;split at ho
    ·cases ho
    ·split at ho
     ·cases ho
     ·cases ho;exact h.qs _ _ (by simp only;omega) z1 (z2.dG (by have:=q.2;omega) fun k v e=>by cases e)
 ·intro _ ho;unfold iq cE at ho;simp only at ho;split at ho
  ·cases ho
  ·split at ho
   ·cases ho
   ·split at ho
    ·cases ho
    ·cases ho;exact h.qs _ _ (by simp only;omega) z1 (z2.mT _)
 ·intro _ ho;unfold mE cE at ho;simp only at ho;split at ho
  ·cases ho
  ·split at ho
   ·cases ho
   ·rename_i q;have q:=abe.1 q;split at ho
    ·cases ho
    ·rename_i f hf;split at ho
     ·cases ho
     ·cases ho;refine h.qs _ _ (by simp only;omega) z1 (z2.dG (z2 _ _ hf).1 fun k v e=>?_);by_cases ek:k=o.key
      ·rw[if_pos ek]at e;cases e;rw[ek];exact⟨by have:=q.1.2;omega,by have:=q.2;omega⟩
      ·rw[if_neg ek]at e;exact(z2 _ _ hf).2 k v e
 ·intro _ ho;unfold cP cE at ho;simp only at ho;split at ho
  ·cases ho
  ·split at ho
   ·cases ho
   ·rename_i f hf;split at ho
    ·cases ho
    ·split at ho
     ·cases ho
     ·cases ho;refine h.qs _ _ (by simp only;omega) z1 (z2.dG (z2 _ _ hf).1 fun k v e=>?_);unfold mT at e;by_cases ek:k=o.key
      ·rw[if_pos ek]at e;cases e
      ·rw[if_neg ek]at e;exact(z2 _ _ hf).2 k v e
 ·intro _ ho;unfold getM at ho;simp only at ho
  (repeat' split at ho) <;>cases ho
  exact h'
 ·intro _ ho;unfold iZ at ho
  (repeat' split at ho) <;>cases ho
  exact h'
 ·intro _ ho;unfold nG at ho;cases ho;refine h.az (by rw[NJ];have:=h.r;omega) ?_ (h.CA.sn _ _) fun lv n k hk=>?_
  ·rw[hN1];exact h.la.sn _ _
  ·rw[fa,Is]at hk;unfold tT;by_cases q:lv=o.level∧n=o.az
   ·rw[if_pos q]at hk
    cases hv:kK μ.r o.level o.az with
    |none=>rw[hv]at hk;simp at hk
    |some p=>
     rw[hv]at hk;simp only[abH,acL,aaD,aau]at hk;rw[PM,hv];simp only[abH,acL];by_cases hk2:k=p.2+1
     ·rw[if_pos ⟨q.1,q.2,hk2⟩];exact⟨_,rfl,by simp⟩
     ·rw[if_neg (fun r=>hk2 r.2.2)];refine h.sp lv n k ?_;rw[fa,q.1,q.2,hv];exact hk.resolve_right hk2
   ·rw[if_neg q]at hk;rw[if_neg (fun r=>q ⟨r.1,r.2.1⟩)];exact h.sp lv n k (by rw[fa];exact hk)
 ·intro _ ho;unfold eJ at ho;split at ho
  ·cases ho
  ·cases ho;refine h.az (by rw[M5];have:=h.r;omega) ?_ (h.CA.un _ _ _) fun lv n k hk=>?_
   ·rw[hN1];exact h.la.un _ _ _
   ·rw[fa,J0]at hk;unfold tT;by_cases q:lv=o.level∧n=o.az
    ·rw[if_pos q]at hk
     cases hv:kK μ.r o.level o.az with
     |none=>rw[hv]at hk;simp at hk
     |some p=>
      rw[hv]at hk;simp only[abH,acL,pX,abO,abU,decide_eq_false_iff_not]at hk;rw[if_neg (fun r=>hk.2 r.2.2)];exact h.sp lv n k (by rw[fa,q.1,q.2,hv];exact hk.1)
    ·rw[if_neg q]at hk;rw[if_neg (fun r=>q ⟨r.1,r.2.1⟩)];exact h.sp lv n k (by rw[fa];exact hk)
 ·intro _ ho;unfold ia at ho;split at ho <;>cases ho;exact h'
 ·intro _ ho;unfold gy at ho;split at ho <;>cases ho;exact h'
 ·intro ho;obtain⟨y1,y2,y3⟩:=mL h o.cz;obtain⟨x1,x2,x3⟩:=mL h o.label;unfold fY at ho;simp only at ho;split at ho
  ·cases ho
  ·split at ho
   ·cases ho
   ·split at ho
    ·cases ho
    ·rename_i f hf;split at ho
     ·cases ho
     ·rename_i v hv;split at ho
      ·cases ho
      ·rename_i gg hg;split at ho
       ·cases ho
       ·cases ho;refine h.qs _ _ (by simp only[aaK,acQ];omega) (y1.dG (y1 _ _ hg).1 fun k w e=>?_) y2;by_cases ek:k=o.key
        ·rw[if_pos ek]at e;cases e;rw[ek];exact(x1 _ _ hf).2 _ _ hv
        ·rw[if_neg ek]at e;exact(y1 _ _ hg).2 k w e
theorem A4(h:ij N c μ):ij (N+1) c (iy fw c μ o full).2:=by
 have h':=h.le (abp N);have hN1:((N+1:Nat):Int)=(N:Int)+1:=by omega
 unfold iy;split
 ·exact h'
 ·split
  ·refine h.az (by rw[DR];have:=h.r;omega) ?_ (h.CA.op _) fun lv n k hk=>?_
   ·rw[hN1];exact h.la.op (by omega) _
   ·rw[fa,Hu h.CA]at hk;split at hk
    ·simp at hk
    ·exact h.sp lv n k (by rw[fa];exact hk)
  ·split
   ·refine⟨by unfold bT;simpa using h.n,by unfold bT;simpa using h.nl,aa6 _,fun s hs=>(by cases hs),mH.nil,fun lv n k hk=>(by simp[bT,lL]at hk),fun l hl=>?_,fun l hl=>?_⟩
    ·unfold bT at hl;simp only[aaT]at hl;obtain⟨x,_,rfl⟩:=hl;have:=(mL h (x:Int)).2.2;simp only;omega
    ·unfold bT at hl;simp only[aaT]at hl;obtain⟨x,_,rfl⟩:=hl;obtain⟨a,b,_⟩:=mL h (x:Int);refine⟨?_,b⟩;simp only;split
     ·exact b
     ·exact a
   ·split
    ·exact h'
    ·unfold iV;split
     ·exact h'
     ·rename_i p hp;exact R0 (r:=p.1) (μ':=p.2) h hp
end
theorem WU{c:Cf}(hP:Ef c)(hn:c.up.length≤64):ij 0 c (uV c.up.length):=⟨by simp[uV,hn],by simp[uV],aar _,fun s hs=>(by simp[uV]at hs),mH.nil,fun lv n k hk=>(by simp[uV,lL]at hk),fun l hl=>(by
 have:=(List.mem_replicate.1 hl).2;rw[this];exact aar _),fun l hl=>by
 have:=(List.mem_replicate.1 hl).2;rw[this];exact⟨xR.none_,xR.none_⟩⟩
end Go.Proofs.YtoepfmhnapedoaaGreatDoor
namespace Go.Proofs.YtoepfmhnapedoaaGreatDoor
open Aml Go Rn Lat Grs
theorem y0{μ:bM}{x:Int}(h:¬(0≤x∧x<μ.l.length)):aE μ x=⟨fun _=>none,[],0,fun _=>none⟩:=by
 unfold aE;by_cases h0:0≤x
 ·rw[if_pos h0,aaS (by omega)];rfl
 ·rw[if_neg h0];rfl
theorem MI.X9{S:St}{g:MG}{N:Nat}{c:Cf}{μ:bM}(h:MI S g N c μ){x:Int}{b:Nat}(ha:Az g.ls x=some b):(0≤x∧x<μ.l.length)∧QW S g.own N x.toNat b (aE μ x):=by
 unfold Az at ha;split at ha
 ·rename_i h0;obtain⟨l,h1,h2⟩:=h.uQ ha;have h3:=(aad.1 h1).1;rw[bB h1 h0];exact⟨⟨h0,by omega⟩,h2⟩
 ·cases ha
theorem MI.YW{S:St}{g:MG}{N:Nat}{c:Cf}{μ:bM}(h:MI S g N c μ){x:Int}(ha:Az g.ls x=none):¬(0≤x∧x<μ.l.length):=fun q=>by
 unfold Az at ha;rw[if_pos q.1,adi]at ha;have:=h.len;omega
theorem IC(w0:W0){S:St}{g:MG}{N:Nat}{c:Cf}{μ:bM}(hI:MI S g N c μ)(x:Int):ab Tryz.prog w0 15 [bC g.m,dI x] S (fun d S'=>d=dI (aE μ x).has∧S'=S):=by
 refine bI [] mx Tryz.func15 rfl rfl (by kernel_rfl) ?_;refine @aa _ (ah @Tryz.ntmps15 ?_);refine aq (ofM w0 hI.md x) ?_
 cases ha:Az g.ls x with
 |none=>
  rw[y0 (hI.YW ha)];unfold xV;exact @aa _ bY
 |some b=>
  obtain⟨_,bb,ids,r,dr,h1,_⟩:=hI.X9 ha;unfold xV;exact @aa _ (ft @h1)
theorem zF(w0:W0){S:St}{g:MG}{N:Nat}{c:Cf}{μ:bM}(hI:MI S g N c μ)(hM:ij N c μ)(hN:N≤10000){x:Int}(hx:0≤x∧x<μ.l.length):ab Tryz.prog w0 17 [bC g.m,dI x] S (fun d S'=>d=dD (nU x (aE μ x).F)∧S'=S):=by
 cases ha:Az g.ls x with
 |none=>exact absurd hx (hI.YW ha)
 |some b=>
  obtain⟨_,bb,ids,r,dr,h1,h2,_⟩:=hI.X9 ha;refine KC w0 hI.md x ha h1 h2 hN fun n f k v q1 q2=>?_;have hz:=(mL hM x).1 n f q1;exact⟨hz.1,(hz.2 k v q2).1⟩
theorem JS(w0:W0){S:St}{g:MG}{N:Nat}{c:Cf}{μ:bM}(hI:MI S g N c μ){x:Int}(hx:¬(0≤x∧x<μ.l.length)):ab Tryz.prog w0 17 [bC g.m,dI x] S (fun d S'=>d= .sl 0 true []∧S'=S):=by
 cases ha:Az g.ls x with
 |some b=>exact absurd (hI.X9 ha).1 hx
 |none=>
  refine bI [] mx Tryz.func17 rfl rfl (by kernel_rfl) ?_;refine @aa _ (ah @Tryz.ntmps17 ?_);refine aq (ofM w0 hI.md x) ?_;rw[ha];unfold xV;exact @aa _ bY
theorem N9{es:List (Value×DV×Nat)}{α:Type}{f:List UInt8→Option α}(h:∀k,aT es (kT k)=none↔f k=none):(dp f).length≤es.length:=by
 unfold dp;split
 ·rename_i hx;rw[mI];have h1:((hx.choose).map kT).Nodup:=aX (fun x y h=>fF h) hx.choose_spec.1
  have h2:(hx.choose).map kT⊆es.map (·.1):=fun u hu=>by
   obtain⟨v,hv,rfl⟩:=aaT.1 hu;have h3:=(hx.choose_spec.2 v).1 hv;obtain⟨b,hb⟩:=abr.1 (fun q=>h3 ((h v).1 q));obtain⟨b,hm⟩:=oW hb;exact aaT.2 ⟨_,hm,rfl⟩
  have:=cu h1 h2;simpa using this
 ·simp
theorem I1{S:St}{l N:Nat}{ids:List UInt8→Option Nat}{F:eZ}(h:BM S l N ids F)(x:Int):(nU x F).length≤N*N:=by
 obtain⟨es,cl,h1,h2,h3⟩:=h.top
 have hk:∀n,n∈dp F→(jO x n ((F n).getD fun _=>none)).length≤N:=fun n hn=>by
  obtain⟨f,hf⟩:=abr.1 (sa hn);obtain⟨i,hi⟩:=bF (fun q=>by rw[(h.some_ _).1 q]at hf;cases hf);obtain⟨es,cl,g1,g2,g3⟩:=h.low _ i f hi hf;have:=HV g3;rw[hf];unfold jO;rw[abI];show(dp f).length≤N;omega
 have hn:(dp F).length≤N:=by
  have:=N9 fun k=>(by rw[←h.some_ k,h3 k];cases ids k <;>simp:aT es (kT k)=none↔F k=none);omega
 have h4:=mQ (rows:=(dp F).map fun n=>jO x n ((F n).getD fun _=>none)) (n:=N) fun r hr=>by
  obtain⟨n,q1,rfl⟩:=aaT.1 hr;exact hk n q1
 rw[abI]at h4
 have h5:(nU x F).length=(j0 ((dp F).map fun n=>jO x n ((F n).getD fun _=>none))).length:=by
  unfold nU j0;rw[List.flatMap]
 have:=ab9 N hn;omega
theorem MI.Zv{S:St}{g:MG}{N:Nat}{c:Cf}{μ:bM}(h:MI S g N c μ)(hN:N≤10000)(x:Int)(hx:0≤x∧x<μ.l.length):(nU x (aE μ x).F).length≤100000000:=by
 cases ha:Az g.ls x with
 |none=>exact absurd hx (h.YW ha)
 |some b=>
  obtain⟨_,bb,ids,r,dr,h1,h2,_⟩:=h.X9 ha;have:=I1 h2 x;have:=Nat.mul_le_mul hN hN;omega
@[go_sem] def sP (l:List Cs):DV:= .sl 6 false (l.map uA)
theorem RB(w0:W0)(l m:List Cs)(h0:l.length≤4611686018427387904)(S:St):ab Tryz.prog w0 50 [sP l,sP m] S (fun d S'=>d=dB (pB (l=m))∧S'=S):=by
 refine bI [] mx Tryz.func50 rfl rfl (by kernel_rfl) ?_;refine @aa _ (ah @Tryz.ntmps50 ?_);refine⟨fun h1 h2=>h1 (congrArg List.length h2),fun h=>?_⟩;have h:l.length=m.length:=by omega
 refine aQ [] l.length [0,1,5] (fun i=>[(5,dI i)]) (fun i=>S) (fun i=>∀j,j<i→l[j]? =m[j]?) mx (by kernel_rfl) ?_ ?_
 ·refine @aa _ (av ?_);intro j hj;omega
 ·intro i hi hinv;have e1:i<4611686018427387904→IntKind.i64.wrap ((i:Int)+1)=((i+1:Nat):Int):=fun h=>aJ (by omega);by_cases hil:i<l.length
  ·have e1:=e1 (by omega);have hx:l[i]? =some l[i]:=aac hil;have hy:m[i]? =some (m[i]'(by omega)):=aac (by omega);generalize l[i]=x at hx;generalize m[i]'(by omega)=y at hy;refine @aa _ (cL @hx @hy @e1 ?_);refine⟨fun _=>⟨hil,by omega,fun he=>⟨hil,fun j hj=>?_⟩,fun hne e=>?_⟩,fun h=>absurd hil h⟩
   ·by_cases e:j=i
    ·subst e;simp only[aak,decide_eq_true_eq]at he;rw[hx,hy];cases x;cases y;simp at he;simp[he]
    ·exact hinv j (by omega)
   ·rw[e,hy]at hx;have:=abR hx;subst this;simp at hne
  ·refine @aa _ (av ?_);refine⟨fun h=>absurd h hil,fun _=>?_⟩;refine acy fun j=>?_;by_cases hj:j<l.length
   ·exact hinv j (by omega)
   ·rw[aaS (by omega),aaS (by omega)]
theorem N7{a b:pr}:a=b↔a.e=b.e∧a.n=b.n∧a.rows=b.rows∧a.rz=b.rz:=by
 cases a;cases b;simp
theorem Tm(w0:W0)(a b:pr)(h0:a.rows.length≤4611686018427387904)(h1:a.rz.length≤4611686018427387904)(S:St):ab Tryz.prog w0 14 [uM a,uM b] S (fun d S'=>d=dB (pB (a=b))∧S'=S):=by
 refine bI [] mx Tryz.func14 rfl rfl (by kernel_rfl) ?_;refine @aa _ (ah @Tryz.ntmps14 ?_);intro b1 b2;refine⟨fun h2=>⟨fun h3=>?_,fun h3 e=>h3 (by rw[e])⟩,fun h2 e=>h2 (by rw[e])⟩;refine aq (Ji w0 a.rows b.rows h0 _) (@aa _ (av ?_));refine⟨fun h4=>?_,fun h4 e=>h4 (by rw[e])⟩;refine aq (RB w0 a.rz b.rz h1 _) (@aa _ (av ?_));exact⟨fun h=>(N7.2 ⟨h2,h3,h4,h⟩),fun h=>by rw[h]⟩
def SmO(o:aV):Prop:=o.value.length≤500∧o.bucket.length≤60∧o.key.length≤60∧o.cC.length≤20
def SmL(l:List aV):Prop:=(∀o,o∈l→SmO o)∧l.length≤120
@[go_sem] def Pv (l:List aV):DV:= .sl 11 false (l.map uB)
theorem RE(w0:W0)(l:List aV)(h0:l.length≤4611686018427387904)(S:St):ab Tryz.prog w0 9 [Pv l] S (fun d S'=>d=dB (pB (SmL l))∧S'=S):=by
 refine bI [] mx Tryz.func9 rfl rfl (by kernel_rfl) ?_;refine @aa _ (ah @Tryz.ntmps9 ?_);refine aQ [] l.length [0,3] (fun i=>[(3,dI i)]) (fun i=>S) (fun i=>∀j o,j<i→l[j]? =some o→SmO o) mx (by kernel_rfl) ?_ ?_
 ·refine @aa _ (av ?_);intro j o hj;omega
 ·intro i hi hinv;have e1:i<4611686018427387904→IntKind.i64.wrap ((i:Int)+1)=((i+1:Nat):Int):=fun h=>aJ (by omega);by_cases hil:i<l.length
  ·have e1:=e1 (by omega);have hx:l[i]? =some l[i]:=aac hil;generalize l[i]=x at hx;have hm:x∈l:=aaf hx;have s1:(tx x.value).size=x.value.length:=cV _;have s2:(tx x.bucket).size=x.bucket.length:=cV _;have s3:(tx x.key).size=x.key.length:=cV _;refine @aa _ (cK @hx @e1 ?_);rw[s1,s2,s3];refine⟨fun _=>⟨hil,fun q h=>?_,fun q1=>⟨hil,fun q h=>?_,fun q2=>⟨hil,fun q h=>?_,fun q3=>⟨hil,fun q h=>?_,fun q4=>⟨hil,fun j o hj ho=>?_⟩⟩⟩⟩⟩,fun h=>absurd hil h⟩
   ·have:=(h.1 x hm).1;omega
   ·have:=(h.1 x hm).2.1;omega
   ·have:=(h.1 x hm).2.2.1;omega
   ·have:=(h.1 x hm).2.2.2;omega
   ·by_cases e:j=i
    ·subst e;rw[hx]at ho;cases ho;exact⟨by omega,by omega,by omega,by omega⟩
    ·exact hinv j o (by omega) ho
  ·refine @aa _ (av ?_);refine⟨fun h=>absurd h hil,fun _=>⟨fun h=>⟨fun o ho=>?_,by omega⟩,fun h=>by have:=h.2;omega⟩⟩;obtain⟨j,hj⟩:=abv.1 ho;exact hinv j o (by have:=(aad.1 hj).1;omega) hj
theorem mN:∀s:List UInt8,(∀c,c∈s→c.toNat<128)→bR s=s.map fun c=>(c.toNat,[c])
 |[],_=>vV
 |c::s,h=>by
  rw[qX (h c aaQ),mN s fun x hx=>h x (aat _ hx)];rfl
theorem qW:∀w:List UInt8,(∀x,x∈w→x.toNat<128)→whole w
 |[],h=>fun r hr=>by rw[vV]at hr;cases hr
 |c::w,h=>by
  intro r hr;rw[qX (h c (by simp))]at hr;rcases aaJ.1 hr with rfl|hr
  ·exact fun q=>by have:=h c (by simp);simp at q;omega
  ·exact qW w (fun x hx=>h x (aat _ hx)) r hr
theorem Qy{s:List UInt8}(h:∀c,c∈s→tC c.toNat=true∧c.toNat<128)(h0:s≠[])(h1:s.length≤12):jm s where
 Tn:=fun r hr=>by
  rw[mN s fun c hc=>(h c hc).2]at hr;obtain⟨c,hc,rfl⟩:=aaT.1 hr;exact(h c hc).1
 whole:=qW s fun x hx=>(h x hx).2
 pos:=by
  rw[mN s fun c hc=>(h c hc).2,abI];exact acW.2 h0
 le:=by
  rw[mN s fun c hc=>(h c hc).2,abI];omega
def eO:Cf:=⟨[[108,111,119],[104,105,103,104]],[3,2],[40,40],[⟨1,1,0⟩]⟩
theorem WZ:uS [3,2]:=by
 refine lE.2 ⟨by decide,by decide,sX.1 (by decide),fun a ha b hb=>?_⟩;have ha':a<2:=ha;obtain⟨rfl,rfl⟩:a=1∧b=0:=by omega
 refine⟨by decide,⟨1,by decide,by decide,by decide,fun d hd=>?_⟩,⟨0,by decide,by decide,by decide,fun d hd=>?_⟩⟩
 ·have:d<2:=hd;rcases(show d=0∨d=1 by omega)with rfl|rfl <;>decide
 ·have:d<2:=hd;rcases(show d=0∨d=1 by omega)with rfl|rfl <;>decide
theorem Xq:Ef eO where
 MD:=rfl
 Uj:=rfl
 Yc:=WZ
 Xs:=⟨by decide,fun g h=>(by rw[aau.1 h];decide),adN _ _⟩
 name:=fun s hs=>by
  simp only[eO,aaJ,aca,or_false]at hs;rcases hs with rfl|rfl
  ·exact Qy (by decide) (by decide) (by decide)
  ·exact Qy (by decide) (by decide) (by decide)
 quo:=fun n hn=>by
  simp only[eO,aaJ,aca,or_false]at hn;rcases hn with rfl|rfl <;>decide
 uniq:=by decide
theorem WJ:zu eO:=⟨by decide,fun s hs=>by
 simp only[eO,aaJ,aca,or_false]at hs;rcases hs with rfl|rfl <;>decide,by decide,fun x hx=>by simp only[eO,aaJ,aca,or_false]at hx;rcases hx with rfl|rfl <;>decide,by decide,by decide⟩
def QR:aV:=⟨0,0,0,0,[],[],[],0,0,0,[]⟩
def Gv:aV:=⟨2,0,1,0,[],[],[],0,0,0,[]⟩
def TY:aV:=⟨5,0,1,0,[98],[],[],0,0,0,[]⟩
def TD:aV:=⟨7,0,1,0,[98],[107],[118],0,0,0,[]⟩
def Ri:aV:=⟨3,0,1,0,[],[],[],0,0,0,[]⟩
def Rh:aV:=⟨0,1,0,0,[],[],[],0,0,0,[]⟩
def pT:aV:=⟨9,1,1,0,[98],[107],[],0,0,0,[]⟩
def Xo:aV:=⟨15,1,1,0,[],[],[],1,0,0,[]⟩
def QE:aV:=⟨7,0,1,0,[98],[108],[],0,0,0,[]⟩
def oh:List RH:=[⟨0,1,[],0,false⟩]
def iD:List RH:=[⟨0,1,[],0,false⟩,⟨1,1,[],0,false⟩]
def uz:eZ:=fun _=>none
def ZJ:List UInt8→Option (List UInt8):=fun _=>none
def L0:List UInt8→Option (List UInt8):=fun j=>if j=[107]then some [118]else none
def H2:eZ:=dG uz [98] ZJ
def bA:eZ:=dG H2 [98] L0
def ly(F:eZ)(has:Int)(D:eZ)(r:List RH):bM:=⟨[⟨F,[],has,D⟩,⟨uz,[],0,uz⟩],r,fun _ _ _=>none⟩
theorem ex1:iy fw eO (uV 2) QR false=(Fk 1,ly uz 0 uz oh):=by kernel_rfl
theorem ex2:iy fw eO (ly uz 0 uz oh) Gv false=(dP 0,ly uz 1 uz oh):=by kernel_rfl
theorem ex3:iy fw eO (ly uz 1 uz oh) TY false=(dP 0,ly uz 1 H2 oh):=by kernel_rfl
theorem ex4:iy fw eO (ly uz 1 H2 oh) TD false=(dP 0,ly uz 1 bA oh):=by kernel_rfl
theorem ex5:iy fw eO (ly uz 1 bA oh) Ri false=(dP 0,ly bA 0 bA oh):=by kernel_rfl
theorem ex6:iy fw eO (ly bA 0 bA oh) Rh false=(Fk 1,ly bA 0 bA iD):=by kernel_rfl
theorem ZX:dp bA=[[98]]:=by
 rw[s7 (V:=[[98]]) (by decide) fun k=>?_]
 ·exact List.mergeSort_singleton _
 ·unfold bA H2 dG uz;by_cases h:k=[98]
  ·simp[h]
  ·simp[h]
theorem VJ:dp L0=[[107]]:=by
 rw[s7 (V:=[[107]]) (by decide) fun k=>?_]
 ·exact List.mergeSort_singleton _
 ·unfold L0;by_cases h:k=[107]
  ·simp[h]
  ·simp[h]
theorem YM:bl eO (ly bA 0 bA iD) pT (fun k=>decide (k=pT.key)) 2=[[⟨[107],0,[118]⟩],[]]:=by
 have h1:kc eO (ly bA 0 bA iD) pT 2=[0,1]:=by decide +kernel
 have h2:fO (ly bA 0 bA iD) pT 0 pT.bucket=some L0:=by kernel_rfl
 have h3:fO (ly bA 0 bA iD) pT 1 pT.bucket=none:=by kernel_rfl
 unfold bl;rw[h1];simp only[abB,List.map_nil,h2,h3,kr,VJ];rfl
theorem ex7:iy fw eO (ly bA 0 bA iD) pT false=(⟨0,0,[⟨[107],0,[118]⟩],[]⟩,ly bA 0 bA iD):=by
 have h1:iy fw eO (ly bA 0 bA iD) pT false=iV (ly bA 0 bA iD) (getM eO (ly bA 0 bA iD) pT):=by kernel_rfl
 have h2:¬gz (ly bA 0 bA iD) pT:=by decide +kernel
 have h3:gT eO (ly bA 0 bA iD) pT 2=true:=by kernel_rfl
 have hl:(ly bA 0 bA iD).l.length=2:=rfl;rw[h1];unfold getM;rw[if_neg h2,hl,h3,if_neg (by simp),YM];rfl
theorem ex8:iy fw eO (ly bA 0 bA iD) Gv false=(dP 0,ly bA 1 bA iD):=by kernel_rfl
theorem ex9:iy fw eO (ly bA 1 bA iD) Xo false=(dP 36,ly bA 1 bA iD):=by kernel_rfl
theorem YG:iy fw eO (ly bA 1 bA iD) QE true=(dP 37,ly bA 1 bA iD):=by kernel_rfl
theorem VO:nU 0 bA=[⟨[98,47,107],0,[118]⟩]:=by
 have h:bA [98]=some L0:=by kernel_rfl
 unfold nU jO;simp only[ZX,adV,List.flatMap_nil,h,acL,VJ];rfl
structure l5(T:St)(g:MG)(b:Nat)(v:List DV):Prop where
 at_:lk T.box b=some v
 no:b∉g.bx
structure Ca(T:St)(g:MG)(b:Nat)(v:Ob):Prop where
 at_:lk T.acc b=some v
 no:g.own b= .no
theorem l5.fr{T T':St}{g g':MG}{b:Nat}{v:List DV}(h:l5 T g b v)(k:iO T T' g g'):l5 T' g' b v:=⟨k.box _ _ h.no h.at_,fun q=>(k.nb _ q).elim h.no fun e=>by rw[h.at_]at e;cases e⟩
theorem Ca.fr{T T':St}{g g':MG}{b:Nat}{v:Ob}(h:Ca T g b v)(k:iO T T' g g'):Ca T' g' b v:=⟨k.acc _ _ h.no h.at_,abF fun q=>(k.na _ q).elim (fun e=>e h.no) fun e=>by rw[h.at_]at e;cases e⟩
theorem l5.has{T T':St}{g:MG}{b:Nat}{v:List DV}(h:l5 T g b v)(k:Has T T'):l5 T' g b v:=⟨k.box _ _ h.at_,h.no⟩
theorem Ca.has{T T':St}{g:MG}{b:Nat}{v:Ob}(h:Ca T g b v)(k:Has T T'):Ca T' g b v:=⟨k.acc _ _ h.at_,h.no⟩
theorem jn{T:St}(b:FN T.box)(v:List DV):Has T ⟨(b.n,v)::T.box,T.acc⟩:=⟨fun _ _ q=>ai (ao b) q,fun _ _ q=>q⟩
theorem MI.Jz{T:St}{g:MG}{N:Nat}{c:Cf}{μ:bM}(h:MI T g N c μ)(b:FN T.box)(v:List DV):l5 ⟨(b.n,v)::T.box,T.acc⟩ g b.n v:=⟨ey _ _ _,fun q=>h.ny q (ao b)⟩
structure zV(S T:St)(g:MG):Prop where
 box:∀i v,lk S.box i=some v→l5 T g i v
 acc:∀i v,lk S.acc i=some v→Ca T g i v
theorem zV.out{S T:St}{g:MG}(h:zV S T g):Has S T:=⟨fun i v q=>(h.box i v q).at_,fun i v q=>(h.acc i v q).at_⟩
theorem zV.fr{S T T':St}{g g':MG}(h:zV S T g)(k:iO T T' g g'):zV S T' g':=⟨fun i v q=>(h.box i v q).fr k,fun i v q=>(h.acc i v q).fr k⟩
theorem zV.has{S T T':St}{g:MG}(h:zV S T g)(k:Has T T'):zV S T' g:=⟨fun i v q=>(h.box i v q).has k,fun i v q=>(h.acc i v q).has k⟩
theorem zV.sub{S0 S T:St}{g:MG}(h:zV S T g)(k:Has S0 S):zV S0 T g:=⟨fun i v q=>h.box i v (k.box i v q),fun i v q=>h.acc i v (k.acc i v q)⟩
theorem zV.new{S T:St}{g:MG}(k1:∀i v,lk S.box i=some v→lk T.box i=some v)(k2:∀i v,lk S.acc i=some v→lk T.acc i=some v)(k3:∀i,i∈g.bx→lk S.box i=none)(k4:∀i,g.own i≠ .no→lk S.acc i=none):zV S T g:=
 ⟨fun i v q=>⟨k1 i v q,fun e=>by rw[k3 i e]at q;cases q⟩,fun i v q=>⟨k2 i v q,abF fun e=>by rw[k4 i e]at q;cases q⟩⟩
@[go_sem] def XV (o:aV):DV:= .agg [dI o.kind,dI o.level,dI o.az,dI o.snap,dS (tx o.bucket),dS (tx o.key),dS (tx o.value),dI o.label,dI o.cz,dI o.n,.sl 0 true []]
theorem JX{o:aV}(h:o.cC=[]):Wk (XV o) (uB o):=by
 unfold XV uB;rw[h];exact .agg ⟨.refl _,.refl _,.refl _,.refl _,.refl _,.refl _,.refl _,.refl _,.refl _,.refl _,.nil _ _ _,trivial⟩
def DoK(S:St)(g:MG)(N:Nat)(c:Cf)(q:pr×bM):DV→St→Prop:=fun d S'=>d=uM q.1∧∃g',MI S' g' (N+1) c q.2∧iO S S' g g'
theorem Wa{w0:W0}{S:St}{g:MG}{N:Nat}{c:Cf}{μ:bM}{o:aV}{full:Bool}{q:pr×bM}(hgO:qZ w0)(hgC:nE w0)(hI:MI S g N c μ)(hM:ij N c μ)(hgr:c.gr.length≤1048576)(hN:N≤10000)(hk:o.cC=[])(he:iy fw c μ o full=q):
 ab Tryz.prog w0 12 [bC g.m,XV o,dB full] S (DoK S g N c q):=
 he▸iL (Ze hgO hgC hI hM hgr hN) ⟨.refl _,JX hk,.refl _,trivial⟩ fun d S' h=>⟨_,.refl _,h⟩
theorem Za(w0:W0)(S:St):ab Tryz.prog w0 25 [] S (fun d S'=>d=QK eO∧S'=S):=by
 refine bI [] mx Tryz.func25 rfl rfl (by kernel_rfl) ?_;refine @aa _ (ah @Tryz.ntmps25 ?_);intro b;exact .agg ⟨Wk.full _ _ _,Wk.full _ _ _,Wk.full _ _ _,Wk.full _ _ _,trivial⟩
def UI:List aV:=[QR,Gv,TY,TD,Ri,Rh]
def Xy(i:Nat):bM:=[uV 2,ly uz 0 uz oh,ly uz 1 uz oh,ly uz 1 H2 oh,ly uz 1 bA oh,ly bA 0 bA oh].getD i (ly bA 0 bA iD)
theorem N5{i:Nat}{o:aV}(h:UI[i]? =some o):o.cC=[]∧∃r,r.e=0∧iy fw eO (Xy i) o false=(r,Xy (i+1)):=by
 have hi:i<6:=(aad.1 h).1;obtain rfl|rfl|rfl|rfl|rfl|rfl:i=0∨i=1∨i=2∨i=3∨i=4∨i=5:=by omega
 all_goals cases h
 ·exact⟨rfl,_,rfl,ex1⟩
 ·exact⟨rfl,_,rfl,ex2⟩
 ·exact⟨rfl,_,rfl,ex3⟩
 ·exact⟨rfl,_,rfl,ex4⟩
 ·exact⟨rfl,_,rfl,ex5⟩
 ·exact⟨rfl,_,rfl,ex6⟩
theorem Td{w0:W0}(hgT:jv w0)(hk:KU w0)(hgO:qZ w0)(hgC:nE w0)(S:St):ab Tryz.prog w0 8 [] S (fun d S'=>d=dB true∧Has S S'):=by
 have hgr:eO.gr.length≤1048576:=by decide
 refine lO [] mx Tryz.func8 rfl rfl (by kernel_rfl) ?_;refine @aa _ (ah @Tryz.ntmps8 ?_);refine aq (Za _ _) (@aa _ (av ?_));refine aw (Vj hgT hk eO WJ _) ?_;rintro _ T0 (⟨h,_⟩|⟨_,g0,rfl,hI0,k1,k2,k3,k4⟩)
 ·exact absurd Xq h
 have hM0:ij 0 eO (uV 2):=WU Xq (by decide);have hI0:MI T0 g0 0 eO (uV 2):=hI0;refine @aa _ (av ?_);obtain⟨L,hL⟩:∃L,L=UI:=⟨_,rfl⟩;have hl6:L.length=6:=by rw[hL];rfl
 have hA0:zV S T0 g0:= .new k1 k2 k3 k4;refine fZ [] [1,3,4] (σ:=Nat×St×MG) (fun s=>[(1,bC g0.m),(3,.sl 11 true (L.map XV)),(4,dI s.1)]) (fun s=>s.2.1) (fun s=>s.1≤6∧s.2.2.m=g0.m∧MI s.2.1 s.2.2 s.1 eO (Xy s.1)∧ij s.1 eO (Xy s.1)∧zV S s.2.1 s.2.2) (fun s=>6-s.1) (0,T0,g0) mx (by kernel_rfl) ⟨⟨aa6 _,rfl,hI0,hM0,hA0⟩,?_⟩ ?_
 ·rw[hL];simp(maxDischargeDepth:=12) (maxSteps:=1000000) -implicitDefEqProofs only[go_sem,Nat.reduceAdd,Nat.reduceSub,Nat.reduceMul,Nat.reduceLeDiff,Nat.reduceEqDiff,Nat.reduceGT,Nat.reduceBEq,reduceCtorEq,↓reduceIte,Int.reduceToNat,Int.reduceLE,Int.reduceLT,Int.reduceNe,Int.reduceEq,UI,QR,Gv,TY,TD,Ri,Rh,tx];exact .refl _
 ·rintro⟨i,T,g⟩ ⟨hi,hm,hI,hM,hA⟩;simp only at hi hm hI hM hA;have e1:IntKind.i64.wrap ((i:Int)+1)=((i+1:Nat):Int):=aJ (by omega);by_cases hi6:i<6
  ·have hxo:UI[i]? =some UI[i]:=aac hi6;generalize UI[i]=o at hxo;have hx:L[i]? =some o:=by rw[hL,hxo]
   obtain⟨hko,r,hr,hq⟩:=N5 hxo;refine @aa _ (cL @hx @e1 @hl6 ?_);refine⟨fun _=>⟨by omega,?_⟩,fun h=>absurd (by omega) h⟩;rw[←hm];refine aw (Wa hgO hgC hI hM hgr (by omega) hko hq) ?_;rintro _ T' ⟨rfl,g',j1,j2⟩;refine @aa _ (cK @hr @e1 ?_);intro b;have hb:=jn b [dI 0,dI r.n,.sl 3 false (r.rows.map oR),dI 0,dI 0,dI 0,dI 0,.sl 6 false (r.rz.map uA)];refine⟨(i+1,T',g'),⟨by show i+1≤6;omega,j2.m,j1,?_,hA.fr j2⟩,by show 6-(i+1)<6-i;omega,rfl,?_⟩
   ·have:=A4 (o:=o) (full:=false) hM;rw[hq]at this;exact this
   ·exact @aa _ bY
  ·obtain rfl:i=6:=by omega
   refine @aa _ (ah @hl6 ?_);rw[←hm];refine aw (Wa (o:=pT) hgO hgC hI hM hgr (by omega) rfl ex7) ?_;rintro _ T1 ⟨rfl,g1,j1,j2⟩;refine @aa _ (av ?_);intro b6;have o6:=j1.Jz b6 [dI 0,dI 0,.sl 3 false (([⟨[107],0,[118]⟩]:List dA).map oR),dI 0,dI 0,dI 0,dI 0,.sl 6 false []];have x1:=j1.has (jn b6 [dI 0,dI 0,.sl 3 false (([⟨[107],0,[118]⟩]:List dA).map oR),dI 0,dI 0,dI 0,dI 0,.sl 6 false []]);have a1:=(hA.fr j2).has (jn b6 [dI 0,dI 0,.sl 3 false (([⟨[107],0,[118]⟩]:List dA).map oR),dI 0,dI 0,dI 0,dI 0,.sl 6 false []]);have M1:ij 7 eO (ly bA 0 bA iD):=hM.le (abp 6);rw[←j2.m];refine aw (Wa (o:=Gv) hgO hgC x1 M1 hgr (by omega) rfl ex8) ?_;rintro _ T2 ⟨rfl,g2,j3,j4⟩;refine @aa _ (av ?_);intro b7;have p6:=(o6.fr j4);have o7:=j3.Jz b7 [dI 0,dI 0,.sl 3 false [],dI 0,dI 0,dI 0,dI 0,.sl 6 false []];have hT2:=jn b7 [dI 0,dI 0,.sl 3 false [],dI 0,dI 0,dI 0,dI 0,.sl 6 false []];have p6:=p6.has hT2;have a2:=(a1.fr j4).has hT2;have x2:=j3.has hT2
   have M2:ij 8 eO (ly bA 1 bA iD):=by
    have:=A4 (o:=Gv) (full:=false) M1;rw[ex8]at this;exact this
   rw[←j4.m];refine aw (Wa (o:=Xo) hgO hgC x2 M2 hgr (by omega) rfl ex9) ?_;rintro _ T3 ⟨rfl,g3,j5,j6⟩;refine @aa _ (av ?_);intro b8;have p7:=o7.fr j6;have p6:=p6.fr j6;have o8:=j5.Jz b8 [dI 36,dI 0,.sl 3 false [],dI 0,dI 0,dI 0,dI 0,.sl 6 false []];have hT3:=jn b8 [dI 36,dI 0,.sl 3 false [],dI 0,dI 0,dI 0,dI 0,.sl 6 false []];have p6:=p6.has hT3;have p7:=p7.has hT3;have a3:=(a2.fr j6).has hT3;have x3:=j5.has hT3;rw[←j6.m];refine aw (Wa (o:=QE) (full:=true) hgO hgC x3 (M2.le (abp 8)) hgr (by omega) rfl YG) ?_;rintro _ T4 ⟨rfl,g4,j7,j8⟩;refine @aa _ (av ?_);intro b9;have p6:=p6.fr j8;have p7:=p7.fr j8;have p8:=o8.fr j8;have hT4:=jn b9 [dI 37,dI 0,.sl 3 false [],dI 0,dI 0,dI 0,dI 0,.sl 6 false []];have a4:=(a3.fr j8).has hT4;have x4:=j7.has hT4;have n6:=an b9 b6.n (by rw[p6.at_];rfl);have n7:=an b9 b7.n (by rw[p7.at_];rfl);have n8:=an b9 b8.n (by rw[p8.at_];rfl);have q6:=p6.at_;have q7:=p7.at_;have q8:=p8.at_;have M4:=(M2.le (abp 8)).le (abp 9);rw[←j8.m];refine aq (zF _ x4 M4 (by omega) (x:=0) ⟨by omega,by decide⟩) ?_;rw[show(aE (ly bA 1 bA iD) 0).F=bA from rfl,VO];refine @aa _ (jL @n6 @n7 @n8 @q6 @q7 @q8 ?_);refine⟨fun _=>?_,fun h=>absurd rfl h⟩;refine aq (IC _ x4 0) ?_;rw[show(aE (ly bA 1 bA iD) 0).has=1 from rfl];simp(maxDischargeDepth:=12) (maxSteps:=1000000) -implicitDefEqProofs only[go_sem,Nat.reduceAdd,Nat.reduceSub,Nat.reduceMul,Nat.reduceLeDiff,Nat.reduceEqDiff,Nat.reduceGT,Nat.reduceBEq,reduceCtorEq,↓reduceIte,Int.reduceToNat,Int.reduceLE,Int.reduceLT,Int.reduceNe,Int.reduceEq,tx];exact a4.out
theorem L4(dg:List UInt8→Int)(c:Cf)(μ:bM){o:aV}(full:Bool)(h:o.kind=16):iy dg c μ o full=(dP 0,bT μ o full):=by
 have h1:r6 μ.l.length o=true:=decide_eq_true ⟨by omega,.inl h⟩;unfold iy;rw[if_neg (by rw[h1];simp),if_neg (by omega),if_pos h]
theorem Pc(dg:List UInt8→Int)(c:Cf)(μ:bM){o:aV}(full:Bool)(h:o.kind=0)(h0:0≤o.level)(h1:o.level<μ.l.length):iy dg c μ o full=(Fk (oB μ.r o.level).2,⟨μ.l,(oB μ.r o.level).1,μ.sn⟩):=by
 have h1:r6 μ.l.length o=true:=decide_eq_true ⟨by omega,.inr ⟨h0,h1⟩⟩;unfold iy;rw[if_neg (by rw[h1];simp),if_pos h]
theorem MA(dg:List UInt8→Int)(c:Cf)(μ:bM){o:aV}(full:Bool)(hk:1≤o.kind∧o.kind≤15)(h0:0≤o.level)(h1:o.level<μ.l.length)(h:¬dm μ.r o.level o.az<μ.r.length):iy dg c μ o full=(dP 30,μ):=by
 have h1:r6 μ.l.length o=true:=decide_eq_true ⟨by omega,.inr ⟨h0,h1⟩⟩;unfold iy;rw[if_neg (by rw[h1];simp),if_neg (by omega),if_neg (by omega),if_pos h]
theorem TT(dg:List UInt8→Int)(c:Cf)(μ:bM){o:aV}(full:Bool)(hk:1≤o.kind∧o.kind≤15)(h0:0≤o.level)(h1:o.level<μ.l.length)(h:dm μ.r o.level o.az<μ.r.length):iy dg c μ o full=iV μ (cr dg c μ o full):=by
 have h1:r6 μ.l.length o=true:=decide_eq_true ⟨by omega,.inr ⟨h0,h1⟩⟩;unfold iy;rw[if_neg (by rw[h1];simp),if_neg (by omega),if_neg (by omega),if_neg (fun q=>q h)]
theorem SU(μ:bM)(o:aV)(full:Bool):(bT μ o full).l.length=μ.l.length:=by simp[bT]
theorem BR{μ:bM}{o:aV}{full:Bool}{x:Int}(h0:0≤x)(h1:x<μ.l.length):aE (bT μ o full) x={aE μ x with has:=0,F:=if x=o.level∧0<o.az∧(aE μ x).has=o.az∧full=false then(aE μ x).D else(aE μ x).F}:=by
 have e:((x.toNat:Nat):Int)=x:=Int.toNat_of_nonneg h0
 have h2:(bT μ o full).l[x.toNat]? =some {aE μ x with has:=0,F:=if x=o.level∧0<o.az∧(aE μ x).has=o.az∧full=false then(aE μ x).D else(aE μ x).F}:=by
  unfold bT;simp only[aaE];rw[acB (by omega)];simp only[abH,e]
 exact bB h2 h0
theorem zm{μ:bM}{x k:Int}{l':uy}{r:List RH}{sn:Int→Int→Int→Option (List eZ)}(h0:0≤x)(h1:x<μ.l.length):aE ⟨μ.l.set x.toNat l',r,sn⟩ k=if k=x then l' else aE μ k:=by
 by_cases e:k=x
 ·subst e;rw[if_pos rfl];exact bB (by show(μ.l.set k.toNat l')[k.toNat]? =some l';rw[abZ (by omega)]) h0
 ·rw[if_neg e];unfold aE;by_cases hk:0≤k
  ·rw[if_pos hk,if_pos hk];show((μ.l.set x.toNat l')[k.toNat]?).getD _=_;rw[ab5 (by omega)]
  ·rw[if_neg hk,if_neg hk]
theorem PH{dg:List UInt8→Int}{c:Cf}{μ:bM}{o:aV}{full:Bool}(P:jP→Prop)(p1:o.kind=1→P (jI μ o))(p2:o.kind=2→P (ie μ o))(p3:o.kind=3→P (eG μ o))(p4:o.kind=4→P (cJ μ o))(p5:o.kind=5→P (gY μ o full))(p6:o.kind=6→P (iq μ o full))(p7:o.kind=7→P (mE μ o full))(p8:o.kind=8→P (cP μ o full))(p9:o.kind=9→P (getM c μ o))(p10:o.kind=10→P (iZ c μ o))(p11:o.kind=11→P (nG μ o))(p12:o.kind=12→P (eJ μ o))(p13:o.kind=13→P (ia c μ o))(p14:o.kind=14→P (gy c μ o))(p15:¬(1≤o.kind∧o.kind≤14)→P (fY dg c μ o full)):P (cr dg c μ o full):=by
 by_cases h:1≤o.kind∧o.kind≤14
 ·rcases(by omega:o.kind=1∨o.kind=2∨o.kind=3∨o.kind=4∨o.kind=5∨o.kind=6∨o.kind=7∨o.kind=8∨o.kind=9∨o.kind=10∨o.kind=11∨o.kind=12∨o.kind=13∨o.kind=14)with k|k|k|k|k|k|k|k|k|k|k|k|k|k
  ·rw[show cr dg c μ o full=jI μ o by unfold cr;simp[k]];exact p1 k
  ·rw[show cr dg c μ o full=ie μ o by unfold cr;simp[k]];exact p2 k
  ·rw[show cr dg c μ o full=eG μ o by unfold cr;simp[k]];exact p3 k
  ·rw[show cr dg c μ o full=cJ μ o by unfold cr;simp[k]];exact p4 k
  ·rw[show cr dg c μ o full=gY μ o full by unfold cr;simp[k]];exact p5 k
  ·rw[show cr dg c μ o full=iq μ o full by unfold cr;simp[k]];exact p6 k
  ·rw[show cr dg c μ o full=mE μ o full by unfold cr;simp[k]];exact p7 k
  ·rw[show cr dg c μ o full=cP μ o full by unfold cr;simp[k]];exact p8 k
  ·rw[show cr dg c μ o full=getM c μ o by unfold cr;simp[k]];exact p9 k
  ·rw[show cr dg c μ o full=iZ c μ o by unfold cr;simp[k]];exact p10 k
  ·rw[show cr dg c μ o full=nG μ o by unfold cr;simp[k]];exact p11 k
  ·rw[show cr dg c μ o full=eJ μ o by unfold cr;simp[k]];exact p12 k
  ·rw[show cr dg c μ o full=ia c μ o by unfold cr;simp[k]];exact p13 k
  ·rw[show cr dg c μ o full=gy c μ o by unfold cr;simp[k]];exact p14 k
 ·rw[show cr dg c μ o full=fY dg c μ o full by unfold cr;rw[if_neg (by omega)];rw[if_neg (by omega)];rw[if_neg (by omega)];rw[if_neg (by omega)];rw[if_neg (by omega)];rw[if_neg (by omega)];rw[if_neg (by omega)];rw[if_neg (by omega)];rw[if_neg (by omega)];rw[if_neg (by omega)];rw[if_neg (by omega)];rw[if_neg (by omega)];rw[if_neg (by omega)];rw[if_neg (by omega)]];exact p15 h
structure Rl(μ0 μ:bM)(x s:Int):Prop where
 len:μ.l.length=μ0.l.length
 F:∀k,(aE μ k).F=(aE μ0 k).F
 has:(aE μ x).has=s
 r:μ.r=μ0.r
theorem Rl.put{μ0 μ:bM}{x s:Int}(h:Rl μ0 μ x s)(h0:0≤x)(h1:x<μ0.l.length)(l':uy)(hF:l'.F=(aE μ x).F)(hs:l'.has=s):Rl μ0 ⟨μ.l.set x.toNat l',μ.r,μ.sn⟩ x s:=by
 have h2:x<μ.l.length:=by rw[h.len];exact h1
 refine⟨by simp[h.len],fun k=>?_,?_,h.r⟩
 ·rw[zm h0 h2];by_cases e:k=x
  ·rw[if_pos e,hF,e];exact h.F x
  ·rw[if_neg e];exact h.F k
 ·rw[zm h0 h2,if_pos rfl];exact hs
structure Ro(μ0 μ:bM)(x:Int):Prop where
 len:μ.l.length=μ0.l.length
 F:∀k,(aE μ k).F=(aE μ0 k).F
 has:(aE μ x).has=0
structure Sp(n:Nat)(a n0:Int)(Fs:List eZ)(μ:bM):Prop where
 len:μ.l.length=n
 vw:∃p,kK μ.r a n0=some p∧(1:Int)∈p.1
 sn:μ.sn a n0 1=some Fs
end Go.Proofs.YtoepfmhnapedoaaGreatDoor
namespace Go.Proofs.YtoepfmhnapedoaaGreatDoor
open Aml Go Rn Lat Grs
def Zo(D:Int→Prop):Option (List eZ)→Option (List eZ)→Prop
 |none,none=>True
 |some F,some G=>∀j:Nat,D (j:Int)→F[j]? =G[j]?
 |_,_=>False
structure Hd(D:Int→Prop)(a b:bM):Prop where
 len:a.l.length=b.l.length
 lb:∀k,D k→aE a k=aE b k
 cn:∀lv,D lv→ic a.r lv=ic b.r lv
 vw:∀lv n,D lv→kK a.r lv n=kK b.r lv n
 sn:∀lv n k,D lv→Zo D (a.sn lv n k) (b.sn lv n k)
theorem Zo.refl(D:Int→Prop)(x:Option (List eZ)):Zo D x x:=by
 cases x with
 |none=>trivial
 |some F=>exact fun _ _=>rfl
theorem Hd.refl(D:Int→Prop)(a:bM):Hd D a a:=⟨rfl,fun _ _=>rfl,fun _ _=>rfl,fun _ _ _=>rfl,fun _ _ _ _=> .refl D _⟩
section
variable {D:Int→Prop} {a b:bM}
theorem Hd.get(h:Hd D a b){j:Nat}(hj:D (j:Int)):a.l[j]? =b.l[j]? :=by
 by_cases hl:j<a.l.length
 ·have h1:a.l[j]? =some a.l[j]:=aac hl;have h2:b.l[j]? =some (b.l[j]'(by have:=h.len;omega)):=aac _;have e:=h.lb _ hj;rw[bB (x:=(j:Int)) h1 (by omega),bB (x:=(j:Int)) h2 (by omega)]at e;rw[h1,h2,e]
 ·rw[aaS (by omega),aaS (by have:=h.len;omega)]
end
end Go.Proofs.YtoepfmhnapedoaaGreatDoor
namespace Go.Proofs.YtoepfmhnapedoaaGreatDoor
open Aml Go Rn Lat Grs
theorem vU{α:Type}(f:List UInt8→Option α):(dp f).Nodup:=by
 unfold dp;split
 ·rename_i h;exact(adq _ _).nodup_iff.2 h.choose_spec.1
 ·exact .nil
theorem IL(x:Nat)(key:List UInt8)(f:Option (List UInt8→Option (List UInt8))):(kr x (fun k=>decide (k=key)) f).length≤1:=by
 unfold kr
 cases f with
 |none=>exact aa6 _
 |some f=>
  simp only[abI];have hn:=(vU f).filter (p:=fun k=>decide (k=key));have hk:∀k,k∈(dp f).filter (fun k=>decide (k=key))→k=key:=fun k hk=>of_decide_eq_true (abO.1 hk).2;generalize (dp f).filter (fun k=>decide (k=key))=L at hn hk
  match L,hn,hk with
  |[],_,_=>exact aa6 _
  |[_],_,_=>exact aar _
  |y::z::L,hn,hk=>
   exfalso
   have e1:=hk y (by simp);have e2:=hk z (by simp);have hn':=(acD.1 hn).1 z (by simp);exact hn' (e1.trans e2.symm)
theorem Ue{dg:List UInt8→Int}{c:Cf}{μ:bM}{o:aV}{full:Bool}(hn:μ.l.length≤64):∀r μ',cr dg c μ o full= .inr (r,μ')→r.rows.length≤64∧r.rz.length≤50:=by
 refine PH (P:=fun out=>∀r μ',out= .inr (r,μ')→r.rows.length≤64∧r.rz.length≤50) ?_ ?_ ?_ ?_ ?_ ?_ ?_ ?_ ?_ ?_ ?_ ?_ ?_ ?_ ?_
 ·intro q r μ' he;unfold jI at he;cases he;exact⟨aa6 _,aa6 _⟩
 ·intro q r μ' he;unfold ie cE at he;simp only at he
  repeat' split at he
  all_goals cases he
  exact⟨aa6 _,aa6 _⟩
 ·intro q r μ' he;unfold eG cE at he;simp only at he
  repeat' split at he
  all_goals cases he
  exact⟨aa6 _,aa6 _⟩
 ·intro q r μ' he;unfold cJ cE at he;simp only at he
  repeat' split at he
  all_goals cases he
  exact⟨aa6 _,aa6 _⟩
 ·intro q r μ' he;unfold gY cE at he;simp only at he
  repeat' split at he
  all_goals cases he
  exact⟨aa6 _,aa6 _⟩
 ·intro q r μ' he;unfold iq cE at he;simp only at he
  repeat' split at he
  all_goals cases he
  exact⟨aa6 _,aa6 _⟩
 ·intro q r μ' he;unfold mE cE at he;simp only at he
  repeat' split at he
  all_goals cases he
  exact⟨aa6 _,aa6 _⟩
 ·intro q r μ' he;unfold cP cE at he;simp only at he
  repeat' split at he
  all_goals cases he
  exact⟨aa6 _,aa6 _⟩
 ·intro q r μ' he;unfold getM at he
  repeat' split at he
  all_goals first|(cases he;done)|skip
  simp only at he;split at he
  all_goals cases he
  refine⟨?_,aa6 _⟩
  have h1:=mQ (rows:=bl c μ o (fun k=>decide (k=o.key)) μ.l.length) (n:=1) fun r hr=>by
   unfold bl at hr;obtain⟨x,hx,rfl⟩:=aaT.1 hr;exact IL x o.key _
  have h2:=jV c μ o (fun k=>decide (k=o.key)) μ.l.length
  have h3:(bl c μ o (fun k=>decide (k=o.key)) μ.l.length).flatten.length≤64:=by
   unfold j0 at h1;omega
  exact h3
 ·intro q r μ' he;unfold iZ at he
  repeat' split at he
  all_goals cases he
  refine⟨?_,aa6 _⟩;simp only[Q8,ab2];have:(nC o.n).toNat≤50:=by unfold nC;(repeat' split) <;>omega
  omega
 ·intro q r μ' he;unfold nG at he;cases he;exact⟨aa6 _,aa6 _⟩
 ·intro q r μ' he;unfold eJ at he;split at he
  all_goals cases he
  exact⟨aa6 _,aa6 _⟩
 ·intro q r μ' he;unfold ia at he;split at he
  all_goals cases he
  exact⟨aa6 _,aa6 _⟩
 ·intro q r μ' he;unfold gy at he;split at he
  all_goals cases he
  refine⟨aa6 _,?_⟩;simp only[ab2];omega
 ·intro q r μ' he;unfold fY at he;simp only at he
  repeat' split at he
  all_goals cases he
  exact⟨aa6 _,aa6 _⟩
theorem Wz{dg:List UInt8→Int}{c:Cf}{μ:bM}{o:aV}{full:Bool}(hn:μ.l.length≤64):(iy dg c μ o full).1.rows.length≤64∧(iy dg c μ o full).1.rz.length≤50:=by
 unfold iy;split
 ·exact⟨aa6 _,aa6 _⟩
 split
 ·exact⟨aa6 _,aa6 _⟩
 split
 ·exact⟨aa6 _,aa6 _⟩
 split
 ·exact⟨aa6 _,aa6 _⟩
 cases ho:cr dg c μ o full with
 |inl e=>exact⟨aa6 _,aa6 _⟩
 |inr p=>exact Ue hn p.1 p.2 ho
structure En where
 b:List UInt8
 k:List UInt8
 v:List UInt8
@[go_sem] def xS (e:En):DV:= .agg [dS (tx e.b),dS (tx e.k),dS (tx e.v)]
@[go_sem] def dQ (l:List En):DV:= .sl 3 false (l.map xS)
def E7(b k:List UInt8)(e:En):Bool:=decide (e.b=b∧e.k=k)
def aP(l:List En)(b k:List UInt8):Int:=if l.findIdx (E7 b k)<l.length then(l.findIdx (E7 b k):Int)else -1
theorem rm{a b:List UInt8}:tx a=tx b↔a=b:=⟨CK,fun h=>by rw[h]⟩
theorem CE{l:List En}{b k:List UInt8}{i:Nat}{e:En}(hx:l[i]? =some e)(h:E7 b k e=true)(hb:∀j e,j<i→l[j]? =some e→E7 b k e=false):l.findIdx (E7 b k)=i:=by
 obtain⟨hi,he⟩:=aad.1 hx;refine(List.findIdx_eq hi).2 ⟨by rw[he];exact h,fun j hj=>?_⟩;have:=hb j _ hj (aac (by omega));simpa using this
theorem Bt{l:List En}{b k:List UInt8}(hb:∀j e,j<l.length→l[j]? =some e→E7 b k e=false):¬l.findIdx (E7 b k)<l.length:=fun h=>by
 have h1:=List.findIdx_getElem (w:=h);rw[hb _ _ h (aac h)]at h1;cases h1
theorem gI(w0:W0)(l:List En)(b k:List UInt8)(h0:l.length≤4611686018427387904)(S:St):ab Tryz.prog w0 86 [dQ l,dS (tx b),dS (tx k)] S (fun d S'=>d=dI (aP l b k)∧S'=S):=by
 refine bI [] mx Tryz.func86 rfl rfl (by kernel_rfl) ?_;refine @aa _ (ah @Tryz.ntmps86 ?_);refine aQ [] l.length [0,1,2,7] (fun i=>[(7,dI i)]) (fun i=>S) (fun i=>∀j e,j<i→l[j]? =some e→E7 b k e=false) mx (by kernel_rfl) ?_ ?_
 ·refine @aa _ (av ?_);exact fun j e hj=>absurd hj (Nat.not_lt_zero _)
 ·intro i hi hinv;have e1:i<4611686018427387904→IntKind.i64.wrap ((i:Int)+1)=((i+1:Nat):Int):=fun h=>aJ (by omega);by_cases hil:i<l.length
  ·have e1:=e1 (by omega);have hx:l[i]? =some l[i]:=aac hil;generalize l[i]=x at hx;have q1:(tx x.b=tx b)=(x.b=b):=propext rm;have q2:(tx x.k=tx k)=(x.k=k):=propext rm
   have nx:E7 b k x=false→∀(j:Nat) (e:En),j<i+1→l[j]? =some e→E7 b k e=false:=fun hf j e hj he=>by
    by_cases q:j=i
    ·subst q;rw[hx]at he;cases he;exact hf
    ·exact hinv j e (by omega) he
   refine @aa _ (aZ @hx @e1 @q1 @q2 ?_);refine⟨fun _=>⟨hil,fun h1=>⟨hil,fun h2=>?_,fun h2=>⟨hil,nx (decide_eq_false fun q=>h2 q.2)⟩⟩,fun h1=>⟨hil,nx (decide_eq_false fun q=>h1 q.1)⟩⟩,fun h=>absurd hil h⟩;have hi:=CE hx (decide_eq_true ⟨h1,h2⟩) hinv;unfold aP;rw[hi,if_pos hil]
  ·refine @aa _ (av ?_);refine⟨fun h=>absurd h hil,fun _=>?_⟩;unfold aP;rw[if_neg (Bt fun j e hj=>hinv j e (by omega))]
def lK(b k:List UInt8)(e:En):Bool:=decide (e.b≠b∨(k≠[]∧e.k≠k))
def cS(l:List En)(b k:List UInt8):List En:=l.filter (lK b k)
theorem kz{α:Type}{l:List α}{p:α→Bool}{i:Nat}{x:α}(h:l[i]? =some x):(l.take (i+1)).filter p=(l.take i).filter p++if p x then [x]else []:=by
 rw[abY,h,acK];congr 1;cases hp:p x <;>simp[hp]
theorem u4(w0:W0)(l:List En)(b k:List UInt8)(h0:l.length≤1048576)(S:St):ab Tryz.prog w0 95 [dQ l,dS (tx b),dS (tx k)] S (fun d S'=>d=dQ (cS l b k)∧S'=S):=by
 refine eT (ab.mono (K:=fun d S'=>∃lo:FN S.acc,d= .acc lo.n ((cS l b k).map xS).length∧S'=⟨S.box,(lo.n,.arr 3 ((cS l b k).map xS))::S.acc⟩) ?_ ?_)
 ·refine AX 3 (by omega) ?_;refine lO [] mx Tryz.func95 rfl rfl (by kernel_rfl) ?_;refine @aa _ (ah @Tryz.ntmps95 ?_);refine jr 7 3 rfl (by omega) fun lo=>?_;refine aQ [] l.length [0,1,2,7,8] (fun i=>[(7,.acc lo.n ((l.take i).filter (lK b k)).length),(8,dI i)]) (fun i=>⟨S.box,(lo.n,.arr 3 (((l.take i).filter (lK b k)).map xS))::S.acc⟩) (fun _=>True) mx (by kernel_rfl) ?_ ?_
  ·refine @aa _ (av ?_);exact⟨.refl _,.refl _⟩
  intro i hi _;have e1:i<4611686018427387904→IntKind.i64.wrap ((i:Int)+1)=((i+1:Nat):Int):=fun h=>aJ (by omega);have hfl:((l.take i).filter (lK b k)).length≤i:=ack (acz _ _) (by rw[ab2];omega);by_cases hil:i<l.length
  ·have e1:=e1 (by omega);have hx:l[i]? =some l[i]:=aac hil;generalize l[i]=x at hx;have kt:lK b k x=true→(l.take (i+1)).filter (lK b k)=(l.take i).filter (lK b k)++[x]:=fun h=>by rw[kz hx,if_pos h]
   have kf:lK b k x=false→(l.take (i+1)).filter (lK b k)=(l.take i).filter (lK b k):=fun h=>by rw[kz hx,if_neg (by rw[h];simp),aco]
   have q1:(tx x.b=tx b)=(x.b=b):=propext rm;have q2:(tx x.k=tx k)=(x.k=k):=propext rm;refine @aa _ (aZ @hx @e1 @q1 @q2 ?_);refine⟨fun _=>⟨hil,fun h1=>⟨hil,?_⟩,fun h1=>⟨fun h2=>⟨hil,fun h3=>⟨hil,?_⟩,fun h3=>⟨hil,?_⟩⟩,fun h2=>⟨hil,?_⟩⟩⟩,fun h=>absurd hil h⟩
   ·rw[kt (decide_eq_true (.inl h1)),aaZ,aaK];exact⟨by omega,by unfold maxLen;omega,hil,.refl _,.refl _⟩
   ·rw[kf (decide_eq_false fun q=>q.elim h1 fun q=>q.2 h3)];exact⟨.refl _,.refl _⟩
   ·rw[kt (decide_eq_true (.inr ⟨h2,h3⟩)),aaZ,aaK];exact⟨by omega,by unfold maxLen;omega,hil,.refl _,.refl _⟩
   ·rw[kf (decide_eq_false fun q=>q.elim h1 fun q=>h2 q.1)];exact⟨.refl _,.refl _⟩
  ·refine @aa _ (av ?_);refine⟨fun h=>absurd h hil,fun _=>?_⟩;rw[abf (by omega)];exact .inr ⟨lo,rfl,rfl⟩
 ·rintro d S' ⟨lo,rfl,rfl⟩;exact @aa _ bY
def R9(e x:En):Bool:=!QS (tx x.b) (tx e.b)||(decide (x.b=e.b)&&!xx (tx x.k) (tx e.k))
def lI(e:En)(s:List En×Bool)(x:En):List En×Bool:=
 let s:=if s.2=false∧R9 e x=true then(s.1++[e],true)else s
 if x.b=e.b∧x.k=e.k then s else(s.1++[x],s.2)
def dt(e:En)(l:List En):List En×Bool:=l.foldl (lI e) ([],false)
def fX(l:List En)(e:En):List En:=if(dt e l).2 then(dt e l).1 else(dt e l).1++[e]
theorem nW{e:En}{l:List En}{i:Nat}{x:En}(h:l[i]? =some x):dt e (l.take (i+1))=lI e (dt e (l.take i)) x:=by
 unfold dt;rw[abY,h,ac9];rfl
theorem ER(e:En)(s:List En×Bool)(x:En):(lI e s x).1.length≤s.1.length+2:=by
 unfold lI;simp only
 repeat' split
 all_goals simp
theorem Gb(e:En)(l:List En):∀i,i≤l.length→(dt e (l.take i)).1.length≤2*i:=by
 intro i
 induction i with
 |zero=>intro _;exact aar _
 |succ i ih=>
  intro hi;rw[nW (aac (by omega:i<l.length))];have:=ER e (dt e (l.take i)) (l[i]'(by omega));have:=ih (by omega);omega
theorem lx{n a b:Nat}(h:a=b):Wk (.acc n a) (.acc n b):=h▸ .refl _
theorem IA{B:List (Nat×List DV)}{A:List (Nat×Ob)}{n k:Nat}{xs ys:List DV}(h:xs=ys):Aml.Sub ⟨B,(n,.arr k xs)::A⟩ ⟨B,(n,.arr k ys)::A⟩:=h▸ .refl _
theorem Cv(w0:W0)(l:List En)(e:En)(h0:l.length≤1048576)(S:St):ab Tryz.prog w0 92 [dQ l,xS e] S (fun d S'=>d=dQ (fX l e)∧S'=S):=by
 refine bI [] mx Tryz.func92 rfl rfl (by kernel_rfl) ?_;refine @aa _ (ah @Tryz.ntmps92 ?_);intro be;refine jr 5 3 rfl (by omega) fun lo=>?_;refine aQ [] l.length [0,3,5,6,7] (fun i=>[(5,.acc lo.n (dt e (l.take i)).1.length),(6,dB (dt e (l.take i)).2),(7,dI i)]) (fun i=>⟨(be.n,[dS (tx e.b),dS (tx e.k),dS (tx e.v)])::S.box,(lo.n,.arr 3 ((dt e (l.take i)).1.map xS))::S.acc⟩) (fun _=>True) mx (by kernel_rfl) ?_ ?_
 ·refine @aa _ (av ?_);exact⟨⟨.refl _,rfl⟩,.refl _⟩
 intro i hi _;have e1:i<4611686018427387904→IntKind.i64.wrap ((i:Int)+1)=((i+1:Nat):Int):=fun h=>aJ (by omega);have hfl:=Gb e l i hi;by_cases hil:i<l.length
 ·have e1:=e1 (by omega);have hx:l[i]? =some l[i]:=aac hil;generalize l[i]=x at hx;have hst:=nW (e:=e) hx;generalize dt e (l.take i)=s at hst hfl ⊢;obtain⟨out,dn⟩:=s;simp only at hfl ⊢;obtain⟨b1,g1⟩:∃b,QS (tx x.b) (tx e.b)=b:=⟨_,rfl⟩;obtain⟨b2,g2⟩:∃b,xx (tx x.k) (tx e.k)=b:=⟨_,rfl⟩
  have hst:dt e (l.take (i+1))=(let s:=if dn=false∧(!b1||(decide (x.b=e.b)&&!b2))=true then(out++[e],true)else(out,dn);if x.b=e.b∧x.k=e.k then s else(s.1++[x],s.2)):=by
   rw[hst,←g1,←g2];rfl
  have fA:dn=false→(b1=false∨(x.b=e.b∧b2=false))→(x.b=e.b∧x.k=e.k)→dt e (l.take (i+1))=(out++[e],true):=fun h1 h2 h3=>by
   rw[hst];simp only;rw[if_pos h3,if_pos ⟨h1,by rcases h2 with h|h <;>simp[h]⟩]
  have fB:dn=false→(b1=false∨(x.b=e.b∧b2=false))→¬(x.b=e.b∧x.k=e.k)→dt e (l.take (i+1))=(out++[e]++[x],true):=fun h1 h2 h3=>by
   rw[hst];simp only;rw[if_neg h3,if_pos ⟨h1,by rcases h2 with h|h <;>simp[h]⟩]
  have fC:¬(dn=false∧(b1=false∨(x.b=e.b∧b2=false)))→(x.b=e.b∧x.k=e.k)→dt e (l.take (i+1))=(out,dn):=fun h2 h3=>by
   rw[hst];simp only;rw[if_pos h3,if_neg fun q=>h2 ⟨q.1,by have:=q.2;simpa[acx,aak]using this⟩]
  have fD:¬(dn=false∧(b1=false∨(x.b=e.b∧b2=false)))→¬(x.b=e.b∧x.k=e.k)→dt e (l.take (i+1))=(out++[x],dn):=fun h2 h3=>by
   rw[hst];simp only;rw[if_neg h3,if_neg fun q=>h2 ⟨q.1,by have:=q.2;simpa[acx,aak]using this⟩]
  clear hst;have hexp:(dt e (l.take (i+1)))=(dt e (l.take (i+1))):=rfl;obtain⟨PB,hPB⟩:∃P:Prop,(x.b=e.b)=P:=⟨_,rfl⟩;obtain⟨PK,hPK⟩:∃P:Prop,(x.k=e.k)=P:=⟨_,rfl⟩;have q1:(tx x.b=tx e.b)=PB:=(propext rm).trans hPB;have q2:(tx x.k=tx e.k)=PK:=(propext rm).trans hPK;rw[hPB,hPK]at fA fB fC fD;obtain⟨W,hW⟩:∃W,dt e (l.take (i+1))=W:=⟨_,rfl⟩;rw[hW]at fA fB fC fD ⊢
  have hall:((dn=false∧(b1=false∨(PB∧b2=false)))∧(PB∧PK)∧W=(out++[e],true))∨((dn=false∧(b1=false∨(PB∧b2=false)))∧¬(PB∧PK)∧W=(out++[e]++[x],true))∨(¬(dn=false∧(b1=false∨(PB∧b2=false)))∧(PB∧PK)∧W=(out,dn))∨(¬(dn=false∧(b1=false∨(PB∧b2=false)))∧¬(PB∧PK)∧W=(out++[x],dn)):=by
   rcases ac3 (dn=false∧(b1=false∨(PB∧b2=false)))with h|h <;>rcases ac3 (PB∧PK)with k|k
   ·exact .inl ⟨h,k,fA h.1 h.2 k⟩
   ·exact .inr (.inl ⟨h,k,fB h.1 h.2 k⟩)
   ·exact .inr (.inr (.inl ⟨h,k,fC h k⟩))
   ·exact .inr (.inr (.inr ⟨h,k,fD h k⟩))
  clear fA fB fC fD hW;have hilT:(i<l.length)=True:=eq_true hil;refine @aa _ (kH @hx @e1 @q1 @q2 @hilT @g1 @g2 ?_);simp only[hPB,hPK];clear g1 g2 q1 q2 hPB hPK hexp hx
  repeat' first|(refine lx ?_)|(refine IA ?_)|(refine And.intro ?_ ?_)|(intro _)
  all_goals first
   |omega
   |(unfold maxLen;omega)
   |(rcases hall with⟨h1,h2,rfl⟩|⟨h1,h2,rfl⟩|⟨h1,h2,rfl⟩|⟨h1,h2,rfl⟩ <;>simp_all [xS,dS] <;>done)
   |skip
 ·have hilF:(i<l.length)=False:=eq_false hil;rw[abf (by omega)]at hfl ⊢;refine @aa _ (ah @hilF ?_);have hE:fX l e=if(dt e l).2 then(dt e l).1 else(dt e l).1++[e]:=rfl
  have hli:i≤1048576:=by omega
  refine⟨fun h=>?_,fun h=>⟨by omega,by unfold maxLen;omega,?_⟩⟩
  ·rw[hE,if_pos h];exact .refl _
  ·rw[hE,if_neg (by rw[h];simp),aaZ];exact .refl _
def pC(x y:En):Prop:=x.b<y.b∨(x.b=y.b∧x.k<y.k)
theorem qD{x y z:En}(h:pC x y)(k:pC y z):pC x z:=by
 rcases h with h|⟨h1,h2⟩ <;>rcases k with k|⟨k1,k2⟩
 ·exact .inl (adO h k)
 ·exact .inl (k1▸h)
 ·exact .inl (h1▸k)
 ·exact .inr ⟨h1.trans k1,adO h2 k2⟩
theorem Df(x:En):¬pC x x:=fun h=>h.elim (acj _) fun h=>acj _ h.2
structure El(l:List En)(F:eZ):Prop where
 uW:l.Pairwise pC
 mem:∀e,e∈l↔(e.k=[]∧e.v=[]∧F e.b≠none)∨(e.k≠[]∧∃f,F e.b=some f∧f e.k=some e.v)
 ne:∀b f,F b=some f→f []=none
theorem El.nil:El [] fun _=>none:=⟨.nil,fun e=>by simp,fun b f h=>by cases h⟩
theorem ux{l m:List En}(hl:l.Pairwise pC)(hm:m.Pairwise pC)(h:∀e,e∈l↔e∈m):l=m:=by
 have nd:∀{l:List En},l.Pairwise pC→l.Nodup:=fun{l} h=>List.Pairwise.imp (R:=pC) (S:=(·≠·)) (fun{a b} (hab:pC a b) (e:a=b)=>Df b (by rw[e]at hab;exact hab)) h;refine((List.perm_ext_iff_of_nodup (nd hl) (nd hm)).2 h).eq_of_pairwise (fun a b _ _ h1 h2=>absurd (qD h1 h2) (Df _)) hl hm
theorem El.uniq{l m:List En}{F:eZ}(hl:El l F)(hm:El m F):l=m:=ux hl.uW hm.uW fun e=>(hl.mem e).trans (hm.mem e).symm
theorem yy{l:List En}{b k:List UInt8}:0≤aP l b k↔∃e,e∈l∧e.b=b∧e.k=k:=by
 unfold aP;constructor
 ·intro h;by_cases hi:l.findIdx (E7 b k)<l.length
  ·have h1:=List.findIdx_getElem (w:=hi);exact⟨_,acH hi,of_decide_eq_true h1⟩
  ·rw[if_neg hi]at h;omega
 ·rintro⟨e,he,h⟩;rw[if_pos (List.findIdx_lt_length_of_exists ⟨e,he,decide_eq_true h⟩)];omega
theorem El.bucket{l:List En}{F:eZ}(h:El l F)(b:List UInt8):0≤aP l b []↔(F b).isSome=true:=by
 rw[yy];constructor
 ·rintro⟨e,he,rfl,hk⟩;rcases(h.mem e).1 he with q|q
  ·exact Option.isSome_iff_ne_none.2 q.2.2
  ·exact absurd hk q.1
 ·intro hF;exact⟨⟨b,[],[]⟩,(h.mem _).2 (.inl ⟨rfl,rfl,Option.isSome_iff_ne_none.1 hF⟩),rfl,rfl⟩
theorem El.key{l:List En}{F:eZ}(h:El l F){b k:List UInt8}(hk:k≠[]):0≤aP l b k↔∃f v,F b=some f∧f k=some v:=by
 rw[yy];constructor
 ·rintro⟨e,he,rfl,rfl⟩;rcases(h.mem e).1 he with q|q
  ·exact absurd q.1 hk
  ·obtain⟨f,h1,h2⟩:=q.2;exact⟨f,_,h1,h2⟩
 ·rintro⟨f,v,h1,h2⟩;exact⟨⟨b,k,v⟩,(h.mem _).2 (.inr ⟨hk,f,h1,h2⟩),rfl,rfl⟩
theorem QD(w0:W0)(s:List UInt8)(m:Int)(S:St):ab Tryz.prog w0 94 [dS (tx s),dI m] S (fun d S'=>d=dB (decide (cH s m))∧S'=S):=by
 have hs:(tx s).size=s.length:=cV _;refine bI [] mx Tryz.func94 rfl rfl (by kernel_rfl) ?_;refine @aa _ (cK @Tryz.ntmps94 @hs ?_);exact⟨fun h=>⟨fun q=>⟨h,q⟩,fun q=>q.2⟩,fun h q=>h q.1⟩
theorem El.NA{l:List En}{F:eZ}(h:El l F){b k:List UInt8}(hk:k≠[]){f:List UInt8→Option (List UInt8)}(hf:F b=some f):El (cS l b k) (dG F b (mT f k)):=by
 refine⟨h.uW.filter _,fun e=>?_,fun n g hg=>?_⟩
 ·unfold cS lK;rw[abO,h.mem e,decide_eq_true_eq];unfold dG mT;by_cases e1:e.b=b
  ·by_cases e2:e.k=k
   ·subst e1 e2;simp[hf,hk]
   ·subst e1;simp[hf,hk,e2]
  ·simp[e1]
 ·unfold dG at hg;by_cases e1:n=b
  ·rw[if_pos e1]at hg;cases hg;unfold mT;rw[if_neg (fun q=>hk q.symm)];exact h.ne b f hf
  ·rw[if_neg e1]at hg;exact h.ne n g hg
theorem El.drop{l:List En}{F:eZ}(h:El l F)(b:List UInt8):El (cS l b []) (mT F b):=by
 refine⟨h.uW.filter _,fun e=>?_,fun n g hg=>?_⟩
 ·unfold cS lK;rw[abO,h.mem e,decide_eq_true_eq];unfold mT;by_cases e1:e.b=b
  ·simp[e1]
  ·simp[e1]
 ·unfold mT at hg;by_cases e1:n=b
  ·rw[if_pos e1]at hg;cases hg
  ·rw[if_neg e1]at hg;exact h.ne n g hg
theorem Cq(a b:List UInt8):xx (tx a) (tx b)=decide (a<b):=by
 rw[←sj];rfl
theorem JN(a b:List UInt8):a<b∨a=b∨b<a:=by
 by_cases h:a<b
 ·exact .inl h
 ·rcases List.le_iff_lt_or_eq.1 (List.not_lt.1 h)with h|h
  ·exact .inr (.inr h)
  ·exact .inr (.inl h.symm)
theorem Dm(e x:En):R9 e x=true↔e.b<x.b∨(x.b=e.b∧¬x.k<e.k):=by
 unfold R9;rw[Tz,Cq,Cq];simp
theorem RT(e x:En):R9 e x=false↔pC x e:=by
 have h:=Dm e x;unfold pC;constructor
 ·intro q;have q':¬(e.b<x.b∨(x.b=e.b∧¬x.k<e.k)):=fun r=>by rw[h.2 r]at q;cases q
  rcases JN x.b e.b with t|t|t
  ·exact .inl t
  ·exact .inr ⟨t,abF fun r=>q' (.inr ⟨t,r⟩)⟩
  ·exact absurd (.inl t) q'
 ·intro q;rw[←ads];intro r;rcases h.1 r with t|⟨t1,t2⟩ <;>rcases q with q|⟨q1,q2⟩
  ·exact acj _ (adO t q)
  ·rw[q1]at t;exact acj _ t
  ·rw[t1]at q;exact acj _ q
  ·exact t2 q2
def jW(e x:En):Prop:=x.b=e.b∧x.k=e.k
theorem Ra{e x:En}(h:R9 e x=true)(hs:¬jW e x):pC e x:=by
 rcases(Dm e x).1 h with t|⟨t1,t2⟩
 ·exact .inl t
 ·rcases JN x.k e.k with k|k|k
  ·exact absurd k t2
  ·exact absurd ⟨t1,k⟩ hs
  ·exact .inr ⟨t1.symm,k⟩
theorem jc{e x:En}(h:pC x e∨pC e x):¬jW e x:=fun s=>by
 rcases h with(h|⟨_,h⟩)|(h|⟨_,h⟩)
 ·rw[s.1]at h;exact acj _ h
 ·rw[s.2]at h;exact acj _ h
 ·rw[s.1]at h;exact acj _ h
 ·rw[s.2]at h;exact acj _ h
structure Pg(e:En)(p:List En)(s:List En×Bool):Prop where
 no:s.2=false→s.1=p∧∀x,x∈p→pC x e
 yes:s.2=true→s.1.Pairwise pC∧(∀z,z∈s.1↔z=e∨(z∈p∧¬jW e z))∧∀x,(∀y,y∈p→pC y x)→pC e x
theorem oM{l:List En}{x:En}(h:l.Pairwise pC)(hx:∀y,y∈l→pC y x):(l++[x]).Pairwise pC:=
 adl.2 ⟨h,adN _ _,fun a ha b hb=>by rw[aau.1 hb];exact hx a ha⟩
theorem Pg.step{e:En}{p:List En}{s:List En×Bool}(h:Pg e p s)(hp:p.Pairwise pC){x:En}(hx:∀y,y∈p→pC y x):Pg e (p++[x]) (lI e s x):=by
 obtain⟨out,dn⟩:=s;unfold lI
 cases dn with
 |false=>
  obtain⟨rfl,h2⟩:=h.no rfl
  cases hg:R9 e x with
  |false=>
   have hl:=(RT e x).1 hg;have hs:¬jW e x:=jc (.inl hl);unfold jW at hs;simp only[hs,if_false,reduceCtorEq,and_false,if_neg,not_false_eq_true];refine⟨fun _=>⟨rfl,fun y hy=>?_⟩,fun q=>(by cases q)⟩;rcases aaD.1 hy with hy|hy
   ·exact h2 y hy
   ·rw[aau.1 hy];exact hl
  |true=>
   by_cases hs:jW e x
   ·have hs':=hs;unfold jW at hs';simp only[hs',and_self,if_true];refine⟨fun q=>(by cases q),fun _=>⟨oM hp h2,fun z=>?_,fun y hy=>?_⟩⟩
    ·simp only[aaD,aau];constructor
     ·rintro(q|q)
      ·exact .inr ⟨.inl q,jc (.inl (h2 z q))⟩
      ·exact .inl q
     ·rintro(q|⟨q|q,r⟩)
      ·exact .inr q
      ·exact .inl q
      ·rw[q]at r;exact absurd hs r
    ·have:=hy x (by simp);unfold pC at this ⊢;rw[hs.1,hs.2]at this;exact this
   ·have hs':=hs;unfold jW at hs';have hgt:=Ra hg hs;simp only[hs',and_self,if_true,if_false];refine⟨fun q=>(by cases q),fun _=>⟨oM (oM hp h2) fun y hy=>?_,fun z=>?_,fun y hy=>qD hgt (hy x (by simp))⟩⟩
    ·rcases aaD.1 hy with hy|hy
     ·exact hx y hy
     ·rw[aau.1 hy];exact hgt
    ·simp only[aaD,aau];constructor
     ·rintro((q|q)|q)
      ·exact .inr ⟨.inl q,jc (.inl (h2 z q))⟩
      ·exact .inl q
      ·rw[q];exact .inr ⟨.inr rfl,hs⟩
     ·rintro(q|⟨q|q,r⟩)
      ·exact .inl (.inr q)
      ·exact .inl (.inl q)
      ·exact .inr q
 |true=>
  obtain⟨h1,h2,h3⟩:=h.yes rfl;have hgt:=h3 x hx;have hs:¬jW e x:=jc (.inr hgt);have hs':=hs;unfold jW at hs';simp only[hs',if_false,reduceCtorEq,false_and];refine⟨fun q=>(by cases q),fun _=>⟨oM h1 fun y hy=>?_,fun z=>?_,fun y hy=>qD hgt (hy x (by simp))⟩⟩
  ·rcases(h2 y).1 hy with q|q
   ·rw[q];exact hgt
   ·exact hx y q.1
  ·simp only[aaD,aau,h2];constructor
   ·rintro((q|q)|q)
    ·exact .inl q
    ·exact .inr ⟨.inl q.1,q.2⟩
    ·rw[q];exact .inr ⟨.inr rfl,hs⟩
   ·rintro(q|⟨q|q,r⟩)
    ·exact .inl (.inl q)
    ·exact .inl (.inr ⟨q,r⟩)
    ·exact .inr q
theorem GW(e:En){l:List En}(hl:l.Pairwise pC):∀i,i≤l.length→Pg e (l.take i) (dt e (l.take i)):=by
 intro i
 induction i with
 |zero=>exact fun _=>⟨fun _=>⟨rfl,fun x hx=>(by cases hx)⟩,fun q=>(by cases q)⟩
 |succ i ih=>
  intro hi;have hx:l[i]? =some (l[i]'(by omega)):=aac (by omega);have e1:l.take (i+1)=l.take i++[l[i]'(by omega)]:=by rw[abY,hx];rfl
  rw[nW hx,e1];refine(ih (by omega)).step (hl.sublist (List.take_sublist _ _)) fun y hy=>?_;have hp:=hl.sublist (List.take_sublist (i+1) l);rw[e1]at hp;exact(adl.1 hp).2.2 y hy _ (aau.2 rfl)
theorem tR{e:En}{l:List En}(hl:l.Pairwise pC):(fX l e).Pairwise pC∧∀z,z∈fX l e↔z=e∨(z∈l∧¬jW e z):=by
 have h:=GW e hl l.length (aar _);rw[List.take_length]at h;unfold fX
 cases hd:(dt e l).2 with
 |true=>
  rw[if_pos rfl];exact⟨(h.yes hd).1,(h.yes hd).2.1⟩
 |false=>
  rw[if_neg (by simp)];obtain⟨h1,h2⟩:=h.no hd;rw[h1];refine⟨oM hl h2,fun z=>?_⟩;simp only[aaD,aau];constructor
  ·rintro(q|q)
   ·exact .inr ⟨q,jc (.inl (h2 z q))⟩
   ·exact .inl q
  ·rintro(q|q)
   ·exact .inr q
   ·exact .inl q.1
theorem El.put{l:List En}{F:eZ}(h:El l F){b k v:List UInt8}(hk:k≠[]){f:List UInt8→Option (List UInt8)}(hf:F b=some f):El (fX l ⟨b,k,v⟩) (dG F b fun j=>if j=k then some v else f j):=by
 have hs:=tR (e:=⟨b,k,v⟩) h.uW;refine⟨hs.1,fun z=>?_,fun n g hg=>?_⟩
 ·rw[hs.2,h.mem z];unfold jW dG;obtain⟨zb,zk,zv⟩:=z;simp only[En.mk.injEq];by_cases e1:zb=b
  ·subst e1;by_cases e2:zk=k
   ·subst e2;simp[hk,hf,eq_comm]
   ·simp[hf,e2]
  ·simp[e1]
 ·unfold dG at hg;by_cases e1:n=b
  ·rw[if_pos e1]at hg;cases hg;simp only;rw[if_neg (fun q=>hk q.symm)];exact h.ne b f hf
  ·rw[if_neg e1]at hg;exact h.ne n g hg
theorem El.make{l:List En}{F:eZ}(h:El l F){b:List UInt8}(hf:F b=none):El (fX l ⟨b,[],[]⟩) (dG F b fun _=>none):=by
 have hs:=tR (e:=⟨b,[],[]⟩) h.uW;refine⟨hs.1,fun z=>?_,fun n g hg=>?_⟩
 ·rw[hs.2,h.mem z];unfold jW dG;obtain⟨zb,zk,zv⟩:=z;simp only[En.mk.injEq];by_cases e1:zb=b
  ·subst e1;by_cases e2:zk=[]
   ·subst e2;simp[hf]
   ·simp[hf,e2]
  ·simp[e1]
 ·unfold dG at hg;by_cases e1:n=b
  ·rw[if_pos e1]at hg;cases hg;rfl
  ·rw[if_neg e1]at hg;exact h.ne n g hg
theorem wL{α:Type}(f:List UInt8→Option α):(dp f).Pairwise (·<·):=
 ((tH f).and (vU f)).imp fun{a b} h=>(List.le_iff_lt_or_eq.1 h.1).resolve_right h.2
theorem wi{α:Type}{f:List UInt8→Option α}(hV:∃V:List (List UInt8),V.Nodup∧∀k,k∈V↔f k≠none)(k:List UInt8):k∈dp f↔f k≠none:=by
 obtain⟨V,h1,h2⟩:=hV;rw[s7 h1 h2,←h2 k];exact(adq _ _).mem_iff
theorem El.Vs{l:List En}{F:eZ}(h:El l F):∃V:List (List UInt8),V.Nodup∧∀k,k∈V↔F k≠none:=by
 refine⟨(l.filter fun e=>decide (e.k=[])).map En.b,?_,fun n=>?_⟩
 ·refine adZ.2 (List.Pairwise.imp_of_mem ?_ (h.uW.filter _));intro a b ha hb hab e;have ha:=of_decide_eq_true (abO.1 ha).2;have hb:=of_decide_eq_true (abO.1 hb).2;rcases hab with q|⟨_,q⟩
  ·rw[e]at q;exact acj _ q
  ·rw[ha,hb]at q;exact acj _ q
 ·rw[aaT];constructor
  ·rintro⟨e,he,rfl⟩;obtain⟨h1,h2⟩:=abO.1 he;rcases(h.mem e).1 h1 with q|q
   ·exact q.2.2
   ·exact absurd (of_decide_eq_true h2) q.1
  ·intro hF;exact⟨⟨n,[],[]⟩,abO.2 ⟨(h.mem _).2 (.inl ⟨rfl,rfl,hF⟩),decide_eq_true rfl⟩,rfl⟩
theorem El.Wi{l:List En}{F:eZ}(h:El l F){n:List UInt8}{f:List UInt8→Option (List UInt8)}(hf:F n=some f):∃V:List (List UInt8),V.Nodup∧∀k,k∈V↔f k≠none:=by
 refine⟨(l.filter fun e=>decide (e.b=n∧e.k≠[])).map En.k,?_,fun k=>?_⟩
 ·refine adZ.2 (List.Pairwise.imp_of_mem ?_ (h.uW.filter _));intro a b ha hb hab e;have ha:=of_decide_eq_true (abO.1 ha).2;have hb:=of_decide_eq_true (abO.1 hb).2;rcases hab with q|⟨_,q⟩
  ·rw[ha.1,hb.1]at q;exact acj _ q
  ·rw[e]at q;exact acj _ q
 ·rw[aaT];constructor
  ·rintro⟨e,he,rfl⟩;obtain⟨h1,h2⟩:=abO.1 he;have h2:=of_decide_eq_true h2;rcases(h.mem e).1 h1 with q|⟨_,g,q1,q2⟩
   ·exact absurd q.1 h2.2
   ·rw[h2.1,hf]at q1;cases q1;rw[q2];simp
  ·intro hk;obtain⟨v,hv⟩:=abr.1 hk;have hne:k≠[]:=fun e=>by rw[e,h.ne n f hf]at hv;cases hv
   exact⟨⟨n,k,v⟩,abO.2 ⟨(h.mem _).2 (.inr ⟨hne,f,hf,hv⟩),decide_eq_true ⟨rfl,hne⟩⟩,rfl⟩
noncomputable def re(n:List UInt8)(f:List UInt8→Option (List UInt8)):List En:=(dp f).map fun k=>⟨n,k,(f k).getD []⟩
theorem El.own{l:List En}{F:eZ}(h:El l F){n:List UInt8}{f:List UInt8→Option (List UInt8)}(hf:F n=some f):l.filter (fun e=>decide (e.b=n∧e.k≠[]))=re n f:=by
 refine ux (h.uW.filter _) (adZ.2 ((wL f).imp fun hab=> .inr ⟨rfl,hab⟩)) fun e=>?_;unfold re;rw[abO,aaT,h.mem e,decide_eq_true_eq];constructor
 ·rintro⟨q,rfl,hne⟩;rcases q with q|⟨_,g,q1,q2⟩
  ·exact absurd q.1 hne
  ·rw[hf]at q1;cases q1;exact⟨e.k,(wi (h.Wi hf) _).2 (by rw[q2];simp),by rw[q2];rfl⟩
 ·rintro⟨k,hk,rfl⟩;have hk:=(wi (h.Wi hf) _).1 hk;obtain⟨v,hv⟩:=abr.1 hk;have hne:k≠[]:=fun e=>by rw[e,h.ne n f hf]at hv;cases hv
  exact⟨.inr ⟨hne,f,hf,by rw[hv];rfl⟩,rfl,hne⟩
theorem El.rows{l:List En}{F:eZ}(h:El l F):l.filter (fun e=>decide (e.k≠[]))=(dp F).flatMap fun n=>re n ((F n).getD fun _=>none):=by
 have hin:∀n,n∈dp F→∃f,F n=some f:=fun n hn=>abr.1 ((wi h.Vs n).1 hn);refine ux (h.uW.filter _) (List.pairwise_flatMap.2 ⟨fun n hn=>?_,(wL F).imp fun hab x hx y hy=>?_⟩) fun e=>?_
 ·exact adZ.2 ((wL _).imp fun hab=> .inr ⟨rfl,hab⟩)
 ·obtain⟨_,_,rfl⟩:=aaT.1 hx;obtain⟨_,_,rfl⟩:=aaT.1 hy;exact .inl hab
 ·rw[abO,List.mem_flatMap,decide_eq_true_eq];constructor
  ·rintro⟨h1,hne⟩;rcases(h.mem e).1 h1 with q|⟨_,f,q1,q2⟩
   ·exact absurd q.1 hne
   ·refine⟨e.b,(wi h.Vs _).2 (by rw[q1];simp),?_⟩;rw[q1];show e∈re e.b f;rw[←h.own q1];exact abO.2 ⟨h1,decide_eq_true ⟨rfl,hne⟩⟩
  ·rintro⟨n,hn,he⟩;obtain⟨f,hf⟩:=hin n hn;rw[hf]at he;have he:e∈re n f:=he;rw[←h.own hf]at he;have:=abO.1 he;exact⟨this.1,(of_decide_eq_true this.2).2⟩
def tO(x:Int)(l:List En):List dA:=(l.filter fun e=>decide (e.k≠[])).map fun e=>⟨e.b++[47]++e.k,x,e.v⟩
theorem El.Zj{l:List En}{F:eZ}(h:El l F)(x:Int):tO x l=nU x F:=by
 unfold tO nU;rw[h.rows,List.map_flatMap];refine congrArg (fun g=>(dp F).flatMap g) (funext fun n=>?_);unfold re jO;rw[adu];rfl
def pE(c:Cf)(rL rA rH rD n:Nat)(ss sp:DV):List DV:=[.sl 1 false (aA c.nm),dH c.up,iH c.qu,gL c.gr,.acc rL n,.acc rA n,.acc rH n,.acc rD n,ss,sp]
theorem Fb{x:Int}{l:List En}{i:Nat}{e:En}(h:l[i]? =some e):tO x (l.take (i+1))=tO x (l.take i)++if e.k≠[]then [⟨e.b++[47]++e.k,x,e.v⟩]else []:=by
 unfold tO;rw[kz h,aaZ];congr 1;by_cases hk:e.k≠[]
 ·simp[hk]
 ·simp[hk]
theorem GM(w0:W0){S:St}{w rL rA rH rD n:Nat}{c:Cf}{ss sp:DV}{ls:List (List En)}{l:List En}{x:Nat}(hb:lk S.box w=some (pE c rL rA rH rD n ss sp))(hr:lk S.acc rL=some (.arr 1 (ls.map dQ)))(hn:ls.length=n)(hx:ls[x]? =some l)(hl:l.length≤1048576)(hz:∀e,e∈l→e.b.length≤1000∧e.k.length≤1000):
 ab Tryz.prog w0 18 [bC w,dI x] S (fun d S'=>d=dD (tO x l)∧S'=S):=by
 have hxl:x<n:=by have:=(aad.1 hx).1;omega
 unfold pE at hb;refine bI [] mx Tryz.func18 rfl rfl (by kernel_rfl) ?_;refine @aa _ (cK @Tryz.ntmps18 @hb ?_);refine jr 5 3 rfl (by omega) fun lo=>?_;have nl:=an lo rL (by rw[hr];rfl);refine aQ [] l.length [0,1,5,6] (fun i=>[(5,.acc lo.n (tO x (l.take i)).length),(6,dI i)]) (fun i=>⟨S.box,(lo.n,.arr 3 ((tO x (l.take i)).map oR))::S.acc⟩) (fun _=>True) mx (by kernel_rfl) ?_ ?_
 ·refine @aa _ (av ?_);exact⟨.refl _,.refl _⟩
 intro i hi _;have e1:IntKind.i64.wrap ((i:Int)+1)=((i+1:Nat):Int):=aJ (by omega)
 have hfl:(tO x (l.take i)).length≤i:=by
  unfold tO;rw[abI];exact ack (acz _ _) (by rw[ab2];omega)
 by_cases hil:i<l.length
 ·have hy:l[i]? =some l[i]:=aac hil;generalize l[i]=y at hy;have hsn:=Fb (x:=(x:Int)) hy;have hzy:=hz y (aaf hy);have s1:(tx y.b).size=y.b.length:=cV _;have s2:(tx y.k).size=y.k.length:=cV _;refine @aa _ (jL @hb @hr @nl @hx @hy @e1 ?_);rw[s1,s2];refine⟨fun _=>⟨hxl,hn,by omega,fun _=>⟨hxl,hn,by omega,hil,fun b=>⟨fun h=>⟨hil,?_⟩,fun h=>⟨by omega,by omega,by omega,by unfold maxLen;omega,hil,?_⟩⟩⟩,fun h=>absurd hil h⟩,fun h=>absurd hxl h⟩
  ·rw[hsn,if_neg (fun q=>q h),aco];refine⟨.refl _,?_⟩;exact @aa _ bY
  ·rw[hsn,if_pos h,aaZ,aaK];refine⟨.refl _,?_⟩
   have hcat:tx y.b++⟨#[47]⟩++tx y.k=tx (y.b++[47]++y.k):=by
    rw[show(⟨#[47]⟩:ByteArray)=tx [47]from rfl,Jy,Jy]
   rw[hcat];exact @aa _ bY
 ·refine @aa _ (aZ @hb @hr @nl @hx ?_);refine⟨fun _=>⟨hxl,hn,by omega,fun h=>absurd h hil,fun _=>?_⟩,fun h=>absurd hxl h⟩;rw[abf (by omega)];exact .refl _
theorem fq(w0:W0)(e:Int)(S:St):ab Tryz.prog w0 40 [dI e] S (fun d S'=>d=uM (dP e)∧S'=S):=by
 refine bI [] mx Tryz.func40 rfl rfl (by kernel_rfl) ?_;refine @aa _ (ah @Tryz.ntmps40 ?_);exact fun b=> .agg ⟨.refl _,.refl _,.nil _ _ _,.refl _,.refl _,.refl _,.refl _,.nil _ _ _,trivial⟩
theorem VF(w0:W0){S:St}{w rL rA rH rD n:Nat}{c:Cf}{r:List RH}{sp:DV}(o:aV)(hb:lk S.box w=some (pE c rL rA rH rD n (.sl 5 false (r.map wY)) sp))(hr:r.length≤1000000)(hl:(lL r o.level o.az).length≤1000000):
 ab Tryz.prog w0 84 [bC w,uB o] S (fun d S'=>d=dB (decide (o.snap∈lL r o.level o.az))∧S'=S):=by
 unfold pE at hb;refine bI [] mx Tryz.func84 rfl rfl (by kernel_rfl) ?_;refine @aa _ (ah @Tryz.ntmps84 ?_);intro b;have nb:=an b w (by rw[hb];rfl)
 try refine @aa _ (cK @nb @hb ?_)
 refine aR (PG w0 r o.level o.az _ hr) ?_;generalize lL r o.level o.az=q at hl ⊢;have hq:dL q= .sl 1 false (q.map dI):=rfl;rw[hq];refine @aa _ (av ?_);refine aQ [] q.length [3,5,6] (fun i=>[(3,.v (.pointer (some ⟨b.n,0,none⟩))),(5,.sl 1 false (q.map dI)),(6,dI i)]) (fun i=>⟨(b.n,o.ds)::S.box,S.acc⟩) (fun i=>∀j y,j<i→q[j]? =some y→y≠o.snap) mx (by kernel_rfl) ?_ ?_
 ·refine @aa _ (av ?_);exact fun j y hj=>absurd hj (Nat.not_lt_zero _)
 intro i hi hinv;have e1:IntKind.i64.wrap ((i:Int)+1)=((i+1:Nat):Int):=aJ (by omega);by_cases hil:i<q.length
 ·have hx:q[i]? =some q[i]:=aac hil;have hm:q[i]∈q:=acH _;generalize q[i]=x at hx hm;refine @aa _ (cK @hx @e1 ?_);refine⟨fun _=>⟨hil,fun h=>?_,fun h=>⟨hil,fun j y hj hy=>?_⟩⟩,fun h=>absurd hil h⟩
  ·exact h▸hm
  ·by_cases e:j=i
   ·subst e;rw[hx]at hy;cases hy;exact h
   ·exact hinv j y (by omega) hy
 ·refine @aa _ (av ?_);refine⟨fun h=>absurd h hil,fun _ hm=>?_⟩;obtain⟨j,hj⟩:=abv.1 hm;exact hinv j _ (by have:=(aad.1 hj).1;omega) hj rfl
theorem ub(l m:List dA):(jU l m).Perm (l++m):=by
 fun_induction jU l m with
 |case1 m=>exact .refl _
 |case2 l h=>rw[aco]
 |case3 a l b m h ih=>exact(ih.cons b).trans (List.perm_middle (l₁:=a::l)).symm
 |case4 a l b m h ih=>exact ih.cons a
def pF(a b:dA):Prop:=a.key<b.key∨(a.key=b.key∧a.mM≤b.mM)
theorem Ik{a b:dA}:cX b a=false↔pF a b:=by
 unfold cX pF;rw[sj];rcases JN a.key b.key with h|h|h
 ·have h1:¬b.key<a.key:=fun q=>acj _ (adO h q);have h2:b.key≠a.key:=fun e=>by rw[e]at h;exact acj _ h
  simp[h,h1,h2]
 ·rw[h];have h1:¬b.key<b.key:=acj _;simp[h1]
 ·have h1:¬a.key<b.key:=fun q=>acj _ (adO h q);have h2:a.key≠b.key:=fun e=>by rw[e]at h;exact acj _ h
  simp[h,h1,h2]
theorem qg{a b c:dA}(h:pF a b)(k:pF b c):pF a c:=by
 rcases h with h|⟨h1,h2⟩ <;>rcases k with k|⟨k1,k2⟩
 ·exact .inl (adO h k)
 ·exact .inl (k1▸h)
 ·exact .inl (h1▸k)
 ·exact .inr ⟨h1.trans k1,by omega⟩
theorem pZ{a b:dA}(h:cX a b=true):pF a b:=by
 unfold cX at h;rw[sj]at h;simp at h;rcases h with h|⟨h1,h2⟩
 ·exact .inl h
 ·exact .inr ⟨h1,by omega⟩
theorem BS(l m:List dA)(hl:l.Pairwise pF)(hm:m.Pairwise pF):(jU l m).Pairwise pF:=by
 fun_induction jU l m with
 |case1 m=>exact hm
 |case2 l h=>exact hl
 |case3 a l b m h ih=>
  refine acD.2 ⟨fun z hz=>?_,ih hl (acD.1 hm).2⟩;rcases aaD.1 ((ub (a::l) m).mem_iff.1 hz)with q|q
  ·rcases aaJ.1 q with q|q
   ·rw[q];exact pZ h
   ·exact qg (pZ h) ((acD.1 hl).1 z q)
  ·exact(acD.1 hm).1 z q
 |case4 a l b m h ih=>
  have hab:pF a b:=Ik.1 (by simpa using h);refine acD.2 ⟨fun z hz=>?_,ih (acD.1 hl).2 hm⟩;rcases aaD.1 ((ub l (b::m)).mem_iff.1 hz)with q|q
  ·exact(acD.1 hl).1 z q
  ·rcases aaJ.1 q with q|q
   ·rw[q];exact hab
   ·exact qg hab ((acD.1 hm).1 z q)
def jQ(out:List dA)(x:dA):List dA:=(out.reverse.dropWhile fun y=>cX x y).reverse++[x]++(out.reverse.takeWhile fun y=>cX x y).reverse
theorem EM(out:List dA)(x:dA):(jQ out x).Perm (out++[x]):=by
 unfold jQ
 have h:out=(out.reverse.dropWhile fun y=>cX x y).reverse++(out.reverse.takeWhile fun y=>cX x y).reverse:=by
  rw[←List.reverse_append,List.takeWhile_append_dropWhile,List.reverse_reverse]
 generalize (out.reverse.dropWhile fun y=>cX x y).reverse=A at h ⊢;generalize (out.reverse.takeWhile fun y=>cX x y).reverse=B at h ⊢;rw[h,acu,acu];exact(List.perm_append_comm (l₁:=[x]) (l₂:=B)).append_left A
theorem tV(l:List dA):∀out,(l.foldl jQ out).Perm (out++l):=by
 induction l with
 |nil=>intro out;rw[aco];exact .refl _
 |cons x l ih=>
  intro out;refine(ih (jQ out x)).trans ?_;rw[show out++x::l=(out++[x])++l by simp];exact(EM out x).append_right l
theorem A7(rows:List (List dA)):∀out,(rows.foldl jU out).Perm (out++rows.flatten):=by
 induction rows with
 |nil=>intro out;simp
 |cons r rows ih=>
  intro out;refine(ih (jU out r)).trans ?_;rw[List.flatten_cons,←acu];exact(ub out r).append_right _
theorem xz(rows:List (List dA))(hs:∀r,r∈rows→r.Pairwise pF):∀out,out.Pairwise pF→(rows.foldl jU out).Pairwise pF:=by
 induction rows with
 |nil=>exact fun out h=>h
 |cons r rows ih=>exact fun out h=>ih (fun q hq=>hs q (aat _ hq)) _ (BS out r h (hs r aaQ))
theorem EG{l m:List dA}(hl:l.Pairwise pF)(hm:m.Pairwise pF)(hp:l.Perm m)(hU:∀a b,a∈l→b∈l→a.key=b.key→a.mM=b.mM→a=b):l=m:=by
 refine hp.eq_of_pairwise (fun a b ha hb h1 h2=>?_) hl hm;have hb:=hp.mem_iff.2 hb;rcases h1 with h1|⟨h1,h3⟩ <;>rcases h2 with h2|⟨h2,h4⟩
 ·exact absurd (adO h1 h2) (acj _)
 ·rw[h2]at h1;exact absurd h1 (acj _)
 ·rw[h1]at h2;exact absurd h2 (acj _)
 ·exact hU a b ha hb h1 (by omega)
theorem Dr(x:dA):∀R:List dA,R.Pairwise (fun a b=>pF b a)→∀z,z∈R.dropWhile (fun y=>cX x y)→pF z x
 |[],_,z,hz=>by simp at hz
 |y::T,h,z,hz=>by
  rw[acD]at h;rw[List.dropWhile_cons]at hz;by_cases hy:cX x y=true
  ·rw[if_pos hy]at hz;exact Dr x T h.2 z hz
  ·rw[if_neg hy]at hz;have hyx:pF y x:=Ik.1 (by simpa using hy);rcases aaJ.1 hz with q|q
   ·rw[q];exact hyx
   ·exact qg (h.1 z q) hyx
theorem DC(x:dA):∀R:List dA,∀z,z∈R.takeWhile (fun y=>cX x y)→pF x z
 |[],z,hz=>by simp at hz
 |y::T,z,hz=>by
  rw[List.takeWhile_cons]at hz;by_cases hy:cX x y=true
  ·rw[if_pos hy]at hz;rcases aaJ.1 hz with q|q
   ·rw[q];exact pZ hy
   ·exact DC x T z q
  ·rw[if_neg hy]at hz;cases hz
theorem yG(out:List dA)(x:dA)(h:out.Pairwise pF):(jQ out x).Pairwise pF:=by
 have hr:out.reverse.Pairwise (fun a b=>pF b a):=List.pairwise_reverse.2 h
 have e:out=(out.reverse.dropWhile fun y=>cX x y).reverse++(out.reverse.takeWhile fun y=>cX x y).reverse:=by
  rw[←List.reverse_append,List.takeWhile_append_dropWhile,List.reverse_reverse]
 have hA:=Dr x _ hr;have hB:=DC x out.reverse;unfold jQ;have hA':∀z,z∈(out.reverse.dropWhile fun y=>cX x y).reverse→pF z x:=fun z hz=>hA z (List.mem_reverse.1 hz);have hB':∀z,z∈(out.reverse.takeWhile fun y=>cX x y).reverse→pF x z:=fun z hz=>hB z (List.mem_reverse.1 hz);generalize (out.reverse.dropWhile fun y=>cX x y).reverse=A at e hA' ⊢;generalize (out.reverse.takeWhile fun y=>cX x y).reverse=B at e hB' ⊢;rw[e]at h;obtain⟨h1,h2,h3⟩:=adl.1 h;refine adl.2 ⟨adl.2 ⟨h1,adN _ _,fun a ha b hb=>by rw[aau.1 hb];exact hA' a ha⟩,h2,fun a ha b hb=>?_⟩;rcases aaD.1 ha with q|q
 ·exact h3 a q b hb
 ·rw[aau.1 q];exact hB' b hb
theorem wP(l:List dA):∀out,out.Pairwise pF→(l.foldl jQ out).Pairwise pF:=by
 induction l with
 |nil=>exact fun out h=>h
 |cons x l ih=>exact fun out h=>ih _ (yG out x h)
theorem union_eq{rows:List (List dA)}(hs:∀r,r∈rows→r.Pairwise pF)(hU:∀a b,a∈rows.flatten→b∈rows.flatten→a.key=b.key→a.mM=b.mM→a=b):rows.flatten.foldl jQ []=rows.foldl jU []:=by
 have p1:=tV rows.flatten [];have p2:=A7 rows [];rw[acR]at p1 p2;exact EG (wP _ [] .nil) (xz rows hs [] .nil) (p1.trans p2.symm) fun a b ha hb=>hU a b (p1.mem_iff.1 ha) (p1.mem_iff.1 hb)
end Go.Proofs.YtoepfmhnapedoaaGreatDoor
namespace Go.Proofs.YtoepfmhnapedoaaGreatDoor
open Aml Go Rn Lat Grs
structure Vg where
 lv:Int
 n:Int
 k:Int
 l:List (List En)
structure fU where
 l:List (List En)
 au:List (List Cs)
 hs:List Int
 ds:List (List En)
 r:List RH
 ps:List Vg
def Ps(lv n k:Int)(p:Vg):Bool:=decide (p.lv=lv∧p.n=n∧p.k=k)
def ed(m:fU)(o:aV)(x:Nat):List En:=match(if o.snap≠0 then m.ps.find? (Ps o.level o.az o.snap)else none)with
 |some p=>p.l.getD x []
 |none=>if(x:Int)=o.level∧m.hs.getD x 0=o.az then m.ds.getD x []else m.l.getD x []
def Ek(o:aV)(e:En):Bool:=decide (e.b=o.bucket∧e.k≠[]∧¬e.k<o.key)
def E1(o:aV)(e:En):Bool:=decide (e.b=o.bucket∧e.k≠[]∧e.k=o.key)
def jX(o:aV)(x:Int)(l:List En):List dA:=(l.filter (Ek o)).map fun e=>⟨e.k,x,e.v⟩
def jN(o:aV)(x:Int)(l:List En):List dA:=(l.filter (E1 o)).map fun e=>⟨o.key,x,e.v⟩
def kp(c:Cf)(o:aV)(i:Nat):List Nat:=(List.range i).filter fun x:Nat=>gM c.up (x:Int) o.level
def fe(c:Cf)(m:fU)(o:aV)(i:Nat):List (List dA):=(kp c o i).map fun x:Nat=>jX o x (ed m o x)
def dZ(c:Cf)(m:fU)(o:aV)(i:Nat):List dA:=(kp c o i).flatMap fun x:Nat=>jN o x (ed m o x)
def j9(c:Cf)(m:fU)(o:aV)(i:Nat):Bool:=(kp c o i).any fun x:Nat=>decide (0≤aP (ed m o x) o.bucket [])
def W9(rows:List (List dA))(most:Int):List dA:=(rows.flatten.foldl jQ []).take most.toNat
def sB(c:Cf)(m:fU)(o:aV):pr:=
 if o.snap≠0∧o.snap∉lL m.r o.level o.az then dP 39 else if j9 c m o m.l.length=false then dP 32 else
 if o.kind=10 then⟨0,0,W9 (fe c m o m.l.length) (nC o.n),[]⟩else
 if dZ c m o m.l.length=[]then dP 33 else⟨0,0,dZ c m o m.l.length,[]⟩
def lz(o:aV)(l:List En):List En:=if o.kind=5 then fX l ⟨o.bucket,[],[]⟩else if o.kind=6 then cS l o.bucket []else if o.kind=7 then fX l ⟨o.bucket,o.key,o.value⟩else cS l o.bucket o.key
def lW(m:fU)(o:aV)(full:Bool):pr×fU:=
 let l:=m.ds.getD o.level.toNat []
 if m.hs.getD o.level.toNat 0≠o.az then(dP 35,m)else
 if(o.kind=5∧¬cH o.bucket 15)∨(o.kind=7∧(¬cH o.key 16∨400<o.value.length))then(dP 34,m)else
 if o.kind=5∧0≤aP l o.bucket []then(dP 38,m)else
 if o.kind≠5∧¬0≤aP l o.bucket []then(dP 32,m)else
 if o.kind=8∧(¬cH o.key 16∨aP l o.bucket o.key<0)then(dP 33,m)else
 if full then(dP 37,m)else(dP 0,{m with ds:=m.ds.set o.level.toNat (lz o l)})
def Ff(l:List En)(b k:List UInt8):List UInt8:=((l[(aP l b k).toNat]?).map En.v).getD []
def qO(c:Cf)(m:fU)(o:aV)(full:Bool):pr×fU:=
 let lf:=m.l.getD o.label.toNat []
 let lt:=m.l.getD o.cz.toNat []
 let a:=m.au.getD o.cz.toNat []
 if¬(gM c.up o.label o.level=true∧gM c.up o.cz o.level=true∧(⟨o.level,o.label,o.cz⟩:G)∈c.gr)then(dP 31,m)else
 if 0<m.hs.getD o.cz.toNat 0 then(dP 36,m)else
 if aP lf o.bucket []<0 then(dP 32,m)else
 if aP lf o.bucket o.key<0∨o.key=[]then(dP 33,m)else
 if aP lt o.bucket []<0 then(dP 32,m)else
 if full then(dP 37,m)else
 (Fk a.length,{m with l:=m.l.set o.cz.toNat (fX lt ⟨o.bucket,o.key,Ff lf o.bucket o.key⟩),au:=m.au.set o.cz.toNat (a++[⟨o.level,o.label,o.cz,o.bucket,o.key,fw (Ff lf o.bucket o.key)⟩])})
def sK(m:fU)(o:aV):pr×fU:=
 if o.kind=12 then(if(oA m.r o.level o.az o.snap).2=false then dP 39 else dP 0,{m with r:=(oA m.r o.level o.az o.snap).1})else
 (Fk (oz m.r o.level o.az).2,{m with r:=(oz m.r o.level o.az).1,ps:=m.ps++[⟨o.level,o.az,(oz m.r o.level o.az).2,m.l⟩]})
def Bz(m:fU)(o:aV):pr×fU:=
 let h:=m.hs.getD o.level.toNat 0
 if o.kind=2 then if 0<h then(dP 36,m)else(dP 0,{m with hs:=m.hs.set o.level.toNat o.az,ds:=m.ds.set o.level.toNat (m.l.getD o.level.toNat [])})else
 if o.kind=1 then(dP 0,{m with r:=(oy m.r o.level o.az).1,hs:=if h=o.az then m.hs.set o.level.toNat 0 else m.hs})else
 if h≠o.az then(dP 35,m)else(dP 0,{m with l:=if o.kind=3 then m.l.set o.level.toNat (m.ds.getD o.level.toNat [])else m.l,hs:=m.hs.set o.level.toNat 0})
def pR(m:fU)(o:aV)(full:Bool):fU:=
 ⟨if 0<o.az∧0≤o.level∧o.level<m.l.length∧m.hs.getD o.level.toNat 0=o.az∧full=false then m.l.set o.level.toNat (m.ds.getD o.level.toNat [])else m.l,m.au,List.replicate m.l.length 0,m.ds,[],[]⟩
def uk(c:Cf)(m:fU)(o:aV):pr:=if gM c.up o.label o.level=false then dP 31 else if o.kind=13 then dP 0 else⟨0,0,[],((m.au.getD o.label.toNat []).drop o.n.toNat).take 50⟩
def Mf(c:Cf)(m:fU)(o:aV)(full:Bool):pr×fU:=
 if r6 m.l.length o=false then(dP 40,m)else if o.kind=0 then(Fk (oB m.r o.level).2,{m with r:=(oB m.r o.level).1})else if o.kind=16 then(dP 0,pR m o full)else
 if¬dm m.r o.level o.az<m.r.length then(dP 30,m)else
 if o.kind=9∨o.kind=10 then(sB c m o,m)else if o.kind=11∨o.kind=12 then sK m o else if o.kind=13∨o.kind=14 then(uk c m o,m)else if o.kind=15 then qO c m o full else
 if 5≤o.kind then lW m o full else Bz m o
def GY(F:eZ):Prop:=∀n f,F n=some f→∀k v,f k=some v→k.length≤16
structure RQ(N:Nat)(e d:List En)(y:uy):Prop where
 F:El e y.F
 D:y.has≠0→El d y.D
 h:0≤y.has
 kF:GY y.F
 kD:GY y.D
 nF:e.length≤N
 nD:d.length≤N
structure Rf(N:Nat)(m:fU)(μ:bM):Prop where
 l:m.l.length=μ.l.length
 la:m.au.length=μ.l.length
 lh:m.hs.length=μ.l.length
 ld:m.ds.length=μ.l.length
 at_:∀(x:Nat) y,μ.l[x]? =some y→∃e d,m.l[x]? =some e∧m.au[x]? =some y.au∧m.hs[x]? =some y.has∧m.ds[x]? =some d∧RQ N e d y
 r:m.r=μ.r
 sn:∀lv n k,k∈lL μ.r lv n→∃p Fs,m.ps.find? (Ps lv n k)=some p∧μ.sn lv n k=some Fs∧p.l.length=Fs.length∧∀(x:Nat) e F,p.l[x]? =some e→Fs[x]? =some F→El e F
 pk:∀p,p∈m.ps→p.n≤ic μ.r p.lv∧∀q,kK μ.r p.lv p.n=some q→p.k≤q.2
 pl:∀p,p∈m.ps→p.l.length=μ.l.length∧∀e,e∈p.l→e.length≤N
 pn:m.ps.length≤N
theorem RQ.le{N M:Nat}{e d:List En}{y:uy}(h:RQ N e d y)(k:N≤M):RQ M e d y:=⟨h.F,h.D,h.h,h.kF,h.kD,ack h.nF k,ack h.nD k⟩
section
variable {N:Nat} {m:fU} {μ:bM} {c:Cf} {o:aV} {full:Bool}
theorem Rf.le{M:Nat}(h:Rf N m μ)(k:N≤M):Rf M m μ:=⟨h.l,h.la,h.lh,h.ld,fun x y hx=>let⟨e,d,q1,q2,q3,q4,q5⟩:=h.at_ x y hx;⟨e,d,q1,q2,q3,q4,q5.le k⟩,h.r,h.sn,h.pk,fun p hp=>⟨(h.pl p hp).1,fun e he=>ack ((h.pl p hp).2 e he) k⟩,ack h.pn k⟩
theorem bJ{α:Type}{l:List α}{i:Nat}{a d:α}(h:l[i]? =some a):l.getD i d=a:=by rw[abj,h];rfl
theorem bX{α:Type}{l:List α}{i:Nat}{a:α}(h:l[i]? =some a):l.set i a=l:=by
 refine acy fun j=>?_;by_cases q:i=j
 ·subst q;rw[abZ (aad.1 h).1,h]
 ·rw[ab5 q]
theorem Rf.mM(h:Rf N m μ){x:Int}(h0:0≤x)(h1:x<μ.l.length):∃e d,μ.l[x.toNat]? =some (aE μ x)∧m.l[x.toNat]? =some e∧m.au[x.toNat]? =some (aE μ x).au∧m.hs[x.toNat]? =some (aE μ x).has∧m.ds[x.toNat]? =some d∧RQ N e d (aE μ x):=by
 have hx:μ.l[x.toNat]? =some (μ.l[x.toNat]'(by omega)):=aac _;generalize μ.l[x.toNat]'(by omega)=y at hx;rw[bB hx h0];obtain⟨e,d,q⟩:=h.at_ _ _ hx;exact⟨e,d,hx,q⟩
theorem Rf.set(h:Rf N m μ){x:Nat}{e d:List En}{y:uy}(hx:x<μ.l.length)(hl:RQ (N+1) e d y):Rf (N+1) ⟨m.l.set x e,m.au.set x y.au,m.hs.set x y.has,m.ds.set x d,m.r,m.ps⟩ ⟨μ.l.set x y,μ.r,μ.sn⟩ where
 l:=by simp[h.l]
 la:=by simp[h.la]
 lh:=by simp[h.lh]
 ld:=by simp[h.ld]
 at_:=fun z y' hz=>by
  have l1:=h.l;have l2:=h.la;have l3:=h.lh;have l4:=h.ld;simp only at hz ⊢;by_cases q:x=z
  ·subst q;rw[abZ hx]at hz;cases hz;exact⟨e,d,abZ (by omega),abZ (by omega),abZ (by omega),abZ (by omega),hl⟩
  ·rw[ab5 q]at hz;obtain⟨e',d',q1,q2,q3,q4,q5⟩:=h.at_ z y' hz;exact⟨e',d',by rw[ab5 q];exact q1,by rw[ab5 q];exact q2,by rw[ab5 q];exact q3,by rw[ab5 q];exact q4,q5.le (abp N)⟩
 r:=h.r
 sn:=h.sn
 pk:=h.pk
 pl:=fun p hp=>by
  have:=h.pl p hp;exact⟨by simp[this.1],fun e he=>Nat.le_succ_of_le (this.2 e he)⟩
 pn:=Nat.le_succ_of_le h.pn
theorem Rf.az(h:Rf N m μ){r:List RH}{sn:Int→Int→Int→Option (List eZ)}{ps:List Vg}
 (h1:∀lv n k,k∈lL r lv n→∃p Fs,ps.find? (Ps lv n k)=some p∧sn lv n k=some Fs∧p.l.length=Fs.length∧∀(x:Nat) e F,p.l[x]? =some e→Fs[x]? =some F→El e F)
 (h2:∀p,p∈ps→p.n≤ic r p.lv∧∀q,kK r p.lv p.n=some q→p.k≤q.2) (h3:∀p,p∈ps→p.l.length=μ.l.length∧∀e,e∈p.l→e.length≤N) (h4:ps.length≤N):Rf N ⟨m.l,m.au,m.hs,m.ds,r,ps⟩ ⟨μ.l,r,sn⟩:=
 ⟨h.l,h.la,h.lh,h.ld,h.at_,rfl,h1,h2,h3,h4⟩
theorem Rf.Zv(h:Rf N m μ){x:Int}(h0:0≤x)(h1:x<μ.l.length):tO x (m.l.getD x.toNat [])=nU x (aE μ x).F:=by
 obtain⟨e,d,_,q1,_,_,_,q2⟩:=h.mM h0 h1;rw[bJ q1];exact q2.F.Zj x
theorem Rf.Yq(h:Rf N m μ)(hns:¬gz μ o)(hs:o.az≠0)(hlv:0≤o.level){x:Nat}(hx:x<μ.l.length)(hsp:o.snap≠0→∀Fs,μ.sn o.level o.az o.snap=some Fs→Fs.length=μ.l.length):El (ed m o x) (fO μ o x):=by
 obtain⟨e,d,y1,q1,q2,q3,q4,q5⟩:=h.mM (x:=(x:Int)) (by omega) (by omega);rw[acI]at q1 q2 q3 q4;unfold ed fO;by_cases h0:o.snap≠0
 ·have hk:o.snap∈lL μ.r o.level o.az:=abF fun q=>hns ⟨h0,q⟩;obtain⟨p,Fs,p1,p2,p3,p4⟩:=h.sn _ _ _ hk;rw[if_pos h0,if_pos h0,p1,p2];have l1:=hsp h0 Fs p2;have e1:p.l[x]? =some (p.l[x]'(by omega)):=aac _;have e2:Fs[x]? =some (Fs[x]'(by omega)):=aac _;have:=p4 x _ _ e1 e2;simp only[acL];rw[bJ e1,e2];exact this
 ·rw[if_neg h0,if_neg h0];simp only;rw[bJ q3,bJ q4,bJ q1];by_cases hl:(x:Int)=o.level
  ·rw[←hl];by_cases hh:(aE μ (x:Int)).has=o.az
   ·rw[if_pos ⟨rfl,hh⟩,if_pos ⟨rfl,hh⟩];exact q5.D (by rw[hh];exact hs)
   ·rw[if_neg (fun r=>hh r.2),if_neg (fun r=>hh r.2)];exact q5.F
  ·rw[if_neg (fun r=>hl r.1),if_neg (fun r=>hl r.1)];exact q5.F
theorem El.jX{l:List En}{F:eZ}(h:El l F)(o:aV)(x:Nat):jX o x l=kr x (fun k=>!zg k o.key) (F o.bucket):=by
 unfold Proofs.YtoepfmhnapedoaaGreatDoor.jX kr
 have e1:l.filter (Ek o)=(l.filter fun e=>decide (e.b=o.bucket∧e.k≠[])).filter fun e=>!zg e.k o.key:=by
  rw[List.filter_filter];refine List.filter_congr fun e _=>?_;unfold Ek;rw[sj];by_cases a:e.b=o.bucket <;>by_cases b:e.k=[] <;>by_cases d:e.k<o.key <;>simp[a,b,d]
 cases hF:F o.bucket with
 |none=>
  simp only;rw[e1]
  have:(l.filter fun e=>decide (e.b=o.bucket∧e.k≠[]))=[]:=by
   refine List.filter_eq_nil_iff.2 fun e he q=>?_;have q:=of_decide_eq_true q;rcases(h.mem e).1 he with r|⟨_,f,r,_⟩
   ·exact q.2 r.1
   ·rw[q.1,hF]at r;cases r
  rw[this];rfl
 |some f=>
  simp only;rw[e1,h.own hF];unfold re;rw[List.filter_map,adu];rfl
theorem El.jN{l:List En}{F:eZ}(h:El l F)(o:aV)(x:Nat):jN o x l=kr x (fun k=>decide (k=o.key)) (F o.bucket):=by
 unfold Proofs.YtoepfmhnapedoaaGreatDoor.jN kr
 have e1:l.filter (E1 o)=(l.filter fun e=>decide (e.b=o.bucket∧e.k≠[])).filter fun e=>decide (e.k=o.key):=by
  rw[List.filter_filter];refine List.filter_congr fun e _=>?_;unfold E1;by_cases a:e.b=o.bucket <;>by_cases b:e.k=[] <;>by_cases d:e.k=o.key <;>simp[a,b,d]
 have e2:∀L:List En,(L.filter fun e=>decide (e.k=o.key)).map (fun e=>(⟨o.key,x,e.v⟩:dA))=(L.filter fun e=>decide (e.k=o.key)).map fun e=>⟨e.k,x,e.v⟩:=fun L=>by
  refine adp fun e he=>?_;rw[of_decide_eq_true (abO.1 he).2]
 cases hF:F o.bucket with
 |none=>
  simp only;rw[e1]
  have:(l.filter fun e=>decide (e.b=o.bucket∧e.k≠[]))=[]:=by
   refine List.filter_eq_nil_iff.2 fun e he q=>?_;have q:=of_decide_eq_true q;rcases(h.mem e).1 he with r|⟨_,f,r,_⟩
   ·exact q.2 r.1
   ·rw[q.1,hF]at r;cases r
  rw[this];rfl
 |some f=>
  simp only;rw[e1,e2,h.own hF];unfold re;rw[List.filter_map,adu];rfl
end
end Go.Proofs.YtoepfmhnapedoaaGreatDoor
