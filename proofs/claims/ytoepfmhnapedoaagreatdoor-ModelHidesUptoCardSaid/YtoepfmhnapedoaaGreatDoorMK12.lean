/-
  Part 12 of the proof that the last text ends: from 'Functions that recover, on: regions whose order is open, behind the defer' to 'From an argument that reads as a datum to an abstract value; from a walked call to the row's own words'. By an AI agent.
-/
import Derived.Test.YtoepfmhnapedoaaGreatDoorMK7
import Derived.Test.YtoepfmhnapedoaaGreatDoorMK5
import Derived.Test.YtoepfmhnapedoaaGreatDoorMK10
import Derived.Test.YtoepfmhnapedoaaGreatDoorMK11
import Derived.Test.YtoepfmhnapedoaaGreatDoorRows
import Derived.Test.YtoepfmhnapedoaaGreatDoorMK4
import Derived.ProofKit
import Derived.OpenShut
import Derived.JoinedCond
import Derived.Carry
set_option linter.unusedVariables false
set_option linter.unusedSimpArgs false
set_option maxRecDepth 100000
set_option maxHeartbeats 16000000
namespace Aml
open Go Go.RowKit
section
variable {P:Program} {w0:W0} {S0 S1:St} {md:Region.Mode} {ops:Array Oper}
theorem Y.gY{T:List Nat}{a0:Act}(hdst:∀(i:Nat) o,ops[i]? =some o→jY T o=true){gs ns:List Nat}{ro:Option Nat}{g0:Gh}{Q:Exit→List DV→St→Prop}:∀(fuel:Nat) (listed:Array Bool) (fr:List DV) (S:St) (g:Gh) (a:Act) (w:World),Same T a0 a→g0.le g→Rel w0 g S w→ae g fr a.tmps.toList→Dk w0 g a w→
 Y.HD P w0 S0 S1 gs ns md ops (fun fr S=>Q .normal fr S) fuel listed fr S→wpAnyIn (fz ro) 0 P md ops (Kt T a0 (Good w0 g0 Q)) fuel listed a w
 |0,listed,fr,S,g,a,w,hs,k,h1,h2,h3,h=>⟨h.1,⟨k.kd h3,g,fr,S,k,h1,h2,h.2⟩,hs⟩
 |fuel+1,listed,fr,S,g,a,w,hs,k,h1,h2,h3,h=>by
  refine⟨fun h0=>⟨⟨k.kd h3,g,fr,S,k,h1,h2,h.1 h0⟩,hs⟩,fun i hi=>?_⟩;have hq:=h.2 i hi;unfold oW at hq;unfold wpOpIn;split
  ·rename_i ho;simp only[ho]at hq;obtain⟨T',hp,hq⟩:=hq;exact Y.gY hdst fuel _ fr T' g a w hs k (hp.symm.rel h1) h2 h3 hq
  ·rename_i o ho;simp only[ho]at hq;rcases hq with⟨hw,hb⟩|⟨hw,hk⟩
   ·have hw':=dz (o:=o) h2 hw;rw[if_pos hw'];refine fq (Y.lT hb) h1 (fun x _=>ee h2 x) h3 k h2 (Q:=Q) (fun v w' hg=>⟨hg,hs⟩) fun g' d' u S' w' k1 k2 k3 k4 k5=>?_;obtain⟨T',hp,k4⟩:=k4;exact Y.gY hdst fuel _ _ _ g' _ _ (l4 (hdst i o ho) hs u) (k.trans k1) (hp.symm.rel k2) (bD (h2.mono k1) _ k3) (k1.dk k5) k4
   ·have hw':=dz (o:=o) h2 hw;rw[if_neg (by simp[hw'])];obtain⟨T',hp,hk⟩:=hk;exact⟨fun _ _=>trivial,Y.gY hdst fuel _ _ _ g _ _ (l4 (hdst i o ho) hs undef) k (hp.symm.rel h1) (bD h2 _ (gp g)) (h3.ba (put_defers _ _ _) fun _ _ h _=>h) hk⟩
theorem Y.CW{T:List Nat}(hSS:∀T,Hm S0 T→Hm S1 T){id:Nat}{l:List Oper}{gs ns ord:List Nat}{fr:List DV}{S:St}{Q:Exit→List DV→St→Prop}(hm:P.follows .mixedOrders=true)(hd:l.all (jY T)=true)(hB:Y.v8 gs ns .any l.toArray ord (Array.replicate l.length false)=true)(hO:ord.length=l.length)(h:Y.LO P w0 S0 S1 gs ns l.toArray (fun fr S=>Q .normal fr S) ord fr S):Lg T P w0 (.region id l.toArray true) fr S Q:=by
 intro g a0 a w h1 h2 h3 hs;refine dO hm fun ro=>?_;have hR:Rel w0 g S {w with drawn:=w.drawn+1}:=h1.grow (iQ w)
 have hcnt:∀l':List Nat,l'.Nodup→(∀k,k∈l'→(Array.replicate l.length false).getD k true=false)→l'.length≤ord.length:=by
  intro l' hn hl
  have hsub:∀k,k∈l'→k∈List.range l.length:=fun k hk=>by
   have:=hl k hk;rw[X9];rcases XH k l.length with h|h
   ·exact h
   ·rw[Xt,X6 (by simpa using h)]at this;cases this
  have:=hn.length_le_of_subset (l₂:=List.range l.length) hsub;rw[hO];simpa using this
 have hdst:∀(i:Nat) o,l.toArray[i]? =some o→jY T o=true:=fun i o ho=>Xq.1 hd o (W7 (i:=i) (by simpa using ho));have:=Y.oz hSS (P:=P) (w0:=w0) (S0:=S0) (S1:=S1) (md:= .any) (ops:=l.toArray) ord (Array.replicate l.length false) fr S hcnt hB h;have:=Y.gY (T:=T) (a0:=a0) hdst (ro:=ro) (g0:=g) (Q:=Q) _ _ fr S g a _ hs (.refl g) hR h2 (h3.ba rfl fun _ _ h _=>h) this;rw[hO]at this;simpa using this
def AK(T:List Nat)(P:Program)(w0:W0)(fr:List DV)(S:St)[c:Cn (Code×(Exit→List DV→St→Prop))]:Prop:=Lg T P w0 c.k.1 fr S c.k.2
theorem Y.wq{T:List Nat}(gs ns ord:List Nat){id:Nat}{l:List Oper}{fr:List DV}{S:St}{Q:Exit→List DV→St→Prop}(hm:P.follows .mixedOrders=true)(hB:(Y.pX l gs ns ord&&l.all (jY T))=true)(h:Y.jM P w0 S ⟨[],[]⟩ gs ns l.toArray (fun fr S=>gQ fr fun fr=>Q .normal fr S) ord fr S):@AK T P w0 fr S ⟨(.region id l.toArray true,Q)⟩:=by
 rw[W8]at hB;obtain⟨hB,hd⟩:=hB;simp only[Y.pX,W8,beq_iff_eq]at hB;refine Y.CW (fun T _=>Y.oY T) hm hd hB.1.2 hB.2 (Y.cF (fun i o ho=>?_) ord h);have:l[i]? =some o:=by simpa using ho
 exact Xq.1 hB.1.1 o (W7 this)
def qo(T:List Nat)(P:Program)(w0:W0)(ss:List Nat):Code→List DV→St→(Exit→List DV→St→Prop)→Prop
 | .skip,fr,S,Q=>Q .normal fr S
 | .seq x y,fr,S,Q=>qo T P w0 ss x fr S (gq (fun fr S=>qo T P w0 ss y fr S Q) Q)
 | .cond c x y,fr,S,Q=>cu (ev fr c) (qo T P w0 ss x fr S Q) (qo T P w0 ss y fr S Q)
 | .block n c,fr,S,Q=>qo T P w0 ss c fr S (eN n Q)
 | .exit n,fr,S,Q=>Q (.exit n) fr S
 | .ret,fr,S,Q=>Q .ret fr S
 | .region n ops dr,fr,S,Q=>cj (ss.contains n) (@AK T P w0 fr S ⟨((.region n ops dr),Q)⟩) (oE P w0 ops (fun fr S=>Q .normal fr S) ops.toList fr S)
 |c,fr,S,Q=>@AK T P w0 fr S ⟨(c,Q)⟩
def rm(T ss:List Nat):Code→Bool
 | .skip=>true
 | .ret=>true
 | .exit _=>true
 | .seq a b=>rm T ss a&&rm T ss b
 | .cond _ a b=>rm T ss a&&rm T ss b
 | .block _ c=>rm T ss c
 | .region n ops dr=>ss.contains n||(!dr&&ops.toList.all (fun o=>fw o.op&&jY T o))
 |_=>false
theorem fW{T ss:List Nat}:∀(c:Code) {fr:List DV} {S:St} {Q:Exit→List DV→St→Prop},rm T ss c=true→qo T P w0 ss c fr S Q→Lg T P w0 c fr S Q
 | .skip,fr,S,Q,_,h=>fun g v a w h1 h2 h3 h4=>mn ⟨⟨h3,g,fr,S,.refl g,h1,h2,h⟩,h4⟩
 | .ret,fr,S,Q,_,h=>fun g v a w h1 h2 h3 h4=>oT ⟨⟨h3,g,fr,S,.refl g,h1,h2,h⟩,h4⟩
 | .exit n,fr,S,Q,_,h=>fun g v a w h1 h2 h3 h4=>pn ⟨⟨h3,g,fr,S,.refl g,h1,h2,h⟩,h4⟩
 | .seq x y,fr,S,Q,ho,h=>fun g v a w h1 h2 h3 h4=>by
  simp only[rm,W8]at ho;refine iS (aU (fW x ho.1 h g v a w h1 h2 h3 h4) ?_);intro e a' w' hg
  cases e with
  |normal=>
   obtain⟨⟨hd,g',fr',S',k1,k2,k3,k4⟩,ht⟩:=hg;exact aU (fW y ho.2 k4 g' v a' w' k2 k3 (k1.dk hd) ht) fun _ _ _ k=>k.mono fun _ _ _ k=>k.of_le k1
  |exit n=>exact hg
  |goto n=>exact hg
  |ret=>exact hg
  |panic ch=>exact hg
  |outgrown=>exact hg
 | .cond c x y,fr,S,Q,ho,h=>fun g v a w h1 h2 h3 h4=>by
  simp only[rm,W8]at ho;have h:cu (ev fr c) (qo T P w0 ss x fr S Q) (qo T P w0 ss y fr S Q):=h;have hr:=ee h2 c;unfold cu at h;split at h
  ·rename_i b he;rw[he]at hr;exact cU (jT hr) (fun hb=>fW x ho.1 (h.1 hb) g v a w h1 h2 h3 h4) (fun hb=>fW y ho.2 (h.2 hb) g v a w h1 h2 h3 h4)
  ·exact h.elim
 | .block n c,fr,S,Q,ho,h=>fun g v a w h1 h2 h3 h4=>by
  unfold rm at ho;have h:qo T P w0 ss c fr S (eN n Q):=h;refine iH (aU (fW c ho h g v a w h1 h2 h3 h4) ?_);intro e a' w' hg
  cases e with
  |exit m=>
   obtain⟨⟨hd,g',fr',S',k1,k2,k3,k4⟩,ht⟩:=hg;simp only[Exit.inBlock];simp only[Qp,eN]at k4;split
   ·rename_i e;rw[if_pos e]at k4;exact⟨⟨hd,g',fr',S',k1,k2,k3,k4⟩,ht⟩
   ·rename_i e;rw[if_neg e]at k4;exact⟨⟨hd,g',fr',S',k1,k2,k3,k4⟩,ht⟩
  |normal=>exact hg
  |goto n=>exact hg
  |ret=>exact hg
  |panic ch=>exact hg
  |outgrown=>exact hg
 | .region n ops dr,fr,S,Q,ho,h=>fun g v a w h1 h2 h3 h4=>by
  unfold rm at ho;have h:cj (ss.contains n) (@AK T P w0 fr S ⟨((.region n ops dr),Q)⟩) (oE P w0 ops (fun fr S=>Q .normal fr S) ops.toList fr S):=h
  cases hc:ss.contains n with
  |true=>
   rw[hc]at h;exact h g v a w h1 h2 h3 h4
  |false=>
   rw[hc]at h ho;simp only[YE,W8,XE]at ho;obtain⟨hd,ho⟩:=ho;subst hd
   have ho1:ops.toList.all (fun o=>fw o.op)=true:=Xq.2 fun o hm=>by
    have:=Xq.1 ho o hm;rw[W8]at this;exact this.1
   have ho2:ops.toList.all (jY T)=true:=Xq.2 fun o hm=>by
    have:=Xq.1 ho o hm;rw[W8]at this;exact this.2
   have h:oE P w0 ops (fun fr S=>Q .normal fr S) ops.toList fr S:=h;have h:=fT _ ho1 h;have:=eg (P:=P) (id:=n) (l:=ops.toList) (Q:=Kt T v (Good w0 g Q)) (a:=a) (w:=w) fun ro=>iX (ro:=ro) (g0:=g) (Q:=Q) ops.toList fr S g a w ho2 h4 (.refl g) h1 h2 h3 (by simpa using h);simpa using this
 | .loop c,fr,S,Q,ho,h=>by cases ho
 | .rangeFunc f ps a b,fr,S,Q,ho,h=>by cases ho
 | .scope c,fr,S,Q,ho,h=>by cases ho
 | .label l,fr,S,Q,ho,h=>by cases ho
 | .goto l,fr,S,Q,ho,h=>by cases ho
 | .refuse w,fr,S,Q,ho,h=>by cases ho
theorem xX{T ss:List Nat}{fr:List DV}{S:St}{Q:Exit→List DV→St→Prop}:qo T P w0 ss .skip fr S Q=Q .normal fr S:=rfl
theorem Br{T ss:List Nat}{fr:List DV}{S:St}{Q:Exit→List DV→St→Prop}(x y:Code):qo T P w0 ss (.seq x y) fr S Q=qo T P w0 ss x fr S (gq (fun fr S=>qo T P w0 ss y fr S Q) Q):=rfl
theorem xv{T ss:List Nat}{fr:List DV}{S:St}{Q:Exit→List DV→St→Prop}(c:Operand)(x y:Code):qo T P w0 ss (.cond c x y) fr S Q=cu (ev fr c) (qo T P w0 ss x fr S Q) (qo T P w0 ss y fr S Q):=rfl
theorem uw{T ss:List Nat}{fr:List DV}{S:St}{Q:Exit→List DV→St→Prop}(n:Nat)(c:Code):qo T P w0 ss (.block n c) fr S Q=qo T P w0 ss c fr S (eN n Q):=rfl
theorem CQ{T ss:List Nat}{fr:List DV}{S:St}{Q:Exit→List DV→St→Prop}:qo T P w0 ss .ret fr S Q=Q .ret fr S:=rfl
theorem CM{T ss:List Nat}{fr:List DV}{S:St}{Q:Exit→List DV→St→Prop}(n:Nat)(l:List Oper)(dr:Bool):qo T P w0 ss (.region n l.toArray dr) fr S Q=cj (ss.contains n) (@AK T P w0 fr S ⟨((.region n l.toArray dr),Q)⟩) (oE P w0 l.toArray (fun fr S=>gQ fr fun fr=>Q .normal fr S) l fr S):=by simp[qo,cj,gQ]
@[congr] theorem Un {T ss:List Nat} {Q:Exit→List DV→St→Prop} {c:Code} {fr fr':List DV} {S S':St} (h1:fr=fr') (h2:S=S'):qo T P w0 ss c fr S Q=qo T P w0 ss c fr' S' Q:=by cases h1;cases h2;rfl
@[congr] theorem U1 {T:List Nat} {fr fr':List DV} {S S':St} [c:Cn (Code×(Exit→List DV→St→Prop))] (h1:fr=fr') (h2:S=S'):AK T P w0 fr S=AK T P w0 fr' S':=by cases h1;cases h2;rfl
attribute [go_sem ↓] xX Br xv uw CQ CM
theorem yR{f:FuncId}{fn:Func}{p rest:Code}{id t1:Nat}{o1 od:Oper}{rs:List ResultVar}{args:List DV}{S:St}{K:DV→St→Prop}{cl:FuncId}{caps:List Nat}
 (hf:P.funcs[f]? =some fn) (hb:fn.body=some (.seq p (.seq (.region id #[o1,od] false) rest))) (hrs:fn.results=rs.toArray)
 (ho1:o1.op= .makeFunc (.func cl) #[] (caps.map .tmp).toArray∧o1.dst=some t1∧o1.guard=none) (hod:od.op= .defer {callee:= .value (.tmp t1),args:= #[],argTypes:= #[]}∧od.dst=none∧od.guard=none)
 (hcl:okF P cl=true) (hk1:oX [] p=true) (ht1:(rs.map jm).contains t1=false∧t1<fn.ntmps∧args.length≤t1)
 (hp:vw P w0 [] p (cJ (args++List.replicate (fn.ntmps-args.length) ud)) S fun e fr S1=>e= .normal∧∃bs:List Value,caps.map (fun t=>fr.getD t ud)=bs.map .v∧∃pq:DV→St→Prop,
  Lg (rs.map jm) P ⟨w0.w,w0.gh,pq⟩ rest (fr.set t1 (.v (.func (.func cl) #[] bs.toArray))) S1 (fun e _ S2=>(e= .normal∨e= .ret)∧kJ P fr S2 rs fun d=>K d S2)∧
  Idle P cl bs∧Oz P w0 cl bs pq fun S2=>kJ P fr S2 rs fun d=>K d S2):aa P w0 f args S K:=by
 intro g vs w h1 h2;refine Calls.mono (R:=Ends w0 (g.ay []) K) ?_ fun e w'=>Ends.ay h1.below.dG;have h1:=h1.ay (w0':=w0) [] rfl h1.below.dG;have h2:ae (g.ay []) args vs.toList:=h2.ay;generalize hg:g.ay []=g0 at h1 h2 ⊢;have hgd:g0.kM=[]:=by rw[←hg];rfl
 refine(eP (ro:=none) (n:=0)).1 (callsIn_of_wp_marks hf hb trivial ?_ rfl);have hlen:args.length=vs.size:=by simpa using h2.len
 have hR0:ae g0 (args++List.replicate (fn.ntmps-args.length) ud) (vs++Array.replicate (fn.ntmps-vs.size) undef).toList:=by rw[hlen];simpa using h2.append (ae.replicate g0 (fn.ntmps-vs.size))
 obtain⟨a0,ha0⟩:∃a0:Act,a0={tmps:=vs++Array.replicate (fn.ntmps-vs.size) undef,defers:=[]}:=⟨_,rfl⟩;rw[←ha0];have hR0:ae g0 (args++List.replicate (fn.ntmps-args.length) ud) a0.tmps.toList:=by rw[ha0];exact hR0
 have hd0:a0.defers=[]:=by rw[ha0]
 have hz0:fn.ntmps≤a0.tmps.size:=by rw[ha0];simp;omega
 refine wpIn_seq (wpIn_mono (dW p hk1 hp g0 a0 a0 w h1 hR0 (.nil (hd0.trans hgd.symm)) ⟨fun _ _=>rfl,rfl,rfl⟩ none (.inl rfl)) ?_);intro e a1 w1 hg1
 cases e with
 |exit n=>obtain⟨⟨_,_,_,_,_,_,_,q,_⟩,_⟩:=hg1;cases q
 |goto n=>obtain⟨⟨_,_,_,_,_,_,_,q,_⟩,_⟩:=hg1;cases q
 |ret=>obtain⟨⟨_,_,_,_,_,_,_,q,_⟩,_⟩:=hg1;cases q
 |outgrown=>obtain⟨_,_,_,_,_,_,_,q,_⟩:=hg1;cases q
 |panic ch=>
  obtain⟨⟨_,g',fr',S',k1,k2,k3,v,d,rfl,q1,q2⟩,hs⟩:=hg1;show LeavesInM (fz none) 0 P fn a1.tmps (Ends w0 g0 K) a1.defers (.panicking _) w1;rw[hs.2.1,hd0];exact .inr ⟨v,g',d,S',rfl,k1,k2,q1,q2⟩
 |normal=>
  obtain⟨⟨_,g1,fr1,S1,k1,R1,r1,_,bs,hbs,pq,hrest,hidle,hbr⟩,hs1⟩:=hg1;have hd1:a1.defers=[]:=hs1.2.1.trans hd0;have hz1:t1<a1.tmps.size:=by rw[hs1.2.2];omega
  have hev:((caps.map Operand.tmp).toArray.map a1.eval)=bs.toArray:=by
   have:caps.map (fun t=>a1.eval (.tmp t))=bs:=by
    refine X4 fun i=>?_;have hi:=congrArg (·[i]?) hbs;simp only[Xd]at hi ⊢
    cases hc:caps[i]? with
    |none=>rw[hc]at hi;cases hb:bs[i]? with
     |none=>rfl
     |some x=>rw[hb]at hi;cases hi
    |some t=>
     rw[hc]at hi
     cases hb:bs[i]? with
     |none=>rw[hb]at hi;cases hi
     |some x=>
      rw[hb]at hi;simp only[XB,Xr]at hi ⊢;have h:=ee r1 (.tmp t);rw[show ev fr1 (.tmp t)= .v x from hi]at h;exact aj h
   rw[←this];simp
  obtain⟨fv,hfv⟩:∃fv:Value,fv= .func (.func cl) #[] bs.toArray:=⟨_,rfl⟩;obtain⟨d,hd⟩:∃d:Deferred,d={target:= .fn (.func cl) bs.toArray,args:= #[]}:=⟨_,rfl⟩
  have hrun1:(execOp a1.eval o1).run P w1= .ok (.value fv) w1:=by
   have:∀(fn:Fn) (first cap:Array Value) (w:World),(Instr.makeFunc fn first cap).run P w= .ok (.func fn first cap) w:=fun _ _ _ _=>rfl;rw[hfv];unfold execOp;rw[ho1.1];simp only[hev];simp[this]
  have he2:(a1.put (some t1) fv).eval (.tmp t1)=fv:=by
   simp only[Act.put,Act.eval];rw[Xt,Array.getElem?_setIfInBounds_self_of_lt hz1];rfl
  have hrun2:(execOp (a1.put (some t1) fv).eval od).run P w1= .ok (.defer d) w1:=by
   unfold execOp;rw[hod.1,hd];have he3:=he2;rw[hfv]at he3;rw[hfv];simp only[resolve,he3];simp[Deferred.ofValue]
  refine wpIn_seq (wpIn_region_lit (l:=[o1,od]) ?_);unfold wpListIn;rw[if_pos (by simp[Region.wanted,ho1.2.2])];refine⟨fun _ _=>trivial,?_⟩;rw[show(fz none).round=none from rfl,Oper.semAt_none,hrun1];show wpListIn (fz none) 0 P _ _ [od] (a1.put o1.dst fv) w1;rw[ho1.2.1];unfold wpListIn;rw[if_pos (by simp[Region.wanted,hod.2.2])];refine⟨fun _ _=>trivial,?_⟩;rw[show(fz none).round=none from rfl,Oper.semAt_none,hrun2];obtain⟨a3,ha3⟩:∃a3:Act,a3={a1.put (some t1) fv with defers:=[d]}:=⟨_,rfl⟩;have hd3:a3.defers=[d]:=by rw[ha3]
  have e3:({a1.put (some t1) fv with defers:=d::(a1.put (some t1) fv).defers}:Act).put none undef=a3:=by
   rw[ha3];simp only[Act.put,hd1]
  show rest.wpIn (fz none) 0 P _ (({a1.put (some t1) fv with defers:=d::(a1.put (some t1) fv).defers}:Act).put od.dst undef) w1;rw[hod.2.1,e3];have t3:a3.tmps=(a1.put (some t1) fv).tmps:=by rw[ha3]
  have r3:ae (g1.ay [d]) (fr1.set t1 (.v fv)) a3.tmps.toList:=by
   rw[t3];exact(bD r1 (some t1) (d:= .v fv) (.v _ (by rw[hfv];rfl))).ay
  rw[←hfv]at hrest;have R3:Rel ⟨w0.w,w0.gh,pq⟩ (g1.ay [d]) S1 w1:=R1.ay [d] rfl R1.below.dG
  have slots:∀a4,Same (rs.map jm) a3 a4→results fn a4.tmps=results fn a1.tmps:=by
   intro a4 h4;refine sZ hrs fun r hr=>?_;rw[h4.1 _ (Xz hr),t3];simp only[Act.put]
   have:¬t1=jm r:=by
    rintro e;have:=ht1.1;simp only[List.contains_eq_mem,decide_eq_false_iff_not]at this;exact this (e▸Xz hr)
   rw[Xu,if_neg this]
  have hinv:∀w,(invoke d.target d.args).run P w= .ok (.enter cl bs.toArray) w:=by
   intro w;unfold okF at hcl;split at hcl
   ·rename_i fn' hfn';simp only[W8,XE]at hcl;obtain⟨hb,hname⟩:=hcl;have hbn:¬fn'.body=none:=by intro e;simp[e]at hb
    have hname':¬fn'.name= "runtime.NumGoroutine" :=by simpa using hname
    rw[hd];simp[invoke,callFunc,hfn',hname',hbn]
   ·cases hcl
  have fin:∀(g4:Gh) (S4:St) (w4:World) (a4:Act),Same (rs.map jm) a3 a4→(g1.ay [d]).le g4→Rel w0 g4 S4 w4→kJ P fr1 S4 rs (fun d=>K d S4)→LeavesInM (fz none) 0 P fn a4.tmps (Ends w0 g0 K) [] .returning w4:=by
   intro g4 S4 w4 a4 hs4 k4 R4 hres;obtain⟨v,dd,e1,e2,e3⟩:=Af (P:=P) R4 ((r1.ay (ds:=[d])).mono k4) hrs hres;refine⟨v,by rw[slots a4 hs4];exact e1,.inl ⟨v,g4.ay [],dd,S4,rfl,⟨fun b i u h=>k4.aN _ _ _ (k1.aN _ _ _ h),fun b i u h=>k4.acc _ _ _ (k1.acc _ _ _ h),k4.obj.trans k1.obj,hgd.symm⟩,R4.ay [] rfl R4.below.dG,e2.ay,e3⟩⟩
  refine wpIn_mono (hrest (g1.ay [d]) a3 a3 w1 R3 r3 (.nil hd3) ⟨fun _ _=>rfl,rfl,rfl⟩ none (.inl rfl)) ?_
  have norm:∀(g4:Gh) (S4:St) (w4:World) (a4:Act),Same (rs.map jm) a3 a4→(g1.ay [d]).le g4→Rel w0 g4 S4 w4→kJ P fr1 S4 rs (fun d=>K d S4)→LeavesInM (fz none) 0 P fn a4.tmps (Ends w0 g0 K) a4.defers .returning w4:=by
   intro g4 S4 w4 a4 hs4 k4 R4 hres;rw[hs4.2.1,hd3];refine⟨by simp,.inr ⟨fun h=>by simp[fz,Fence.wide]at h,.func cl,bs.toArray,cl,bs.toArray,by rw[hd],hinv w4,fun _ _=>trivial,gM (hidle w4) ?_⟩⟩;rintro e u' w' ⟨⟨r,rfl⟩,rfl,rfl⟩;exact fin g4 S4 _ a4 hs4 k4 R4 hres
  intro e a4 w4 hg
  cases e with
  |exit n=>obtain⟨⟨_,_,_,_,_,_,_,q,_⟩,_⟩:=hg;rcases q with q|q <;>cases q
  |goto n=>obtain⟨⟨_,_,_,_,_,_,_,q,_⟩,_⟩:=hg;rcases q with q|q <;>cases q
  |outgrown=>obtain⟨_,_,_,_,_,_,_,q,_⟩:=hg;rcases q with q|q <;>cases q
  |normal=>
   obtain⟨⟨_,g4,fr4,S4,k4,R4,r4,_,hres⟩,hs4⟩:=hg;exact norm g4 S4 w4 a4 hs4 k4 (R4.ay (w0':=w0) g4.kM rfl R4.below.dG) hres
  |ret=>
   obtain⟨⟨_,g4,fr4,S4,k4,R4,r4,_,hres⟩,hs4⟩:=hg;exact norm g4 S4 w4 a4 hs4 k4 (R4.ay (w0':=w0) g4.kM rfl R4.below.dG) hres
  |panic ch=>
   obtain⟨⟨_,g4,fr4,S4,k4,R4,r4,v,d',rfl,q1,q2⟩,hs4⟩:=hg;show LeavesInM (fz none) 0 P fn a4.tmps (Ends w0 g0 K) a4.defers (.panicking _) w4;rw[hs4.2.1,hd3];refine⟨by simp,.inr ⟨fun h=>by simp[fz,Fence.wide]at h,.func cl,bs.toArray,cl,bs.toArray,by rw[hd],hinv w4,fun _ _=>trivial,gM (hbr g4 S4 w4 v d' (R4.ay (w0':=w0) g4.kM rfl R4.below.dG) q1 q2) ?_⟩⟩;rintro e u' w' ⟨⟨r,rfl⟩,rfl,g5,T5,k5,R5,hres⟩;exact fin g5 T5 _ a4 hs4 (k4.trans k5) R5 hres
end
end Aml
namespace Go.Proofs.YtoepfmhnapedoaaGreatDoor
open Aml Go Rn Lat Grs
theorem Tv{P:Program}{w0:W0}{f:FuncId}{args args':List DV}{S:St}{K K':DV→St→Prop}(h:aa P w0 f args' S K')(hk:∀d S',K' d S'→∃e,Wk d e∧K e S')(ha:fp args args':=by exact fp.refl _):@AC P w0 f args S ⟨K⟩:=iC h ha hk
theorem AW{P:Program}{w0:W0}{f:FuncId}{args:List DV}{S:St}{K:DV→St→Prop}(h:(S.box.map (·.1)).Nodup→(S.acc.map (·.1)).Nodup→aa P w0 f args S K):aa P w0 f args S K:=
 fun g vs w h1 h2=>h h1.nb h1.na g vs w h1 h2
def SO(fr:List DV)(S:St)[K:Cn (List DV→St→Prop)]:Prop:=K.k fr S
theorem HU{P:Program}{w0:W0}{c:Code}{fr:List DV}{S:St}{K:List DV→St→Prop}(h:vw P w0 [] c fr S fun e fr S1=>e= .normal∧@SO fr S1 ⟨K⟩):vw P w0 [] c fr S fun e fr S1=>e= .normal∧K fr S1:=h
theorem tQ{S T:St}{g g':MG}{M b:Nat}{c:Cf}{μ:bq}(h:MI T g' M c μ)(hF:gF S T g g')(hb:lk S.box b=none)(hg:b∉g'.bx)(v:List DV):MI ⟨Aml.up T.box b v,T.acc⟩ g' M c μ∧gF S ⟨Aml.up T.box b v,T.acc⟩ g g':=
 ⟨h.to (Xa _) (fun i w q1 q2=>by show lk (Aml.up _ _ _) i=_;rw[ab (fun e=>hg (by rw[e];exact q1))];exact q2) fun _ _ _ q=>q,hF.m,fun i w q1 q2=>by show lk (Aml.up _ _ _) i=_;rw[ab (fun e=>by rw[←e,hb]at q2;cases q2)];exact hF.box i w q1 q2,hF.acc,hF.nb,hF.na⟩
theorem TP{w0:W0}{S:St}{g:MG}{N:Nat}{c:Cf}{μ:bq}{o:bp}{full:Bool}(hgO:nW w0)(hgC:kW w0)(hI:MI S g N c μ)(hM:iN N c μ)(hgr:c.gr.length≤1048576)(hN:N≤10000):
 aa Tryz.prog w0 12 [bz g.m,AU o,dB full] S (fun d S'=>Wk d (HC (dF eH c μ o full).1)∧∃g',MI S' g' (N+1) c (dF eH c μ o full).2∧gF S S' g g'):=by
 have hmd:=hI.md;have hlen:=hI.len;refine AW fun nb na=>?_;refine yR (P:=Tryz.prog) (fn:=Tryz.f12) (cl:=32) (caps:=[6]) (t1:=8) Tryz.func12 rfl rfl ⟨rfl,rfl,rfl⟩ ⟨rfl,rfl,rfl⟩ (by kernel_rfl) (by kernel_rfl) ⟨rfl,by rw[Tryz.ntmps12];decide,by simp⟩ ?_;refine HU ?_;simp(maxDischargeDepth:=12) (maxSteps:=1000000) -implicitDefEqProofs only[go_sem,Nat.reduceAdd,Nat.reduceSub,Nat.reduceMul,Nat.reduceLeDiff,Nat.reduceEqDiff,Nat.reduceGT,Nat.reduceBEq,reduceCtorEq,↓reduceIte,Int.reduceToNat,Int.reduceLE,Int.reduceLT,Int.reduceNe,Int.reduceEq,Tryz.ntmps12];intro b4 b6;have n1:=aw b6 b4.n (by simp(maxDischargeDepth:=12) (maxSteps:=1000000) -implicitDefEqProofs only[go_sem,Nat.reduceAdd,Nat.reduceSub,Nat.reduceMul,Nat.reduceLeDiff,Nat.reduceEqDiff,Nat.reduceGT,Nat.reduceBEq,reduceCtorEq,↓reduceIte,Int.reduceToNat,Int.reduceLE,Int.reduceLT,Int.reduceNe,Int.reduceEq]);have hm4:(b4.n=g.m)=False:=eq_false fun e=>by have:=ak b4;rw[e,hmd]at this;cases this
 have hm6:(b6.n=g.m)=False:=aw b6 g.m (by simp(maxDischargeDepth:=12) (maxSteps:=1000000) -implicitDefEqProofs only[go_sem,Nat.reduceAdd,Nat.reduceSub,Nat.reduceMul,Nat.reduceLeDiff,Nat.reduceEqDiff,Nat.reduceGT,Nat.reduceBEq,reduceCtorEq,↓reduceIte,Int.reduceToNat,Int.reduceLE,Int.reduceLT,Int.reduceNe,Int.reduceEq,hm4,hmd]);have h4l:b4.n∉g.bx:=fun q=>hI.lL q (ak b4)
 have h6S:lk S.box b6.n=none:=by
  have q:=ak b6;simp only[lk]at q;rw[if_neg (fun e=>by rw[←n1];exact e.symm)]at q;exact q
 have h6l:b6.n∉g.bx:=fun q=>hI.lL q h6S;obtain⟨X,hX⟩:∃X:St,X=⟨(b6.n,[dI 0,dI 0,.sl 0 true [],dI 0,dI 0,dI 0,dI 0,.sl 0 true []])::(b4.n,[dI o.kind,dI o.level,dI o.aC,dI o.snap,dS (tx o.bucket),dS (tx o.key),dS (tx o.value),dI o.label,dI o.dQ,dI o.n,.sl 1 false (aA o.ba)])::S.box,S.acc⟩:=⟨_,rfl⟩;have hHX:Has S X:=by rw[hX];exact⟨fun b x q=>ai (ak b6) (ai (ak b4) q),fun _ _ q=>q⟩
 have x4:lk X.box b4.n=some [dI o.kind,dI o.level,dI o.aC,dI o.snap,dS (tx o.bucket),dS (tx o.key),dS (tx o.value),dI o.label,dI o.dQ,dI o.n,.sl 1 false (aA o.ba)]:=by rw[hX];simp(maxDischargeDepth:=12) (maxSteps:=1000000) -implicitDefEqProofs only[go_sem,Nat.reduceAdd,Nat.reduceSub,Nat.reduceMul,Nat.reduceLeDiff,Nat.reduceEqDiff,Nat.reduceGT,Nat.reduceBEq,reduceCtorEq,↓reduceIte,Int.reduceToNat,Int.reduceLE,Int.reduceLT,Int.reduceNe,Int.reduceEq,n1]
 have x6:lk X.box b6.n=some [dI 0,dI 0,.sl 0 true [],dI 0,dI 0,dI 0,dI 0,.sl 0 true []]:=by rw[hX];simp(maxDischargeDepth:=12) (maxSteps:=1000000) -implicitDefEqProofs only[go_sem,Nat.reduceAdd,Nat.reduceSub,Nat.reduceMul,Nat.reduceLeDiff,Nat.reduceEqDiff,Nat.reduceGT,Nat.reduceBEq,reduceCtorEq,↓reduceIte,Int.reduceToNat,Int.reduceLE,Int.reduceLT,Int.reduceNe,Int.reduceEq]
 have hIX:=hI.has hHX;have xm:=hIX.md
 have hXn:(X.box.map (·.1)).Nodup:=by
  rw[hX];refine Xo.2 ⟨fun hm=>?_,Xo.2 ⟨fun hm=>?_,nb⟩⟩
  ·obtain⟨p,hp,e⟩:=Xk.1 hm;exact Y.mi b6.h p hp e
  ·obtain⟨p,hp,e⟩:=Xk.1 hm;exact Y.mi b4.h p hp e
 have hXa:(X.acc.map (·.1)).Nodup:=by rw[hX];exact na
 obtain⟨pq,hpq⟩:∃pq:DV→St→Prop,pq=fun d T=>∃e,dF eH c μ o full=(kU e,μ)∧d= .im 33 (dI e)∧∃g',MI T g' (N+1) c μ∧gF X T g g':=⟨_,rfl⟩;have hpan:∀e,dF eH c μ o full=(kU e,μ)→∀T g',MI T g' (N+1) c μ→gF X T g g'→pq (.im 33 (dI e)) T:=fun e h1 T g' h2 h3=>by rw[hpq];exact⟨e,h1,rfl,g',h2,h3⟩
 have h6g:∀{T:St} {g':MG},gF X T g g'→b6.n∉g'.bx:=fun hF q=>(hF.nb _ q).elim h6l fun e=>by rw[x6]at e;cases e
 subst hX;refine⟨[.pointer (some ⟨b6.n,0,none⟩)],rfl,pq,?_,?_,?_⟩
 ·refine fW (ss:=[3,6,10,11,12]) _ (by kernel_rfl) ?_;simp(maxDischargeDepth:=12) (maxSteps:=1000000) -implicitDefEqProofs only[go_sem,Nat.reduceAdd,Nat.reduceSub,Nat.reduceMul,Nat.reduceLeDiff,Nat.reduceEqDiff,Nat.reduceGT,Nat.reduceBEq,reduceCtorEq,↓reduceIte,Int.reduceToNat,Int.reduceLE,Int.reduceLT,Int.reduceNe,Int.reduceEq];refine an (aB _ true 1 _ fun h=>by cases h) ?_;rintro _ _ ⟨_,rfl,rfl⟩;simp(maxDischargeDepth:=12) (maxSteps:=1000000) -implicitDefEqProofs only[go_sem,Nat.reduceAdd,Nat.reduceSub,Nat.reduceMul,Nat.reduceLeDiff,Nat.reduceEqDiff,Nat.reduceGT,Nat.reduceBEq,reduceCtorEq,↓reduceIte,Int.reduceToNat,Int.reduceLE,Int.reduceLT,Int.reduceNe,Int.reduceEq];refine Y.wq [] [7] [0,1,2,3,4,5,6,7] mx (by kernel_rfl) ?_;simp(maxDischargeDepth:=12) (maxSteps:=1000000) -implicitDefEqProofs only[go_sem,Nat.reduceAdd,Nat.reduceSub,Nat.reduceMul,Nat.reduceLeDiff,Nat.reduceEqDiff,Nat.reduceGT,Nat.reduceBEq,reduceCtorEq,↓reduceIte,Int.reduceToNat,Int.reduceLE,Int.reduceLT,Int.reduceNe,Int.reduceEq,n1,hmd,hm4,hm6,hlen];refine Y.lg (fun T hT=>Om ⟨w0.w,w0.gh,pq⟩ hgO (μ.l.length:Int) o T) ?_
  cases hck:pX (μ.l.length:Int) o with
  |false=>
   simp(maxDischargeDepth:=12) (maxSteps:=1000000) -implicitDefEqProofs only[go_sem,Nat.reduceAdd,Nat.reduceSub,Nat.reduceMul,Nat.reduceLeDiff,Nat.reduceEqDiff,Nat.reduceGT,Nat.reduceBEq,reduceCtorEq,↓reduceIte,Int.reduceToNat,Int.reduceLE,Int.reduceLT,Int.reduceNe,Int.reduceEq];refine an (aB _ false 40 _ fun _ T hT=>?_) ?_
   ·exact hpan 40 (by unfold dF;rw[if_pos hck]) T g ((hIX.has hT).le (XA N)) (.has hT)
   rintro _ _ ⟨q,_⟩;cases q
  |true=>
  have hck':(0≤o.kind∧o.kind<17)∧(o.kind=16∨(0≤o.level∧o.level<(μ.l.length:Int))):=of_decide_eq_true hck;simp(maxDischargeDepth:=12) (maxSteps:=1000000) -implicitDefEqProofs only[go_sem,Nat.reduceAdd,Nat.reduceSub,Nat.reduceMul,Nat.reduceLeDiff,Nat.reduceEqDiff,Nat.reduceGT,Nat.reduceBEq,reduceCtorEq,↓reduceIte,Int.reduceToNat,Int.reduceLE,Int.reduceLT,Int.reduceNe,Int.reduceEq];refine an (aB _ true 40 _ fun h=>by cases h) ?_;rintro _ _ ⟨_,rfl,rfl⟩;by_cases hk0:o.kind=0
  ·have e0:(o.kind=0)=True:=eq_true hk0;have hd0:dF eH c μ o full=(C1 (lM μ.r o.level).2,⟨μ.l,(lM μ.r o.level).1,μ.sn⟩):=by unfold dF;rw[if_neg (by rw[hck];simp),if_pos hk0]
   simp(maxDischargeDepth:=12) (maxSteps:=1000000) -implicitDefEqProofs only[go_sem,Nat.reduceAdd,Nat.reduceSub,Nat.reduceMul,Nat.reduceLeDiff,Nat.reduceEqDiff,Nat.reduceGT,Nat.reduceBEq,reduceCtorEq,↓reduceIte,Int.reduceToNat,Int.reduceLE,Int.reduceLT,Int.reduceNe,Int.reduceEq,n1,e0];refine Y.wq [] [6,8] [0,1,2,4,3,5,6,7,8] mx (by kernel_rfl) ?_;simp(maxDischargeDepth:=12) (maxSteps:=1000000) -implicitDefEqProofs only[go_sem,Nat.reduceAdd,Nat.reduceSub,Nat.reduceMul,Nat.reduceLeDiff,Nat.reduceEqDiff,Nat.reduceGT,Nat.reduceBEq,reduceCtorEq,↓reduceIte,Int.reduceToNat,Int.reduceLE,Int.reduceLT,Int.reduceNe,Int.reduceEq,n1,hmd,hm4,hm6];refine an (Pc _ hIX.tb (by have:=hM.r;omega) o.level) ?_;rintro _ T ⟨rfl,θ',hT,hF⟩;obtain⟨own',k1,k2,_,_⟩:=hIX.ON (XA N) hT hF;have t6:lk T.box b6.n=some [dI 0,dI 0,.sl 0 true [],dI 0,dI 0,dI 0,dI 0,.sl 0 true []]:=k2.box _ _ h6l x6;simp(maxDischargeDepth:=12) (maxSteps:=1000000) -implicitDefEqProofs only[go_sem,Nat.reduceAdd,Nat.reduceSub,Nat.reduceMul,Nat.reduceLeDiff,Nat.reduceEqDiff,Nat.reduceGT,Nat.reduceBEq,reduceCtorEq,↓reduceIte,Int.reduceToNat,Int.reduceLE,Int.reduceLT,Int.reduceNe,Int.reduceEq,t6];obtain⟨j1,j2⟩:=tQ k1 ((gF.has hHX).trans k2) h6S (h6g k2) [dI 0,dI (lM μ.r o.level).2,.sl 0 true [],dI 0,dI 0,dI 0,dI 0,.sl 0 true []];rw[hd0];exact⟨.agg ⟨.refl _,.refl _,.nil _ _ _,.refl _,.refl _,.refl _,.refl _,.nil _ _ _,trivial⟩,_,j1,j2⟩
  have e0:(o.kind=0)=False:=eq_false hk0;by_cases hk16:o.kind=16
  ·have e16:(o.kind=16)=True:=eq_true hk16;have hd16:dF eH c μ o full=(kU 0,bL μ o full):=by unfold dF;rw[if_neg (by rw[hck];simp),if_neg hk0,if_pos hk16]
   simp(maxDischargeDepth:=12) (maxSteps:=1000000) -implicitDefEqProofs only[go_sem,Nat.reduceAdd,Nat.reduceSub,Nat.reduceMul,Nat.reduceLeDiff,Nat.reduceEqDiff,Nat.reduceGT,Nat.reduceBEq,reduceCtorEq,↓reduceIte,Int.reduceToNat,Int.reduceLE,Int.reduceLT,Int.reduceNe,Int.reduceEq,n1,e0,e16];refine an (Ns hIX hM hN) ?_;rintro _ T ⟨g',k1,k2⟩;have t6:lk T.box b6.n=some [dI 0,dI 0,.sl 0 true [],dI 0,dI 0,dI 0,dI 0,.sl 0 true []]:=k2.box _ _ h6l x6;simp(maxDischargeDepth:=12) (maxSteps:=1000000) -implicitDefEqProofs only[go_sem,Nat.reduceAdd,Nat.reduceSub,Nat.reduceMul,Nat.reduceLeDiff,Nat.reduceEqDiff,Nat.reduceGT,Nat.reduceBEq,reduceCtorEq,↓reduceIte,Int.reduceToNat,Int.reduceLE,Int.reduceLT,Int.reduceNe,Int.reduceEq,t6];obtain⟨j1,j2⟩:=tQ k1 ((gF.has hHX).trans k2) h6S (h6g k2) [dI 0,dI 0,.sl 0 true [],dI 0,dI 0,dI 0,dI 0,.sl 0 true []];rw[hd16];exact⟨.agg ⟨.refl _,.refl _,.nil _ _ _,.refl _,.refl _,.refl _,.refl _,.nil _ _ _,trivial⟩,_,j1,j2⟩
  have e16:(o.kind=16)=False:=eq_false hk16;have hlv:0≤o.level∧o.level<(μ.l.length:Int):=hck'.2.resolve_left hk16;have hxo:g.ls[o.level.toNat]? =some (g.ls[o.level.toNat]'(by omega)):=W5 _;generalize g.ls[o.level.toNat]'(by omega)=own at hxo;simp(maxDischargeDepth:=12) (maxSteps:=1000000) -implicitDefEqProofs only[go_sem,Nat.reduceAdd,Nat.reduceSub,Nat.reduceMul,Nat.reduceLeDiff,Nat.reduceEqDiff,Nat.reduceGT,Nat.reduceBEq,reduceCtorEq,↓reduceIte,Int.reduceToNat,Int.reduceLE,Int.reduceLT,Int.reduceNe,Int.reduceEq,n1,e0,e16];refine Y.wq [12] [] [0,2,3,4,5,7,1,6,8,9,10,11,12,13] mx (by kernel_rfl) ?_;simp(maxDischargeDepth:=12) (maxSteps:=1000000) -implicitDefEqProofs only[go_sem,Nat.reduceAdd,Nat.reduceSub,Nat.reduceMul,Nat.reduceLeDiff,Nat.reduceEqDiff,Nat.reduceGT,Nat.reduceBEq,reduceCtorEq,↓reduceIte,Int.reduceToNat,Int.reduceLE,Int.reduceLT,Int.reduceNe,Int.reduceEq,n1,hmd,hm4,hm6,hxo];refine⟨hlv.1,by omega,fun bw=>?_⟩;have m4:=aw bw b4.n (by simp(maxDischargeDepth:=12) (maxSteps:=1000000) -implicitDefEqProofs only[go_sem,Nat.reduceAdd,Nat.reduceSub,Nat.reduceMul,Nat.reduceLeDiff,Nat.reduceEqDiff,Nat.reduceGT,Nat.reduceBEq,reduceCtorEq,↓reduceIte,Int.reduceToNat,Int.reduceLE,Int.reduceLT,Int.reduceNe,Int.reduceEq,n1]);have m6:=aw bw b6.n (by simp(maxDischargeDepth:=12) (maxSteps:=1000000) -implicitDefEqProofs only[go_sem,Nat.reduceAdd,Nat.reduceSub,Nat.reduceMul,Nat.reduceLeDiff,Nat.reduceEqDiff,Nat.reduceGT,Nat.reduceBEq,reduceCtorEq,↓reduceIte,Int.reduceToNat,Int.reduceLE,Int.reduceLT,Int.reduceNe,Int.reduceEq]);have mm:=aw bw g.m (by simp(maxDischargeDepth:=12) (maxSteps:=1000000) -implicitDefEqProofs only[go_sem,Nat.reduceAdd,Nat.reduceSub,Nat.reduceMul,Nat.reduceLeDiff,Nat.reduceEqDiff,Nat.reduceGT,Nat.reduceBEq,reduceCtorEq,↓reduceIte,Int.reduceToNat,Int.reduceLE,Int.reduceLT,Int.reduceNe,Int.reduceEq,hmd,hm4,hm6])
  have hbwS:lk S.box bw.n=none:=by
   have q:=ak bw;simp only[lk]at q;rw[if_neg (fun e=>by rw[←m6];exact e.symm),if_neg (fun e=>by rw[←m4];exact e.symm)]at q;exact q
  have hbwl:bw.n∉g.bx:=fun q=>hI.lL q hbwS;refine Y.wq [] [7] [0,1,2,4,3,5,6,7] mx (by kernel_rfl) ?_;simp(maxDischargeDepth:=12) (maxSteps:=1000000) -implicitDefEqProofs only[go_sem,Nat.reduceAdd,Nat.reduceSub,Nat.reduceMul,Nat.reduceLeDiff,Nat.reduceEqDiff,Nat.reduceGT,Nat.reduceBEq,reduceCtorEq,↓reduceIte,Int.reduceToNat,Int.reduceLE,Int.reduceLT,Int.reduceNe,Int.reduceEq,n1,hmd,hm4,hm6,m4,m6,mm];obtain⟨X2,hX2⟩:∃X2:St,X2=⟨(bw.n,qS g.m own o full)::(b6.n,[dI 0,dI 0,.sl 0 true [],dI 0,dI 0,dI 0,dI 0,.sl 0 true []])::(b4.n,[dI o.kind,dI o.level,dI o.aC,dI o.snap,dS (tx o.bucket),dS (tx o.key),dS (tx o.value),dI o.label,dI o.dQ,dI o.n,.sl 1 false (aA o.ba)])::S.box,S.acc⟩:=⟨_,rfl⟩;have hXX2:Has ⟨(b6.n,[dI 0,dI 0,.sl 0 true [],dI 0,dI 0,dI 0,dI 0,.sl 0 true []])::(b4.n,[dI o.kind,dI o.level,dI o.aC,dI o.snap,dS (tx o.bucket),dS (tx o.key),dS (tx o.value),dI o.label,dI o.dQ,dI o.n,.sl 1 false (aA o.ba)])::S.box,S.acc⟩ X2:=by rw[hX2];exact⟨fun b x q=>ai (ak bw) q,fun _ _ q=>q⟩
  have y4:lk X2.box b4.n=some [dI o.kind,dI o.level,dI o.aC,dI o.snap,dS (tx o.bucket),dS (tx o.key),dS (tx o.value),dI o.label,dI o.dQ,dI o.n,.sl 1 false (aA o.ba)]:=hXX2.box _ _ x4;have y6:lk X2.box b6.n=some [dI 0,dI 0,.sl 0 true [],dI 0,dI 0,dI 0,dI 0,.sl 0 true []]:=hXX2.box _ _ x6;have yw:lk X2.box bw.n=some (qS g.m own o full):=by rw[hX2];simp[lk]
  have hI2:=hIX.has hXX2;subst hX2;refine Y.lg (fun T hT=>dR _ (hT.box _ _ yw)) ?_;simp(maxDischargeDepth:=12) (maxSteps:=1000000) -implicitDefEqProofs only[go_sem,Nat.reduceAdd,Nat.reduceSub,Nat.reduceMul,Nat.reduceLeDiff,Nat.reduceEqDiff,Nat.reduceGT,Nat.reduceBEq,reduceCtorEq,↓reduceIte,Int.reduceToNat,Int.reduceLE,Int.reduceLT,Int.reduceNe,Int.reduceEq,n1,hmd,hm4,hm6,m4,m6,mm];refine Y.lg (fun T hT=>Sj _ (hI2.has hT).tb o.level o.aC) ?_;by_cases hopen:dm μ.r o.level o.aC<μ.r.length
  case neg=>
   rw[decide_eq_false hopen];simp(maxDischargeDepth:=12) (maxSteps:=1000000) -implicitDefEqProofs only[go_sem,Nat.reduceAdd,Nat.reduceSub,Nat.reduceMul,Nat.reduceLeDiff,Nat.reduceEqDiff,Nat.reduceGT,Nat.reduceBEq,reduceCtorEq,↓reduceIte,Int.reduceToNat,Int.reduceLE,Int.reduceLT,Int.reduceNe,Int.reduceEq];refine an (aB _ false 30 _ fun _ T hT=>?_) ?_
   ·exact hpan 30 (by unfold dF;rw[if_neg (by rw[hck];simp),if_neg hk0,if_neg hk16,if_pos hopen]) T g ((hI2.has hT).le (XA N)) ((gF.has hXX2).trans (.has hT))
   rintro _ _ ⟨q,_⟩;cases q
  rw[decide_eq_true hopen];simp(maxDischargeDepth:=12) (maxSteps:=1000000) -implicitDefEqProofs only[go_sem,Nat.reduceAdd,Nat.reduceSub,Nat.reduceMul,Nat.reduceLeDiff,Nat.reduceEqDiff,Nat.reduceGT,Nat.reduceBEq,reduceCtorEq,↓reduceIte,Int.reduceToNat,Int.reduceLE,Int.reduceLT,Int.reduceNe,Int.reduceEq];refine an (aB _ true 30 _ fun h=>by cases h) ?_;rintro _ _ ⟨_,rfl,rfl⟩;have hdm:dF eH c μ o full=Gp μ (bC eH c μ o full):=by unfold dF;rw[if_neg (by rw[hck];simp),if_neg hk0,if_neg hk16,if_neg (fun q=>q hopen)]
  have hses:o.aC≠0:=by
   obtain⟨s,hs,_⟩:=mQ hopen;have:=(hI.tb.ok.le hs).1;rw[(fP hs).2.1]at this;omega
  have hwk:lY ⟨(bw.n,qS g.m own o full)::(b6.n,[dI 0,dI 0,.sl 0 true [],dI 0,dI 0,dI 0,dI 0,.sl 0 true []])::(b4.n,[dI o.kind,dI o.level,dI o.aC,dI o.snap,dS (tx o.bucket),dS (tx o.key),dS (tx o.value),dI o.label,dI o.dQ,dI o.n,.sl 1 false (aA o.ba)])::S.box,S.acc⟩ g bw.n own o full:=⟨yw,hxo,hlv.1,hbwl,hses⟩;simp(maxDischargeDepth:=12) (maxSteps:=1000000) -implicitDefEqProofs only[go_sem,Nat.reduceAdd,Nat.reduceSub,Nat.reduceMul,Nat.reduceLeDiff,Nat.reduceEqDiff,Nat.reduceGT,Nat.reduceBEq,reduceCtorEq,↓reduceIte,Int.reduceToNat,Int.reduceLE,Int.reduceLT,Int.reduceNe,Int.reduceEq];refine Y.wq [0] [3,5,6] [1,4,2,0,3,5,6] mx (by kernel_rfl) ?_;simp(maxDischargeDepth:=12) (maxSteps:=1000000) -implicitDefEqProofs only[go_sem,Nat.reduceAdd,Nat.reduceSub,Nat.reduceMul,Nat.reduceLeDiff,Nat.reduceEqDiff,Nat.reduceGT,Nat.reduceBEq,reduceCtorEq,↓reduceIte,Int.reduceToNat,Int.reduceLE,Int.reduceLT,Int.reduceNe,Int.reduceEq,m4,n1];refine an (Ly _ _) ?_;rintro _ _ ⟨l,es,cl,rfl,rfl,hget⟩;have hgk:=hget o.kind (by omega) (by omega);have hokf:=Ht (k:=o.kind) (by omega) (by omega);simp(maxDischargeDepth:=12) (maxSteps:=1000000) -implicitDefEqProofs only[go_sem,Nat.reduceAdd,Nat.reduceSub,Nat.reduceMul,Nat.reduceLeDiff,Nat.reduceEqDiff,Nat.reduceGT,Nat.reduceBEq,reduceCtorEq,↓reduceIte,Int.reduceToNat,Int.reduceLE,Int.reduceLT,Int.reduceNe,Int.reduceEq,m4,n1,hgk,hokf];have hX3:Has ⟨(bw.n,qS g.m own o full)::(b6.n,[dI 0,dI 0,.sl 0 true [],dI 0,dI 0,dI 0,dI 0,.sl 0 true []])::(b4.n,[dI o.kind,dI o.level,dI o.aC,dI o.snap,dS (tx o.bucket),dS (tx o.key),dS (tx o.value),dI o.label,dI o.dQ,dI o.n,.sl 1 false (aA o.ba)])::S.box,S.acc⟩ ⟨(bw.n,qS g.m own o full)::(b6.n,[dI 0,dI 0,.sl 0 true [],dI 0,dI 0,dI 0,dI 0,.sl 0 true []])::(b4.n,[dI o.kind,dI o.level,dI o.aC,dI o.snap,dS (tx o.bucket),dS (tx o.key),dS (tx o.value),dI o.label,dI o.dQ,dI o.n,.sl 1 false (aA o.ba)])::S.box,(l.n,.xo (.mp (.int .i64) es cl))::S.acc⟩:=⟨fun _ _ q=>q,fun a x q=>ai (ak l) q⟩;refine Tv (Vw (w0:=⟨w0.w,w0.gh,pq⟩) hgC (hI2.has hX3) hM hgr hN (hwk.has hX3) (by omega) (by omega) fun e he T g' k1 k2=>hpan e (by rw[hdm,he];rfl) T g' k1 (((gF.has hXX2).trans (.has hX3)).trans k2)) ?_;rintro d T ⟨r,μ',g',ho,hwd,k1,k2⟩;refine⟨HC r,hwd,?_⟩;have hFX:=((gF.has hXX2).trans (.has hX3)).trans k2;have t6:lk T.box b6.n=some [dI 0,dI 0,.sl 0 true [],dI 0,dI 0,dI 0,dI 0,.sl 0 true []]:=hFX.box _ _ h6l x6;rw[ho]at hdm;simp(maxDischargeDepth:=12) (maxSteps:=1000000) -implicitDefEqProofs only[go_sem,Nat.reduceAdd,Nat.reduceSub,Nat.reduceMul,Nat.reduceLeDiff,Nat.reduceEqDiff,Nat.reduceGT,Nat.reduceBEq,reduceCtorEq,↓reduceIte,Int.reduceToNat,Int.reduceLE,Int.reduceLT,Int.reduceNe,Int.reduceEq,t6];obtain⟨j1,j2⟩:=tQ k1 ((gF.has hHX).trans hFX) h6S (h6g hFX) [dI r.e,dI r.n,.sl 3 false (r.rows.map qT),dI 0,dI 0,dI 0,dI 0,.sl 6 false (r.om.map sx)];rw[hdm];exact⟨.refl _,g',j1,j2⟩
 ·intro w;exact gM (Dc (fz none) (fun _=>trivial) rfl ⟨b6.n,0,none⟩ w) fun e u w' h=>⟨⟨_,h.1⟩,h.2.1,h.2.2⟩
 ·rintro g0 T w v d r hv hq;rw[hpq]at hq;obtain⟨e,he,rfl,g',hIT,hFT⟩:=hq;obtain⟨u,rfl,hu⟩:=kx hv;have hu:=aj hu;subst hu;have t6:lk T.box b6.n=some [dI 0,dI 0,.sl 0 true [],dI 0,dI 0,dI 0,dI 0,.sl 0 true []]:=hFT.box _ _ h6l x6;obtain⟨us,e1,hh,hru,hone,hset⟩:=r.yn (ds':=[dI e,dI 0,.sl 0 true [],dI 0,dI 0,dI 0,dI 0,.sl 0 true []]) t6;have hus:us.size=8:=by have:=hru.len;simpa using this.symm
  refine gM (IT (fz none) (fun _=>trivial) rfl b6.n e1 us e [] w hh hus) ?_;rintro e' u' w' ⟨h1,h2,h3⟩;refine⟨⟨_,h1⟩,h2,g0,⟨up T.box b6.n [dI e,dI 0,.sl 0 true [],dI 0,dI 0,dI 0,dI 0,.sl 0 true []],T.acc⟩,.refl g0,?_,?_⟩
  ·rw[h3];refine hset _ ?_ ?_
   ·exact ae.cons (.v _ rfl) (ae.cons (.v _ rfl) (ae.cons (.nil 0 true none 0 fun _=>rfl) (ae.cons (.v _ rfl) (ae.cons (.v _ rfl) (ae.cons (.v _ rfl) (ae.cons (.v _ rfl) (ae.cons (.nil 0 true none 0 fun _=>rfl) (ae.nil _))))))))
   ·intro u hu;simp at hu
    repeat' first|(rcases hu with rfl|hu;rfl)|(subst hu;rfl)
  ·simp(maxDischargeDepth:=12) (maxSteps:=1000000) -implicitDefEqProofs only[go_sem,Nat.reduceAdd,Nat.reduceSub,Nat.reduceMul,Nat.reduceLeDiff,Nat.reduceEqDiff,Nat.reduceGT,Nat.reduceBEq,reduceCtorEq,↓reduceIte,Int.reduceToNat,Int.reduceLE,Int.reduceLT,Int.reduceNe,Int.reduceEq,t6];obtain⟨k1,k2⟩:=tQ hIT ((gF.has hHX).trans hFT) h6S (h6g hFT) [dI e,dI 0,.sl 0 true [],dI 0,dI 0,dI 0,dI 0,.sl 0 true []];rw[he];exact⟨.agg ⟨.refl _,.refl _,.nil _ _ _,.refl _,.refl _,.refl _,.refl _,.nil _ _ _,trivial⟩,g',k1,k2⟩
theorem Nh{w0:W0}{S:St}{g:MG}{N:Nat}{c:Cf}{μ:bq}{o:bp}{full:Bool}(hgO:nW w0)(hgC:kW w0)(hI:MI S g N c μ)(hM:iN N c μ)(hgr:c.gr.length≤1048576)(hN:N≤10000):
 aa Tryz.prog w0 12 [bz g.m,AU o,dB full] S (fun d S'=>d=HC (dF eH c μ o full).1∧∃g',MI S' g' (N+1) c (dF eH c μ o full).2∧gF S S' g g'):=
 iC (TP hgO hgC hI hM hgr hN) (fp.refl _) fun d S' h=>⟨_,h.1,rfl,h.2⟩
end Go.Proofs.YtoepfmhnapedoaaGreatDoor
namespace Aml.Y
open Go Go.RowKit
section
variable {P:Program} {w0:W0} {S0 S1:St} {ops:Array Oper} {md:Region.Mode}
def HO(gs ns:List Nat)(md:Region.Mode)(ops:Array Oper)(F:Array Bool→Bool):List Nat→Array Bool→Bool
 |[],listed=>F listed
 |k::ks,listed=>(Region.ready md ops listed).contains k&&K0 gs ns md ops listed k&&HO gs ns md ops F ks (listed.setIfInBounds k true)
theorem qL{k:Nat}{listed:Array Bool}{m:Nat}(hun:listed.getD k true=false)(hcnt:∀l':List Nat,l'.Nodup→(∀k,k∈l'→listed.getD k true=false)→l'.length≤m+1):∀l':List Nat,l'.Nodup→(∀j,j∈l'→(listed.setIfInBounds k true).getD j true=false)→l'.length≤m:=by
 intro l' hn hl'
 have hks:k<listed.size:=by
  rcases XH k listed.size with h|h
  ·exact h
  ·rw[Xt,X6 h]at hun;cases hun
 have hkl:k∉l':=fun hk=>by
  have:=hl' k hk;rw[Xt,Xu]at this;simp[hks]at this
 have:=hcnt (k::l') (Xo.2 ⟨hkl,hn⟩) fun m hm=>by
  rcases Xm.1 hm with rfl|hm
  ·exact hun
  ·have:=hl' m hm;rw[getD_set_ne true (show k≠m from fun e=>hkl (e▸hm))]at this;exact this
 simp at this;omega
theorem KM(hSS:∀T,Hm S0 T→Hm S1 T){gs ns:List Nat}{K G:List DV→St→Prop}{F:Array Bool→Bool}{m:Nat}
 (hG:∀listed fr S,F listed=true→(∀l':List Nat,l'.Nodup→(∀k,k∈l'→listed.getD k true=false)→l'.length≤m)→G fr S→HD P w0 S0 S1 gs ns md ops K m listed fr S):∀(l:List Nat) (listed:Array Bool) (fr:List DV) (S:St),
 (∀l':List Nat,l'.Nodup→(∀k,k∈l'→listed.getD k true=false)→l'.length≤l.length+m)→
 HO gs ns md ops F l listed=true→LO P w0 S0 S1 gs ns ops G l fr S→HD P w0 S0 S1 gs ns md ops K (l.length+m) listed fr S
 |[],listed,fr,S,hcnt,hB,h=>by
  simp only[XK,Yb]at hcnt ⊢;exact hG listed fr S hB hcnt h
 |k::l,listed,fr,S,hcnt,hB,h=>by
  simp only[HO,W8]at hB;obtain⟨⟨hr,hf⟩,hB'⟩:=hB;have hr':k∈Region.ready md ops listed:=by simpa using hr
  have hun:=(mem_ready.1 hr').1;unfold LO at h;split at h
  ·exact h.elim
  rename_i o h0
  have hcnt':∀l':List Nat,l'.Nodup→(∀k,k∈l'→listed.getD k true=false)→l'.length≤(l.length+m)+1:=fun l' a b=>by
   have:=hcnt l' a b;simp only[Xi]at this;omega
  have e:(k::l).length+m=(l.length+m)+1:=by simp only[Xi];omega
  rw[e];refine rY hSS h0 (l.length+m) listed fr S (sq hf) (pR h0 hf) hcnt' hr' ?_;exact cY (fun fr S h=>⟨S,.refl S,KM hSS hG l _ fr S (qL hun hcnt') hB' h⟩) h
theorem oN{gs ns:List Nat}{K K':List DV→St→Prop}(h:∀fr S,K fr S→K' fr S):∀(l:List Nat) {fr:List DV} {S:St},LO P w0 S0 S1 gs ns ops K l fr S→LO P w0 S0 S1 gs ns ops K' l fr S
 |[],fr,S,q=>h _ _ q
 |i::is,fr,S,q=>by
  unfold LO at q ⊢;split at q
  ·exact q.elim
  ·exact cY (fun fr S q=>oN h is q) q
inductive Tr where
 |ord (l:List Nat)
 |br (pre:List Nat) (a:Nat) (ta:Tr) (b:Nat) (tb:Tr)
def Lj:Tr→Nat
 | .ord l=>l.length
 | .br pre a ta b tb=>pre.length+(Lj ta+1)
def HA(gs ns:List Nat)(ops:Array Oper):Tr→Array Bool→Bool
 | .ord l,listed=>v8 gs ns .any ops l listed
 | .br pre a ta b tb,listed=>Lj ta==Lj tb&&HO gs ns .any ops (fun listed=>(Region.ready .any ops listed).all (fun i=>i==a||i==b)&&!(Region.ready .any ops listed).isEmpty&&HA gs ns ops ta (listed.setIfInBounds a true)&&HA gs ns ops tb (listed.setIfInBounds b true)) pre listed
def LT(P:Program)(w0:W0)(S0 S1:St)(gs ns:List Nat)(ops:Array Oper)(K:List DV→St→Prop):Tr→List DV→St→Prop
 | .ord l,fr,S=>LO P w0 S0 S1 gs ns ops K l fr S
 | .br pre a ta b tb,fr,S=>LO P w0 S0 S1 gs ns ops (fun fr S=>LO P w0 S0 S1 gs ns ops (LT P w0 S0 S1 gs ns ops K ta) [a] fr S∧LO P w0 S0 S1 gs ns ops (LT P w0 S0 S1 gs ns ops K tb) [b] fr S) pre fr S
def KY(P:Program)(w0:W0)(S0 S1:St)(gs ns:List Nat)(ops:Array Oper)(K:List DV→St→Prop):Tr→List DV→St→Prop
 | .ord l,fr,S=>jM P w0 S0 S1 gs ns ops K l fr S
 | .br pre a ta b tb,fr,S=>jM P w0 S0 S1 gs ns ops (fun fr S=>jM P w0 S0 S1 gs ns ops (KY P w0 S0 S1 gs ns ops K ta) [a] fr S∧jM P w0 S0 S1 gs ns ops (KY P w0 S0 S1 gs ns ops K tb) [b] fr S) pre fr S
theorem nx{gs ns:List Nat}{K:List DV→St→Prop}(hs:∀(i:Nat) (o:Oper),ops[i]? =some o→fw o.op=true):∀(t:Tr) {fr:List DV} {S:St},KY P w0 S0 S1 gs ns ops K t fr S→LT P w0 S0 S1 gs ns ops K t fr S
 | .ord l,fr,S,h=>cF hs l h
 | .br pre a ta b tb,fr,S,h=>oN (fun fr S h=>⟨oN (fun fr S h=>nx hs ta h) _ (cF hs _ h.1),oN (fun fr S h=>nx hs tb h) _ (cF hs _ h.2)⟩) pre (cF hs pre h)
theorem Fp(hSS:∀T,Hm S0 T→Hm S1 T){gs ns:List Nat}{K:List DV→St→Prop}:∀(t:Tr) (listed:Array Bool) (fr:List DV) (S:St),
 (∀l':List Nat,l'.Nodup→(∀k,k∈l'→listed.getD k true=false)→l'.length≤Lj t)→
 HA gs ns ops t listed=true→LT P w0 S0 S1 gs ns ops K t fr S→HD P w0 S0 S1 gs ns .any ops K (Lj t) listed fr S
 | .ord l,listed,fr,S,hcnt,hB,h=>oz hSS l listed fr S hcnt hB h
 | .br pre a ta b tb,listed,fr,S,hcnt,hB,h=>by
  simp only[HA,W8,beq_iff_eq]at hB;obtain⟨he,hB⟩:=hB;refine KM hSS (m:=Lj ta+1) (fun listed fr S hF hc hG=>?_) pre listed fr S hcnt hB h;simp only[W8]at hF;obtain⟨⟨⟨hr,hne⟩,ha⟩,hb⟩:=hF;refine⟨fun h0=>(by rw[h0]at hne;cases hne),fun i hi=>?_⟩;have hik:i=a∨i=b:=by have:=Xq.1 hr i hi;simpa using this
  have hun:=(mem_ready.1 hi).1;rcases hik with rfl|rfl
  ·have hq:=hG.1;unfold LO at hq;unfold oW
   cases ho:ops[i]? with
   |none=>rw[ho]at hq;exact hq.elim
   |some o=>
    rw[ho]at hq;simp only at hq ⊢;exact cY (fun fr S h=>⟨S,.refl S,Fp hSS ta _ fr S (qL hun hc) ha h⟩) hq
  ·have hq:=hG.2;unfold LO at hq;unfold oW
   cases ho:ops[i]? with
   |none=>rw[ho]at hq;exact hq.elim
   |some o=>
    rw[ho]at hq;simp only at hq ⊢;exact cY (fun fr S h=>⟨S,.refl S,by rw[he];exact Fp hSS tb _ fr S (fun l' x y=>by have:=qL hun hc l' x y;rw[he]at this;exact this) hb h⟩) hq
def Pb(l:List Oper)(gs ns:List Nat)(t:Tr):Bool:=l.all (fun o=>fw o.op)&&HA gs ns l.toArray t (Array.replicate l.length false)&&(Lj t==l.length)
theorem Tp(S0 S1:St)(gs ns:List Nat)(t:Tr){id:Nat}{l:List Oper}{fr:List DV}{S:St}{Q:Exit→List DV→St→Prop}(hm:P.follows .mixedOrders=true)(hB:Pb l gs ns t=true)(hSS:∀T,Hm S0 T→Hm S1 T)
 (h:KY P w0 S0 S1 gs ns l.toArray (fun fr S=>gQ fr fun fr=>Q .normal fr S) t fr S):fL P w0 (.region id l.toArray true) fr S Q:=by
 simp only[Pb,W8,beq_iff_eq]at hB
 have hs:∀(i:Nat) (o:Oper),l.toArray[i]? =some o→fw o.op=true:=fun i o ho=>by
  have:l[i]? =some o:=by simpa using ho
  exact Xq.1 hB.1.1 o (W7 this)
 have h':=nx hs t h;intro g a' w h1 h2 h3;refine dO hm fun ro=>?_;have hR:Rel w0 g S {w with drawn:=w.drawn+1}:=h1.grow (iQ w)
 have hcnt:∀l':List Nat,l'.Nodup→(∀k,k∈l'→(Array.replicate l.length false).getD k true=false)→l'.length≤Lj t:=by
  intro l' hn hl
  have hsub:∀k,k∈l'→k∈List.range l.length:=fun k hk=>by
   have:=hl k hk;rw[X9];rcases XH k l.length with h|h
   ·exact h
   ·rw[Xt,X6 (by simpa using h)]at this;cases this
  have:=hn.length_le_of_subset (l₂:=List.range l.length) hsub;rw[hB.2];simpa using this
 have:=Fp (P:=P) (w0:=w0) (S0:=S0) (S1:=S1) (ops:=l.toArray) (K:=fun fr S=>Q .normal fr S) hSS t (Array.replicate l.length false) fr S hcnt hB.1.2 ?_
 ·have:=gB (ro:=ro) (g0:=g) (Q:=Q) _ _ fr S g a' _ (.refl g) hR h2 (h3.ba rfl fun _ _ h _=>h) this;rw[hB.2]at this;simpa using this
 ·exact h'
end
section
variable {P:Program} {w0:W0} {S0 S1:St} {gs ns:List Nat} {ops:Array Oper} {fr:List DV} {S:St} {K:List DV→St→Prop}
theorem Pa(l:List Nat):KY P w0 S0 S1 gs ns ops K (.ord l) fr S=jM P w0 S0 S1 gs ns ops K l fr S:=rfl
theorem Sg(pre:List Nat)(a:Nat)(ta:Tr)(b:Nat)(tb:Tr):KY P w0 S0 S1 gs ns ops K (.br pre a ta b tb) fr S=jM P w0 S0 S1 gs ns ops (fun fr S=>jM P w0 S0 S1 gs ns ops (KY P w0 S0 S1 gs ns ops K ta) [a] fr S∧jM P w0 S0 S1 gs ns ops (KY P w0 S0 S1 gs ns ops K tb) [b] fr S) pre fr S:=rfl
end
attribute [go_sem ↓] Pa Sg
end Aml.Y
namespace Go.Proofs.YtoepfmhnapedoaaGreatDoor
open Aml Go Rn Lat Grs
theorem Lr(w0:W0)(l:List (List UInt8))(S:St)(h0:l.length≤1048576):aa Tryz.prog w0 27 [.sl 1 false (aA l)] S fun d S'=>d= .sl 1 false (aA l)∧S'=S:=by
 refine eU (aa.mono (K:=fun d S'=>∃b:FN S.acc,d= .acc b.n (aA l).length∧S'=⟨S.box,(b.n,.arr 1 (aA l))::S.acc⟩) ?_ ?_)
 ·refine Cp 1 (by omega) ?_;refine kj [] mx Tryz.func27 rfl rfl (by kernel_rfl) ?_;simp(maxDischargeDepth:=12) (maxSteps:=1000000) -implicitDefEqProofs only[Tryz.ntmps27,go_sem,Nat.reduceAdd,Nat.reduceSub,Nat.reduceMul,Nat.reduceLeDiff,Nat.reduceEqDiff,Nat.reduceGT,Nat.reduceBEq,reduceCtorEq,↓reduceIte,Int.reduceToNat,Int.reduceLE,Int.reduceLT,Int.reduceNe,Int.reduceEq];intro b hb;refine⟨fun h1=> .inl ⟨XP fun hn=>?_,0,rfl⟩,fun h1=>⟨by omega,by unfold maxLen;omega,fun c=> .inr ⟨c,rfl,rfl⟩⟩⟩;rw[hb hn]at h1;cases h1
 ·rintro d S' ⟨b,rfl,rfl⟩;simp(maxDischargeDepth:=12) (maxSteps:=1000000) -implicitDefEqProofs only[go_sem,Nat.reduceAdd,Nat.reduceSub,Nat.reduceMul,Nat.reduceLeDiff,Nat.reduceEqDiff,Nat.reduceGT,Nat.reduceBEq,reduceCtorEq,↓reduceIte,Int.reduceToNat,Int.reduceLE,Int.reduceLT,Int.reduceNe,Int.reduceEq]
theorem NZ(w0:W0)(l:List Nat)(S:St)(h0:l.length≤1048576):aa Tryz.prog w0 28 [.sl 1 false ((l.map fun x:Nat=>dU (x:Int)))] S fun d S'=>d= .sl 1 false ((l.map fun x:Nat=>dU (x:Int)))∧S'=S:=by
 refine eU (aa.mono (K:=fun d S'=>∃b:FN S.acc,d= .acc b.n ((l.map fun x:Nat=>dU (x:Int))).length∧S'=⟨S.box,(b.n,.arr 1 ((l.map fun x:Nat=>dU (x:Int))))::S.acc⟩) ?_ ?_)
 ·refine Cp 1 (by omega) ?_;refine kj [] mx Tryz.func28 rfl rfl (by kernel_rfl) ?_;simp(maxDischargeDepth:=12) (maxSteps:=1000000) -implicitDefEqProofs only[Tryz.ntmps28,go_sem,Nat.reduceAdd,Nat.reduceSub,Nat.reduceMul,Nat.reduceLeDiff,Nat.reduceEqDiff,Nat.reduceGT,Nat.reduceBEq,reduceCtorEq,↓reduceIte,Int.reduceToNat,Int.reduceLE,Int.reduceLT,Int.reduceNe,Int.reduceEq];intro b hb;refine⟨fun h1=> .inl ⟨XP fun hn=>?_,0,rfl⟩,fun h1=>⟨by omega,by unfold maxLen;omega,fun c=> .inr ⟨c,rfl,rfl⟩⟩⟩;rw[hb hn]at h1;cases h1
 ·rintro d S' ⟨b,rfl,rfl⟩;simp(maxDischargeDepth:=12) (maxSteps:=1000000) -implicitDefEqProofs only[go_sem,Nat.reduceAdd,Nat.reduceSub,Nat.reduceMul,Nat.reduceLeDiff,Nat.reduceEqDiff,Nat.reduceGT,Nat.reduceBEq,reduceCtorEq,↓reduceIte,Int.reduceToNat,Int.reduceLE,Int.reduceLT,Int.reduceNe,Int.reduceEq]
theorem Lq(w0:W0)(l:List Int)(S:St)(h0:l.length≤1048576):aa Tryz.prog w0 29 [.sl 1 false (l.map dI)] S fun d S'=>d= .sl 1 false (l.map dI)∧S'=S:=by
 refine eU (aa.mono (K:=fun d S'=>∃b:FN S.acc,d= .acc b.n (l.map dI).length∧S'=⟨S.box,(b.n,.arr 1 (l.map dI))::S.acc⟩) ?_ ?_)
 ·refine Cp 1 (by omega) ?_;refine kj [] mx Tryz.func29 rfl rfl (by kernel_rfl) ?_;simp(maxDischargeDepth:=12) (maxSteps:=1000000) -implicitDefEqProofs only[Tryz.ntmps29,go_sem,Nat.reduceAdd,Nat.reduceSub,Nat.reduceMul,Nat.reduceLeDiff,Nat.reduceEqDiff,Nat.reduceGT,Nat.reduceBEq,reduceCtorEq,↓reduceIte,Int.reduceToNat,Int.reduceLE,Int.reduceLT,Int.reduceNe,Int.reduceEq];intro b hb;refine⟨fun h1=> .inl ⟨XP fun hn=>?_,0,rfl⟩,fun h1=>⟨by omega,by unfold maxLen;omega,fun c=> .inr ⟨c,rfl,rfl⟩⟩⟩;rw[hb hn]at h1;cases h1
 ·rintro d S' ⟨b,rfl,rfl⟩;simp(maxDischargeDepth:=12) (maxSteps:=1000000) -implicitDefEqProofs only[go_sem,Nat.reduceAdd,Nat.reduceSub,Nat.reduceMul,Nat.reduceLeDiff,Nat.reduceEqDiff,Nat.reduceGT,Nat.reduceBEq,reduceCtorEq,↓reduceIte,Int.reduceToNat,Int.reduceLE,Int.reduceLT,Int.reduceNe,Int.reduceEq]
theorem MH(w0:W0)(l:List G)(S:St)(h0:l.length≤1048576):aa Tryz.prog w0 30 [.sl 3 false (l.map gD)] S fun d S'=>d= .sl 3 false (l.map gD)∧S'=S:=by
 refine eU (aa.mono (K:=fun d S'=>∃b:FN S.acc,d= .acc b.n (l.map gD).length∧S'=⟨S.box,(b.n,.arr 3 (l.map gD))::S.acc⟩) ?_ ?_)
 ·refine Cp 3 (by omega) ?_;refine kj [] mx Tryz.func30 rfl rfl (by kernel_rfl) ?_;simp(maxDischargeDepth:=12) (maxSteps:=1000000) -implicitDefEqProofs only[Tryz.ntmps30,go_sem,Nat.reduceAdd,Nat.reduceSub,Nat.reduceMul,Nat.reduceLeDiff,Nat.reduceEqDiff,Nat.reduceGT,Nat.reduceBEq,reduceCtorEq,↓reduceIte,Int.reduceToNat,Int.reduceLE,Int.reduceLT,Int.reduceNe,Int.reduceEq];intro b hb;refine⟨fun h1=> .inl ⟨XP fun hn=>?_,0,rfl⟩,fun h1=>⟨by omega,by unfold maxLen;omega,fun c=> .inr ⟨c,rfl,rfl⟩⟩⟩;rw[hb hn]at h1;cases h1
 ·rintro d S' ⟨b,rfl,rfl⟩;simp(maxDischargeDepth:=12) (maxSteps:=1000000) -implicitDefEqProofs only[go_sem,Nat.reduceAdd,Nat.reduceSub,Nat.reduceMul,Nat.reduceLeDiff,Nat.reduceEqDiff,Nat.reduceGT,Nat.reduceBEq,reduceCtorEq,↓reduceIte,Int.reduceToNat,Int.reduceLE,Int.reduceLT,Int.reduceNe,Int.reduceEq]
def vI(n:Nat):bq:=⟨List.replicate n ⟨fun _=>none,[],0,fun _=>none⟩,[],fun _ _ _=>none⟩
theorem jv{α:Type}(b:Nat)(v:α)(L:List (Nat×α)):lk ((b,v)::L) b=some v:=by simp[lk]
def VV(S:St)(c:Cf)(T:St)(θ:eG)(sn m:Nat):Prop:=lk T.box m=some [.sl 1 false (aA c.nm),ec c.up,lN c.qu,jN c.gr,.sl 0 true [],bz θ.t,.mp sn]∧TI T θ []∧lk T.acc sn=some (.xo (.mp (.st [.i64,.i64,.i64]) [] 0))∧(∀i v,lk S.box i=some v→lk T.box i=some v)∧(∀i v,lk S.acc i=some v→lk T.acc i=some v)∧
 (∀i,i∈θ.bx→lk S.box i=none)∧(∀i,i∈θ.ax→lk S.acc i=none)∧lk S.box m=none∧lk S.acc sn=none∧m∉θ.bx∧sn∉θ.ax
structure VB(T:St)(c:Cf)(θ:eG)(sn m lr:Nat)(i:Nat)(B:List (Nat×List DV))(A:List (Nat×Ob))(ls:List Nat)(own:Nat→Ow):Prop where
 mb:lk B m=some [.sl 1 false (aA c.nm),ec c.up,lN c.qu,jN c.gr,.acc lr i,bz θ.t,.mp sn]
 row:lk A lr=some (.arr 1 (ls.map bz))
 len:ls.length=i
 HY:∀j v,j≠m→lk T.box j=some v→lk B j=some v
 ML:∀j v,lk T.acc j=some v→lk A j=some v
 el:∀(x:Nat) bx,ls[x]? =some bx→lk T.box bx=none∧∃b r,lk B bx=some [.mp b,.acc r 0,dI 0,.v (.map none)]∧lk A b=some (.xo (.mp .str [] 0))∧lk A r=some (.arr 6 [])∧own b= .b x∧own r= .au x
 nd:ls.Nodup
 ow:∀j,own j≠ .no→lk T.acc j=none∧j≠lr∧lk A j≠none
theorem M3{w0:W0}(hgT:ib w0)(hk:KU w0)(c:Cf)(hc:Bm c)(S:St):
 aa Tryz.prog w0 10 [QU c] S (fun d S'=>(¬KZ c∧d= .cQ [.v (.pointer none),dI 1]∧S'=S)∨(KZ c∧∃g,d= .cQ [bz g.m,dI 0]∧MI S' g 0 c (vI c.up.length)∧(∀i v,lk S.box i=some v→lk S'.box i=some v)∧(∀i v,lk S.acc i=some v→lk S'.acc i=some v)∧(∀i,i∈g.bx→lk S.box i=none)∧∀i,g.own i≠ .no→lk S.acc i=none)):=by
 have h1:=hc.Tx;have h2:=hc.Tg;have h3:=hc.Sm;have h4:=hc.RN;refine mv [4,9] mx Tryz.func10 rfl rfl (by kernel_rfl) ?_;simp(maxDischargeDepth:=12) (maxSteps:=1000000) -implicitDefEqProofs only[Tryz.ntmps10,go_sem,Nat.reduceAdd,Nat.reduceSub,Nat.reduceMul,Nat.reduceLeDiff,Nat.reduceEqDiff,Nat.reduceGT,Nat.reduceBEq,reduceCtorEq,↓reduceIte,Int.reduceToNat,Int.reduceLE,Int.reduceLT,Int.reduceNe,Int.reduceEq];intro b1;refine ao (NK _ hgT hk c hc _) ?_;by_cases hP:KZ c
 case neg=>
  rw[j0 hP];simp(maxDischargeDepth:=12) (maxSteps:=1000000) -implicitDefEqProofs only[go_sem,Nat.reduceAdd,Nat.reduceSub,Nat.reduceMul,Nat.reduceLeDiff,Nat.reduceEqDiff,Nat.reduceGT,Nat.reduceBEq,reduceCtorEq,↓reduceIte,Int.reduceToNat,Int.reduceLE,Int.reduceLT,Int.reduceNe,Int.reduceEq];exact⟨_,_,.refl _,.aP (.refl _),.inl ⟨hP,rfl,rfl⟩⟩
 rw[dj hP];simp(maxDischargeDepth:=12) (maxSteps:=1000000) -implicitDefEqProofs only[go_sem,Nat.reduceAdd,Nat.reduceSub,Nat.reduceMul,Nat.reduceLeDiff,Nat.reduceEqDiff,Nat.reduceGT,Nat.reduceBEq,reduceCtorEq,↓reduceIte,Int.reduceToNat,Int.reduceLE,Int.reduceLT,Int.reduceNe,Int.reduceEq];refine eu (Lr w0 c.nm _ h1) ?_;simp(maxDischargeDepth:=12) (maxSteps:=1000000) -implicitDefEqProofs only[go_sem,Nat.reduceAdd,Nat.reduceSub,Nat.reduceMul,Nat.reduceLeDiff,Nat.reduceEqDiff,Nat.reduceGT,Nat.reduceBEq,reduceCtorEq,↓reduceIte,Int.reduceToNat,Int.reduceLE,Int.reduceLT,Int.reduceNe,Int.reduceEq];refine eu (NZ w0 c.up _ h2) ?_;simp(maxDischargeDepth:=12) (maxSteps:=1000000) -implicitDefEqProofs only[go_sem,Nat.reduceAdd,Nat.reduceSub,Nat.reduceMul,Nat.reduceLeDiff,Nat.reduceEqDiff,Nat.reduceGT,Nat.reduceBEq,reduceCtorEq,↓reduceIte,Int.reduceToNat,Int.reduceLE,Int.reduceLT,Int.reduceNe,Int.reduceEq];refine eu (Lq w0 c.qu _ h3) ?_;simp(maxDischargeDepth:=12) (maxSteps:=1000000) -implicitDefEqProofs only[go_sem,Nat.reduceAdd,Nat.reduceSub,Nat.reduceMul,Nat.reduceLeDiff,Nat.reduceEqDiff,Nat.reduceGT,Nat.reduceBEq,reduceCtorEq,↓reduceIte,Int.reduceToNat,Int.reduceLE,Int.reduceLT,Int.reduceNe,Int.reduceEq];refine eu (MH w0 c.gr _ h4) ?_;simp(maxDischargeDepth:=12) (maxSteps:=1000000) -implicitDefEqProofs only[go_sem,Nat.reduceAdd,Nat.reduceSub,Nat.reduceMul,Nat.reduceLeDiff,Nat.reduceEqDiff,Nat.reduceGT,Nat.reduceBEq,reduceCtorEq,↓reduceIte,Int.reduceToNat,Int.reduceLE,Int.reduceLT,Int.reduceNe,Int.reduceEq];have hb1:lk ((b1.n,[.sl 1 false (aA c.nm),ec c.up,lN c.qu,jN c.gr])::S.box) b1.n=some [.sl 1 false (aA c.nm),ec c.up,lN c.qu,jN c.gr]:=by simp[lk]
 refine xN (σ:=St×eG×Nat×Nat) [4] [1,4] (fun s=>[(4,bz s.2.2.2)]) (fun s=>s.1) (fun s=>VV ⟨(b1.n,[.sl 1 false (aA c.nm),ec c.up,lN c.qu,jN c.gr])::S.box,S.acc⟩ c s.1 s.2.1 s.2.2.1 s.2.2.2) mx (by kernel_rfl) ?_ ?_
 ·refine Y.Tp ⟨(b1.n,[.sl 1 false (aA c.nm),ec c.up,lN c.qu,jN c.gr])::S.box,S.acc⟩ ⟨[],[]⟩ [1,2,4] [] (.br [0] 1 (.ord [2,3,4,5]) 2 (.ord [1,3,4,5])) mx (by kernel_rfl) (fun T _=>Y.oY T) ?_;simp(maxDischargeDepth:=12) (maxSteps:=1000000) -implicitDefEqProofs only[go_sem,Nat.reduceAdd,Nat.reduceSub,Nat.reduceMul,Nat.reduceLeDiff,Nat.reduceEqDiff,Nat.reduceGT,Nat.reduceBEq,reduceCtorEq,↓reduceIte,Int.reduceToNat,Int.reduceLE,Int.reduceLT,Int.reduceNe,Int.reduceEq];refine⟨?_,fun sn=>?_⟩
  ·refine an (PU w0 _) ?_;rintro _ T ⟨θ,rfl,hT,hbx,hac,hfb,hfa⟩;simp(maxDischargeDepth:=12) (maxSteps:=1000000) -implicitDefEqProofs only[go_sem,Nat.reduceAdd,Nat.reduceSub,Nat.reduceMul,Nat.reduceLeDiff,Nat.reduceEqDiff,Nat.reduceGT,Nat.reduceBEq,reduceCtorEq,↓reduceIte,Int.reduceToNat,Int.reduceLE,Int.reduceLT,Int.reduceNe,Int.reduceEq];refine⟨⟨hbx,hac⟩,fun sn=>?_⟩;have hsn:=ak sn;refine⟨⟨hbx,fun i v q=>ai hsn (hac i v q)⟩,fun m=>?_⟩;have hm:=ak m
   have hmS:lk ((b1.n,[.sl 1 false (aA c.nm),ec c.up,lN c.qu,jN c.gr])::S.box) m.n=none:=by
    cases hx:lk ((b1.n,[.sl 1 false (aA c.nm),ec c.up,lN c.qu,jN c.gr])::S.box) m.n with
    |none=>rfl
    |some v=>rw[hbx _ _ hx]at hm;cases hm
   have hsS:lk S.acc sn.n=none:=by
    cases hx:lk S.acc sn.n with
    |none=>rfl
    |some v=>rw[hac _ _ hx]at hsn;cases hsn
   refine⟨⟨fun i v q=>ai hm (hbx i v q),fun i v q=>ai hsn (hac i v q)⟩,(⟨(m.n,[.sl 1 false (aA c.nm),ec c.up,lN c.qu,jN c.gr,.sl 0 true [],bz θ.t,.mp sn.n])::T.box,(sn.n,.xo (.mp (.st [.i64,.i64,.i64]) [] 0))::T.acc⟩,θ,sn.n,m.n),⟨jv _ _ _,hT.mono (fun i v _ q=>ai hm q) fun i v _ q=>ai hsn q,by simp[lk],fun i v q=>ai hm (hbx i v q),fun i v q=>ai hsn (hac i v q),hfb,hfa,hmS,hsS,fun q=>hT.lL _ q hm,fun q=>hT.vo _ q hsn⟩,.refl _,.refl _⟩
  ·have hsn:=ak sn;refine an (PU w0 _) ?_;rintro _ T ⟨θ,rfl,hT,hbx,hac,hfb,hfa⟩;simp(maxDischargeDepth:=12) (maxSteps:=1000000) -implicitDefEqProofs only[go_sem,Nat.reduceAdd,Nat.reduceSub,Nat.reduceMul,Nat.reduceLeDiff,Nat.reduceEqDiff,Nat.reduceGT,Nat.reduceBEq,reduceCtorEq,↓reduceIte,Int.reduceToNat,Int.reduceLE,Int.reduceLT,Int.reduceNe,Int.reduceEq];refine⟨⟨hbx,fun i v q=>hac i v (ai hsn q)⟩,fun m=>?_⟩;have hm:=ak m
   have hmS:lk ((b1.n,[.sl 1 false (aA c.nm),ec c.up,lN c.qu,jN c.gr])::S.box) m.n=none:=by
    cases hx:lk ((b1.n,[.sl 1 false (aA c.nm),ec c.up,lN c.qu,jN c.gr])::S.box) m.n with
    |none=>rfl
    |some v=>rw[hbx _ _ hx]at hm;cases hm
   have hsT:=hac sn.n (.xo (.mp (.st [.i64,.i64,.i64]) [] 0)) (by simp[lk])
   have hfa':∀i,i∈θ.ax→lk S.acc i=none:=fun i q=>by
    have:=hfa i q
    cases hx:lk S.acc i with
    |none=>rfl
    |some v=>rw[ai hsn hx]at this;cases this
   refine⟨⟨fun i v q=>ai hm (hbx i v q),fun i v q=>hac i v (ai hsn q)⟩,(⟨(m.n,[.sl 1 false (aA c.nm),ec c.up,lN c.qu,jN c.gr,.sl 0 true [],bz θ.t,.mp sn.n])::T.box,T.acc⟩,θ,sn.n,m.n),⟨jv _ _ _,hT.mono (fun i v _ q=>ai hm q) fun i v _ q=>q,hsT,fun i v q=>ai hm (hbx i v q),fun i v q=>hac i v (ai hsn q),hfb,hfa',hmS,hsn,fun q=>hT.lL _ q hm,fun q=>by have:=hfa _ q;simp[lk]at this⟩,.refl _,.refl _⟩
 rintro⟨T,θ,sn,m⟩ hN;simp only at hN;obtain⟨hm,hT,hsn,hbx,hac,hfb,hfa,hmS,hsS,hmθ,hsθ⟩:=hN;have t1:=hbx b1.n _ hb1;simp(maxDischargeDepth:=12) (maxSteps:=1000000) -implicitDefEqProofs only[go_sem,Nat.reduceAdd,Nat.reduceSub,Nat.reduceMul,Nat.reduceLeDiff,Nat.reduceEqDiff,Nat.reduceGT,Nat.reduceBEq,reduceCtorEq,↓reduceIte,Int.reduceToNat,Int.reduceLE,Int.reduceLT,Int.reduceNe,Int.reduceEq,t1,hm];refine fV m 4 1 (by omega) (ds:=[.sl 1 false (aA c.nm),ec c.up,lN c.qu,jN c.gr,.sl 0 true [],bz θ.t,.mp sn]) hm rfl fun lr=>?_;have hlr:=ak lr;have hlrA:∀j x,lk T.acc j=some x→j≠lr.n:=fun j x h e=>by rw[e,hlr]at h;cases h
 refine fc [8] [4,31,32] (σ:=Nat×List (Nat×List DV)×List (Nat×Ob)×List Nat×(Nat→Ow)) (fun s=>[(4,bz m),(31,dI c.up.length),(32,dI s.1)]) (fun s=>⟨s.2.1,s.2.2.1⟩) (fun s=>s.1≤c.up.length∧VB T c θ sn m lr.n s.1 s.2.1 s.2.2.1 s.2.2.2.1 s.2.2.2.2) (fun s=>c.up.length-s.1) (0,Aml.up T.box m [.sl 1 false (aA c.nm),ec c.up,lN c.qu,jN c.gr,.acc lr.n 0,bz θ.t,.mp sn],(lr.n,.arr 1 [])::T.acc,[],fun _=> .no) mx (by kernel_rfl) ⟨⟨Xl _,?_⟩,?_⟩ ?_
 ·exact⟨cE hm,by simp[lk],rfl,fun j v q1 q2=>by rw[ab (Yd q1)];exact q2,fun j v q=>ai hlr q,fun x bx q=>by simp at q,Zm,fun j q=>absurd rfl q⟩
 ·simp(maxDischargeDepth:=12) (maxSteps:=1000000) -implicitDefEqProofs only[go_sem,Nat.reduceAdd,Nat.reduceSub,Nat.reduceMul,Nat.reduceLeDiff,Nat.reduceEqDiff,Nat.reduceGT,Nat.reduceBEq,reduceCtorEq,↓reduceIte,Int.reduceToNat,Int.reduceLE,Int.reduceLT,Int.reduceNe,Int.reduceEq]
 ·rintro⟨i,B,A,ls,own⟩ ⟨hi,hL⟩;simp only at hi hL;have hmb:=hL.mb;have hrow:=hL.row;have hlen:=hL.len;by_cases hil:i<c.up.length
  ·have e1:IntKind.i64.wrap ((i:Int)+1)=((i+1:Nat):Int):=aI (by omega);have hm8:maxLen=9223372036854775807:=rfl;simp(maxDischargeDepth:=12) (maxSteps:=1000000) -implicitDefEqProofs only[go_sem,Nat.reduceAdd,Nat.reduceSub,Nat.reduceMul,Nat.reduceLeDiff,Nat.reduceEqDiff,Nat.reduceGT,Nat.reduceBEq,reduceCtorEq,↓reduceIte,Int.reduceToNat,Int.reduceLE,Int.reduceLT,Int.reduceNe,Int.reduceEq,hmb];refine⟨fun _=>fun bm bx=>?_,fun h=>absurd hil h⟩;have hbmA:=ak bm;have nbl:(bm.n=lr.n)=False:=eq_false fun e=>by rw[e,hrow]at hbmA;cases hbmA
   have hbxB:=ak bx;have hbxm:(bx.n=m)=False:=eq_false fun e=>by rw[e,hmb]at hbxB;cases hbxB
   have hls:(ls.map bz).length=i:=by rw[XJ,hlen]
   simp(maxDischargeDepth:=12) (maxSteps:=1000000) -implicitDefEqProofs only[go_sem,Nat.reduceAdd,Nat.reduceSub,Nat.reduceMul,Nat.reduceLeDiff,Nat.reduceEqDiff,Nat.reduceGT,Nat.reduceBEq,reduceCtorEq,↓reduceIte,Int.reduceToNat,Int.reduceLE,Int.reduceLT,Int.reduceNe,Int.reduceEq,nbl,hrow,hlen];refine⟨by omega,by unfold maxLen;omega,?_⟩;refine fV bx.n 1 6 (by omega) (ds:=[.mp bm.n,.sl 0 true [],dI 0,.v (.map none)]) (jv _ _ _) rfl fun r=>Mn [] mx (by kernel_rfl) ?_;have hr:=ak r;have hrA:lk ((bm.n,Ob.xo (.mp .str [] 0))::Aml.up A lr.n (.arr 1 ((ls++[bx.n]).map bz))) r.n=none:=by rw[Xw];exact hr
   simp(maxDischargeDepth:=12) (maxSteps:=1000000) -implicitDefEqProofs only[go_sem,Nat.reduceAdd,Nat.reduceSub,Nat.reduceMul,Nat.reduceLeDiff,Nat.reduceEqDiff,Nat.reduceGT,Nat.reduceBEq,reduceCtorEq,↓reduceIte,Int.reduceToNat,Int.reduceLE,Int.reduceLT,Int.reduceNe,Int.reduceEq,e1];have hbmU:∀X:Ob,lk (Aml.up A lr.n X) bm.n=none:=fun X=>by rw[ab (fun e=>by rw[←nbl];exact e.symm)];exact hbmA
   have hbxU:∀X,lk (Aml.up B m X) bx.n=none:=fun X=>by rw[ab (fun e=>by rw[←hbxm];exact e.symm)];exact hbxB
   have hrb:bm.n≠r.n:=fun e=>by rw[←e,jv]at hrA;cases hrA
   have hrU:lk (Aml.up A lr.n (.arr 1 ((ls++[bx.n]).map bz))) r.n=none:=by
    simp only[lk]at hrA;rw[if_neg hrb]at hrA;exact hrA
   have hrA0:lk A r.n=none:=mg hrU;have hrl:r.n≠lr.n:=fun e=>by rw[e,hrow]at hrA0;cases hrA0
   have hkeep:∀j v,j≠lr.n→lk A j=some v→lk ((r.n,Ob.arr 6 [])::(bm.n,Ob.xo (.mp .str [] 0))::Aml.up A lr.n (.arr 1 ((ls++[bx.n]).map bz))) j=some v:=fun j v q1 q2=>ai hrA (ai (hbmU _) (by rw[ab (Yd q1)];exact q2));have hkeepB:∀j v,j≠m→lk B j=some v→lk ((bx.n,[DV.mp bm.n,.acc r.n 0,dI 0,.v (.map none)])::Aml.up B m [.sl 1 false (aA c.nm),ec c.up,lN c.qu,jN c.gr,.acc lr.n (i+1),bz θ.t,.mp sn]) j=some v:=fun j v q1 q2=>ai (hbxU _) (by rw[ab (Yd q1)];exact q2);have hTm:∀j,lk T.box j=none→j≠m:=fun j q e=>by rw[e,hm]at q;cases q
   refine⟨(i+1,(bx.n,[.mp bm.n,.acc r.n 0,dI 0,.v (.map none)])::Aml.up B m [.sl 1 false (aA c.nm),ec c.up,lN c.qu,jN c.gr,.acc lr.n (i+1),bz θ.t,.mp sn],(r.n,.arr 6 [])::(bm.n,.xo (.mp .str [] 0))::Aml.up A lr.n (.arr 1 ((ls++[bx.n]).map bz)),ls++[bx.n],fun j=>if j=bm.n then .b i else if j=r.n then .au i else own j),⟨by simp only;omega,⟨ai (hbxU _) (cE hmb),ai hrA (ai (hbmU _) (cE hrow)),by simp[hlen],fun j v q1 q2=>hkeepB j v q1 (hL.HY j v q1 q2),fun j v q=>hkeep j v (hlrA j v q) (hL.ML j v q),fun x b' hx=>?_,?_,fun j q=>?_⟩⟩,by simp only;omega,rfl,by rw[Xw];exact .refl _⟩
   ·rcases XH x ls.length with q3|q3
    ·rw[Xx q3]at hx;obtain⟨z0,b,r',z1,z2,z3,z4,z5⟩:=hL.el x b' hx;have zb:=(hL.ow b (by rw[z4];simp)).2.1;have zr:=(hL.ow r' (by rw[z5];simp)).2.1;have n1:b≠bm.n:=fun e=>by rw[e,hbmA]at z2;cases z2
     have n2:b≠r.n:=fun e=>by rw[e,hrA0]at z2;cases z2
     have n3:r'≠bm.n:=fun e=>by rw[e,hbmA]at z3;cases z3
     have n4:r'≠r.n:=fun e=>by rw[e,hrA0]at z3;cases z3
     refine⟨z0,b,r',hkeepB _ _ (hTm _ z0) z1,hkeep _ _ zb z2,hkeep _ _ zr z3,?_,?_⟩
     ·simp only;rw[if_neg n1,if_neg n2];exact z4
     ·simp only;rw[if_neg n3,if_neg n4];exact z5
    ·rw[Xv q3]at hx
     have hj:x-ls.length=0:=by
      cases hj:x-ls.length with
      |zero=>rfl
      |succ k=>rw[hj]at hx;simp at hx
     rw[hj]at hx;cases hx;have hxi:x=i:=by omega
     refine⟨?_,bm.n,r.n,jv _ _ _,ai hrA (jv _ _ _),jv _ _ _,?_,?_⟩
     ·cases hz:lk T.box bx.n with
      |none=>rfl
      |some v=>rw[hL.HY bx.n v (by rw[Ne,hbxm];exact id) hz]at hbxB;cases hbxB
     ·simp only[if_true,hxi]
     ·simp only[if_true,hxi];rw[if_neg (Yd hrb)]
   ·refine Ym.2 ⟨hL.nd,by simp,fun a ha b' hb'=>?_⟩;rw[Xg.1 hb'];rintro rfl;obtain⟨x,hx⟩:=XI.1 ha;obtain⟨_,b,r',z1,_⟩:=hL.el x _ hx;rw[hbxB]at z1;cases z1
   ·simp only at q
    have hTA:∀j,lk A j=none→lk T.acc j=none:=fun j q=>by
     cases hz:lk T.acc j with
     |none=>rfl
     |some v=>rw[hL.ML j v hz]at q;cases q
    by_cases e1:j=bm.n
    ·rw[e1];exact⟨hTA _ hbmA,by rw[Ne,nbl];exact id,by rw[ai hrA (jv _ _ _)];simp⟩
    ·rw[if_neg e1]at q;by_cases e2:j=r.n
     ·rw[e2];exact⟨hTA _ hrA0,hrl,by rw[jv];simp⟩
     ·rw[if_neg e2]at q;obtain⟨z1,z2,z3⟩:=hL.ow j q;obtain⟨v,hv⟩:=aZ z3;exact⟨z1,z2,by rw[hkeep j v z2 hv];simp⟩
  ·have hie:i=c.up.length:=by omega
   subst hie;simp(maxDischargeDepth:=12) (maxSteps:=1000000) -implicitDefEqProofs only[go_sem,Nat.reduceAdd,Nat.reduceSub,Nat.reduceMul,Nat.reduceLeDiff,Nat.reduceEqDiff,Nat.reduceGT,Nat.reduceBEq,reduceCtorEq,↓reduceIte,Int.reduceToNat,Int.reduceLE,Int.reduceLT,Int.reduceNe,Int.reduceEq];refine⟨fun h=>absurd h hil,fun _=>?_⟩;refine TA m 4 (xs:=ls.map bz) (ds:=[.sl 1 false (aA c.nm),ec c.up,lN c.qu,jN c.gr,.acc lr.n c.up.length,bz θ.t,.mp sn]) hmb (by rw[XJ,hlen];rfl) hrow (Mn [] mx (by kernel_rfl) ?_);simp(maxDischargeDepth:=12) (maxSteps:=1000000) -implicitDefEqProofs only[go_sem,Nat.reduceAdd,Nat.reduceSub,Nat.reduceMul,Nat.reduceLeDiff,Nat.reduceEqDiff,Nat.reduceGT,Nat.reduceBEq,reduceCtorEq,↓reduceIte,Int.reduceToNat,Int.reduceLE,Int.reduceLT,Int.reduceNe,Int.reduceEq]
   have hE:∃own':Nat→Ow,(∀j,j∈θ.ax→own' j= .tb)∧own' sn= .sm∧(∀j,own j≠ .no→own' j=own j)∧∀j,own' j≠ .no→j∈θ.ax∨j=sn∨own j≠ .no:=by
    classical
    refine⟨fun j=>if j∈θ.ax then .tb else if j=sn then .sm else own j,fun j q=>if_pos q,by simp only;rw[if_neg hsθ];simp,fun j q=>?_,fun j q=>?_⟩
    ·have z:=(hL.ow j q).1;simp only;rw[if_neg (fun q2=>hT.vo j q2 z),if_neg (fun e=>by rw[e,hsn]at z;cases z)]
    ·simp only at q;split at q
     ·rename_i q2;exact .inl q2
     ·split at q
      ·rename_i q2;exact .inr (.inl q2)
      ·exact .inr (.inr q)
   obtain⟨own',o1,o2,o3,o4⟩:=hE;have hlrn:∀j v,lk T.acc j=some v→lk (Aml.up A lr.n (Ob.tl 1 (ls.map bz))) j=some v:=fun j v q=>by rw[ab (Yd (hlrA j v q))];exact hL.ML j v q
   have hmB:∀j v,j≠m→lk B j=some v→lk (Aml.up B m [.sl 1 false (aA c.nm),ec c.up,lN c.qu,jN c.gr,.sl 1 false (ls.map bz),bz θ.t,.mp sn]) j=some v:=fun j v q1 q2=>by rw[ab (Yd q1)];exact q2
   have hlsT:∀j,j∈ls→lk T.box j=none:=fun j q=>by
    obtain⟨x,hx⟩:=XI.1 q;exact(hL.el x j hx).1
   have hSX:∀i v,lk S.box i=some v→lk ((b1.n,[DV.sl 1 false (aA c.nm),ec c.up,lN c.qu,jN c.gr])::S.box) i=some v:=fun i v q=>ai (ak b1) q
   have hST:∀i,lk T.box i=none→lk S.box i=none:=fun i q=>by
    cases hz:lk S.box i with
    |none=>rfl
    |some v=>rw[hbx i v (hSX i v hz)]at q;cases q
   have hmT:m∉ls:=fun q=>by have:=hlsT m q;rw[hm]at this;cases this
   refine⟨_,_,.refl _,.refl _,.inr ⟨hP,⟨m,ls,θ,sn,own'⟩,rfl,⟨cE hmb,hc.Bj,by simp[vI,hlen],Xo.2 ⟨hmT,hL.nd⟩,fun j q1 q2=>?_,fun x bx l q1 q2=>?_,hT.mono (fun j v q1 q2=>hmB j v (fun e=>hmθ (e▸q1)) (hL.HY j v (fun e=>hmθ (e▸q1)) q2)) (fun j v _ q2=>hlrn j v q2),o1,⟨[],0,hlrn _ _ hsn,fun lv n k=>⟨fun _=>by simp[aJ],fun Fs h=>(by cases h)⟩⟩,o2,fun j q=>?_⟩,fun j v q=>?_,fun j v q=>hlrn j v (hac j v q),fun j q=>?_,fun j q=>?_⟩⟩
   ·rcases Xm.1 q2 with q2|q2
    ·have e:j=m:=q2;exact hmθ (by rw[←e];exact q1)
    ·exact hT.lL j q1 (hlsT j q2)
   ·obtain⟨z0,b,r,z1,z2,z3,z4,z5⟩:=hL.el x bx q1
    have hl:l=⟨fun _=>none,[],0,fun _=>none⟩:=by
     simp only[vI,XQ]at q2;split at q2
     ·exact(XG q2).symm
     ·cases q2
    subst hl;have zb:=(hL.ow b (by rw[z4];simp)).2.1;have zr:=(hL.ow r (by rw[z5];simp)).2.1;refine⟨b,fun _=>none,r,.v (.map none),hmB bx _ (fun e=>hmT (e▸W7 q1)) z1,⟨⟨[],0,by show lk (Aml.up _ _ _) _=_;rw[ab (Yd zb)];exact z2,Xa _,fun n=>by simp[aJ]⟩,fun n=>by simp,fun n i f h=>(by cases h),fun n m i h=>(by cases h),fun n i h=>(by cases h)⟩,⟨(o3 b (by rw[z4];simp)).trans z4,fun n i h=>(by cases h)⟩,.inl (by show lk (Aml.up _ _ _) _=_;rw[ab (Yd zr)];exact z3),(o3 r (by rw[z5];simp)).trans z5,fun h=>absurd rfl h⟩
   ·rcases o4 j q with q2|q2|q2
    ·obtain⟨v,hv⟩:=aZ (hT.vo j q2);rw[hlrn j v hv];simp
    ·rw[q2,hlrn _ _ hsn];simp
    ·exact eO (hL.ow j q2).2.2
   ·have z:=hbx j v (hSX j v q)
    have hjm:j≠m:=fun e=>by
     have:=hSX j v q;rw[e]at this;rw[show lk ((b1.n,[DV.sl 1 false (aA c.nm),ec c.up,lN c.qu,jN c.gr])::S.box) m=none from hmS]at this;cases this
    exact hmB j v hjm (hL.HY j v hjm z)
   ·unfold MG.bx at q;rcases Xh.1 q with q2|q2
    ·rcases Xm.1 q2 with q3|q3
     ·rw[q3]
      cases hz:lk S.box m with
      |none=>rfl
      |some v=>have:=hSX m v hz;rw[show lk ((b1.n,[DV.sl 1 false (aA c.nm),ec c.up,lN c.qu,jN c.gr])::S.box) m=none from hmS]at this;cases this
     ·exact hST j (hlsT j q3)
    ·cases hz:lk S.box j with
     |none=>rfl
     |some v=>have:=hfb j q2;rw[show lk ((b1.n,[DV.sl 1 false (aA c.nm),ec c.up,lN c.qu,jN c.gr])::S.box) j=some v from hSX j v hz]at this;cases this
   ·rcases o4 j q with q2|q2|q2
    ·exact hfa j q2
    ·rw[q2];exact hsS
    ·cases hz:lk S.acc j with
     |none=>rfl
     |some v=>have:=(hL.ow j q2).1;rw[hac j v hz]at this;cases this
def fX(r:List RH)(lv n:Int):Option (List Int×Int):=(r[dm r lv n]?).map fun s=>(s.sn,s.last)
theorem zn(r:List RH)(lv n:Int):dm r lv n<r.length↔(fX r lv n).isSome=true:=by
 unfold fX;rw[Option.isSome_map];constructor
 ·intro h;rw[W5 h];rfl
 ·intro h;obtain⟨x,hx⟩:=YK.1 h;exact(W6.1 hx).1
theorem Jf{r:List RH}{lv n:Int}(h:¬dm r lv n<r.length):fX r lv n=none:=by
 unfold fX;rw[Xe (by omega)];rfl
theorem zo{r:List RH}(hr:iM r)(l lv n:Int):fX (lM r l).1 lv n=if lv=l∧n=(eX r l:Int)+1 then some ([],0)else fX r lv n:=by
 unfold fX;rw[Lf hr];by_cases h:dm r lv n<r.length
 ·rw[if_pos h];have hne:¬(lv=l∧n=(eX r l:Int)+1):=fun q=>by rw[q.1,q.2,Fe hr]at h;omega
  rw[if_neg hne];show((r++_)[dm r lv n]?).map _=_;rw[Xx h]
 ·rw[if_neg h];by_cases q:lv=l∧n=(eX r l:Int)+1
  ·rw[if_pos q,if_pos q];show((r++_)[r.length]?).map _=_;rw[Xv (Xa _),Zn];rfl
  ·rw[if_neg q,if_neg q,Xe (l:=r) (by omega)];show((r++_)[r.length+1]?).map _=_;rw[Xe (by simp)]
theorem uJ{r:List RH}{l m lv n:Int}(h1:dm r l m<r.length)(h2:dm r lv n<r.length)(hne:¬(lv=l∧n=m)):dm r l m≠dm r lv n:=fun e=>by
 obtain⟨s,hs,_⟩:=mQ h1;have q1:=fP hs;rw[e]at hs;have q2:=fP hs;exact hne ⟨q2.1.symm.trans q1.1,q2.2.1.symm.trans q1.2.1⟩
theorem zA{r:List RH}(hr:iM r)(l m lv n:Int):fX (nO r l m).1 lv n=if lv=l∧n=m then none else fX r lv n:=by
 by_cases h:dm r l m<r.length
 ·have hi:=KD hr h lv n;unfold fX;rw[hi];have e1:(nO r l m).1=r.set (dm r l m) ⟨l,m,[],0,true⟩:=by unfold nO;rw[if_pos h]
  by_cases q:lv=l∧n=m
  ·rw[if_pos q,if_pos q,e1,Xe (by simp)]
   try rfl
  ·rw[if_neg q,if_neg q,e1];by_cases h2:dm r lv n<r.length
   ·rw[X8 (uJ h h2 q)]
   ·rw[Xe (by simp;omega),Xe (by omega)]
 ·have e1:(nO r l m).1=r:=by unfold nO;rw[if_neg h]
  rw[e1];by_cases q:lv=l∧n=m
  ·rw[if_pos q,q.1,q.2,Jf h]
  ·rw[if_neg q]
theorem Hp{r:List RH}{l m:Int}{s t:RH}(hs:r[dm r l m]? =some s)(e1:t.lv=s.lv)(e2:t.n=s.n)(e3:t.gone=s.gone)(lv n:Int):fX (r.set (dm r l m) t) lv n=if lv=l∧n=m then some (t.sn,t.last)else fX r lv n:=by
 have h:=(W6.1 hs).1;unfold fX;rw[zl hs e1 e2 e3];by_cases q:lv=l∧n=m
 ·rw[if_pos q,q.1,q.2,X7 h];rfl
 ·rw[if_neg q];by_cases h2:dm r lv n<r.length
  ·rw[X8 (uJ h h2 q)]
  ·rw[Xe (by simp;omega),Xe (by omega)]
theorem zg(r:List RH)(l m lv n:Int):fX (qw r l m).1 lv n=if lv=l∧n=m then(fX r l m).map (fun p=>(p.1++[p.2+1],p.2+1))else fX r lv n:=by
 unfold qw
 cases hs:r[dm r l m]? with
 |some s=>
  simp only;rw[Hp (t:=JJ s) hs rfl rfl rfl];have e:fX r l m=some (s.sn,s.last):=by unfold fX;rw[hs];rfl
  rw[e];rfl
 |none=>
  simp only;have e:fX r l m=none:=by unfold fX;rw[hs];rfl
  by_cases q:lv=l∧n=m
  ·rw[if_pos q,q.1,q.2,e];rfl
  ·rw[if_neg q]
theorem zm(r:List RH)(l m x lv n:Int):fX (oy r l m x).1 lv n=if lv=l∧n=m then(fX r l m).map (fun p=>(FO x p.1,p.2))else fX r lv n:=by
 unfold oy
 cases hs:r[dm r l m]? with
 |some s=>
  simp only;have e:fX r l m=some (s.sn,s.last):=by unfold fX;rw[hs];rfl
  split
  ·rename_i h;have hf:FO x s.sn=s.sn:=List.filter_eq_self.2 (List.length_filter_eq_length_iff.1 h);by_cases q:lv=l∧n=m
   ·rw[if_pos q,q.1,q.2,e];simp only[XB,hf]
   ·rw[if_neg q]
  ·simp only;rw[Hp (t:=⟨s.lv,s.n,FO x s.sn,s.last,s.gone⟩) hs rfl rfl rfl,e];rfl
 |none=>
  simp only;have e:fX r l m=none:=by unfold fX;rw[hs];rfl
  by_cases q:lv=l∧n=m
  ·rw[if_pos q,q.1,q.2,e];rfl
  ·rw[if_neg q]
theorem FG(r:List RH)(l m:Int):(qw r l m).2=((fX r l m).map fun p=>p.2+1).getD 0:=by
 unfold qw fX;cases r[dm r l m]? <;>rfl
theorem jl(r:List RH)(l m:Int):Bk r l m=((fX r l m).map (·.1)).getD []:=by
 unfold Bk fX;cases r[dm r l m]? <;>rfl
theorem K9(r:List RH)(l m x:Int):(oy r l m x).2=((fX r l m).map fun p=>decide (x∈p.1)).getD false:=by
 unfold oy fX
 cases r[dm r l m]? with
 |none=>rfl
 |some s=>
  simp only[XB,Yu];by_cases h:x∈s.sn
  ·rw[if_neg (fun q=>(l3.1 q) h),decide_eq_true h]
  ·rw[if_pos (l3.2 h),decide_eq_false h]
end Go.Proofs.YtoepfmhnapedoaaGreatDoor
namespace Go.Proofs.YtoepfmhnapedoaaGreatDoor
open Aml Go Rn Lat Grs
section
variable {N:Nat} {c:Cf} {μ:bq} {o:bp} {full:Bool}
theorem iN.le{M:Nat}(h:iN N c μ)(k:N≤M):iN M c μ:=⟨h.n,h.nl,by have:=h.r;omega,fun s hs=>by have:=h.la s hs;omega,h.uW,h.sp,fun l hl=>by have:=h.au l hl;omega,h.sz⟩
theorem iN.uc(h:iN N c μ)(i:Nat)(l':tC)(ha:l'.au.length≤N+1)(h1:uk l'.F)(h2:uk l'.D):iN (N+1) c ⟨μ.l.set i l',μ.r,μ.sn⟩:=by
 have h':=h.le (XA N);have hm:∀l,l∈μ.l.set i l'→l∈μ.l∨l=l':=fun l hl=>Yh hl;refine⟨by simpa using h.n,by simpa using h.nl,h'.r,h'.la,h.uW,fun lv n k hk=>?_,fun l hl=>(hm l hl).elim (h'.au l) fun e=>e▸ha,fun l hl=>(hm l hl).elim (h.sz l) fun e=>e▸⟨h1,h2⟩⟩;obtain⟨Fs,q1,q2⟩:=h.sp lv n k hk;exact⟨Fs,q1,by simpa using q2⟩
theorem iN.aC(h:iN N c μ){r':List RH}{sn':Int→Int→Int→Option (List ir)}(h1:r'.length≤N+1)(h2:oI r' ((N+1:Nat):Int))(h3:iM r')(h4:∀lv n k,k∈Bk r' lv n→∃Fs,sn' lv n k=some Fs∧Fs.length=μ.l.length):iN (N+1) c ⟨μ.l,r',sn'⟩:=
 ⟨h.n,h.nl,h1,h2,h3,h4,fun l hl=>by have:=h.au l hl;show _≤N+1;omega,h.sz⟩
theorem uk.none_:uk fun _=>none:=fun n f h=>by cases h
theorem uk.fM{F:ir}(h:uk F){n:List UInt8}{f:List UInt8→Option (List UInt8)}(h1:n.length≤1000)(h2:∀k v,f k=some v→k.length≤1000∧v.length≤1000):uk (fM F n f):=fun m g hg=>by
 unfold Proofs.YtoepfmhnapedoaaGreatDoor.fM at hg;by_cases e:m=n
 ·rw[if_pos e]at hg;cases hg;exact⟨by rw[e];exact h1,h2⟩
 ·rw[if_neg e]at hg;exact h m g hg
theorem uk.xf{F:ir}(h:uk F)(n:List UInt8):uk (xf F n):=fun m g hg=>by
 unfold Proofs.YtoepfmhnapedoaaGreatDoor.xf at hg;by_cases e:m=n
 ·rw[if_pos e]at hg;cases hg
 ·rw[if_neg e]at hg;exact h m g hg
theorem FJ{x:Int}(h:0≤x∧x.toNat<μ.l.length):aO μ x∈μ.l:=by
 have hl:μ.l[x.toNat]? =some μ.l[x.toNat]:=W5 h.2;rw[bh hl h.1];exact List.getElem_mem _
theorem kz(h:iN N c μ)(x:Int):uk (aO μ x).F∧uk (aO μ x).D∧(aO μ x).au.length≤N:=by
 by_cases hx:0≤x∧x.toNat<μ.l.length
 ·have hm:=FJ (μ:=μ) hx;exact⟨(h.sz _ hm).1,(h.sz _ hm).2,h.au _ hm⟩
 ·have e:aO μ x=⟨fun _=>none,[],0,fun _=>none⟩:=by
   unfold aO;by_cases h0:0≤x
   ·rw[if_pos h0,Xe (by omega)];rfl
   ·rw[if_neg h0];rfl
  rw[e];exact⟨uk.none_,uk.none_,Xl _⟩
theorem AA{dg:List UInt8→Int}(P:gv→Prop)(p1:o.kind=1→P (fu μ o))(p2:o.kind=2→P (ej μ o))(p3:o.kind=3→P (cP μ o))(p4:o.kind=4→P (bH μ o))(p5:o.kind=5→P (fh μ o full))(p6:o.kind=6→P (fE μ o full))(p7:o.kind=7→P (jw μ o full))(p8:o.kind=8→P (bZ μ o full))(p9:o.kind=9→P (getM c μ o))(p10:o.kind=10→P (gy c μ o))(p11:o.kind=11→P (jk μ o))(p12:o.kind=12→P (cN μ o))(p13:o.kind=13→P (eD c μ o))(p14:o.kind=14→P (dn c μ o))(p15:P (ey dg c μ o full)):P (bC dg c μ o full):=by
 unfold bC;by_cases k1:o.kind=1
 ·rw[if_pos k1];exact p1 k1
 rw[if_neg k1];by_cases k2:o.kind=2
 ·rw[if_pos k2];exact p2 k2
 rw[if_neg k2];by_cases k3:o.kind=3
 ·rw[if_pos k3];exact p3 k3
 rw[if_neg k3];by_cases k4:o.kind=4
 ·rw[if_pos k4];exact p4 k4
 rw[if_neg k4];by_cases k5:o.kind=5
 ·rw[if_pos k5];exact p5 k5
 rw[if_neg k5];by_cases k6:o.kind=6
 ·rw[if_pos k6];exact p6 k6
 rw[if_neg k6];by_cases k7:o.kind=7
 ·rw[if_pos k7];exact p7 k7
 rw[if_neg k7];by_cases k8:o.kind=8
 ·rw[if_pos k8];exact p8 k8
 rw[if_neg k8];by_cases k9:o.kind=9
 ·rw[if_pos k9];exact p9 k9
 rw[if_neg k9];by_cases RA:o.kind=10
 ·rw[if_pos RA];exact p10 RA
 rw[if_neg RA];by_cases Ru:o.kind=11
 ·rw[if_pos Ru];exact p11 Ru
 rw[if_neg Ru];by_cases RM:o.kind=12
 ·rw[if_pos RM];exact p12 RM
 rw[if_neg RM];by_cases RY:o.kind=13
 ·rw[if_pos RY];exact p13 RY
 rw[if_neg RY];by_cases RS:o.kind=14
 ·rw[if_pos RS];exact p14 RS
 rw[if_neg RS];exact p15
theorem N1(h:iN N c μ){r:C3}{μ':bq}(ho:bC eH c μ o full= .inr (r,μ')):iN (N+1) c μ':=by
 obtain⟨z1,z2,z3⟩:=kz h o.level;have h':=h.le (XA N);have hN1:((N+1:Nat):Int)=(N:Int)+1:=by omega
 revert ho
 refine AA (P:=fun out=>out= .inr (r,μ')→iN (N+1) c μ') ?_ ?_ ?_ ?_ ?_ ?_ ?_ ?_ ?_ ?_ ?_ ?_ ?_ ?_ ?_
 ·intro _ ho;unfold fu at ho;cases ho;have hs:=h.uc o.level.toNat {aO μ o.level with has:=if(aO μ o.level).has=o.aC then 0 else(aO μ o.level).has} (by simp only;omega) z1 z2;refine⟨hs.n,hs.nl,by rw[zj];have:=h.r;omega,?_,h.uW.cl _ _,fun lv n k hk=>?_,hs.au,hs.sz⟩
  ·rw[hN1];exact h.la.cl (by omega) _ _
  ·refine hs.sp lv n k ?_;simp only at hk ⊢;rw[jl,zA h.uW]at hk;rw[jl];split at hk
   ·simp at hk
   ·exact hk
 ·intro _ ho;unfold ej bF at ho;simp only at ho;split at ho
  ·cases ho
  ·cases ho;exact h.uc _ _ (by simp only;omega) z1 z1
 ·intro _ ho;unfold cP bF at ho;simp only at ho;split at ho
  ·cases ho
  ·cases ho;exact h.uc _ _ (by simp only;omega) z2 z2
 ·intro _ ho;unfold bH bF at ho;simp only at ho;split at ho
  ·cases ho
  ·cases ho;exact h.uc _ _ (by simp only;omega) z1 z2
 ·intro _ ho;unfold fh bF at ho;simp only at ho;split at ho
  ·cases ho
  ·split at ho
   ·cases ho
   ·rename_i q;have q:=Xp.1 q;split at ho
    ·cases ho
    ·split at ho
     ·cases ho
     ·cases ho;exact h.uc _ _ (by simp only;omega) z1 (z2.fM (by have:=q.2;omega) fun k v e=>by cases e)
 ·intro _ ho;unfold fE bF at ho;simp only at ho;split at ho
  ·cases ho
  ·split at ho
   ·cases ho
   ·split at ho
    ·cases ho
    ·cases ho;exact h.uc _ _ (by simp only;omega) z1 (z2.xf _)
 ·intro _ ho;unfold jw bF at ho;simp only at ho;split at ho
  ·cases ho
  ·split at ho
   ·cases ho
   ·rename_i q;have q:=Xp.1 q;split at ho
    ·cases ho
    ·rename_i f hf;split at ho
     ·cases ho
     ·cases ho;refine h.uc _ _ (by simp only;omega) z1 (z2.fM (z2 _ _ hf).1 fun k v e=>?_);by_cases ek:k=o.key
      ·rw[if_pos ek]at e;cases e;rw[ek];exact⟨by have:=q.1.2;omega,by have:=q.2;omega⟩
      ·rw[if_neg ek]at e;exact(z2 _ _ hf).2 k v e
 ·intro _ ho;unfold bZ bF at ho;simp only at ho;split at ho
  ·cases ho
  ·split at ho
   ·cases ho
   ·rename_i f hf;split at ho
    ·cases ho
    ·split at ho
     ·cases ho
     ·cases ho;refine h.uc _ _ (by simp only;omega) z1 (z2.fM (z2 _ _ hf).1 fun k v e=>?_);unfold xf at e;by_cases ek:k=o.key
      ·rw[if_pos ek]at e;cases e
      ·rw[if_neg ek]at e;exact(z2 _ _ hf).2 k v e
 ·intro _ ho;unfold getM at ho;simp only at ho
  (repeat' split at ho) <;>cases ho
  exact h'
 ·intro _ ho;unfold gy at ho
  (repeat' split at ho) <;>cases ho
  exact h'
 ·intro _ ho;unfold jk at ho;cases ho;refine h.aC (by rw[Iy];have:=h.r;omega) ?_ (h.uW.sn _ _) fun lv n k hk=>?_
  ·rw[hN1];exact h.la.sn _ _
  ·rw[jl,zg]at hk;unfold n9;by_cases q:lv=o.level∧n=o.aC
   ·rw[if_pos q]at hk
    cases hv:fX μ.r o.level o.aC with
    |none=>rw[hv]at hk;simp at hk
    |some p=>
     rw[hv]at hk;simp only[XB,Yu,Xh,Xg]at hk;rw[FG,hv];simp only[XB,Yu];by_cases hk2:k=p.2+1
     ·rw[if_pos ⟨q.1,q.2,hk2⟩];exact⟨_,rfl,by simp⟩
     ·rw[if_neg (fun r=>hk2 r.2.2)];refine h.sp lv n k ?_;rw[jl,q.1,q.2,hv];exact hk.resolve_right hk2
   ·rw[if_neg q]at hk;rw[if_neg (fun r=>q ⟨r.1,r.2.1⟩)];exact h.sp lv n k (by rw[jl];exact hk)
 ·intro _ ho;unfold cN at ho;split at ho
  ·cases ho
  ·cases ho;refine h.aC (by rw[J7];have:=h.r;omega) ?_ (h.uW.un _ _ _) fun lv n k hk=>?_
   ·rw[hN1];exact h.la.un _ _ _
   ·rw[jl,zm]at hk;unfold n9;by_cases q:lv=o.level∧n=o.aC
    ·rw[if_pos q]at hk
     cases hv:fX μ.r o.level o.aC with
     |none=>rw[hv]at hk;simp at hk
     |some p=>
      rw[hv]at hk;simp only[XB,Yu,FO,YA,XE,decide_eq_false_iff_not]at hk;rw[if_neg (fun r=>hk.2 r.2.2)];exact h.sp lv n k (by rw[jl,q.1,q.2,hv];exact hk.1)
    ·rw[if_neg q]at hk;rw[if_neg (fun r=>q ⟨r.1,r.2.1⟩)];exact h.sp lv n k (by rw[jl];exact hk)
 ·intro _ ho;unfold eD at ho;split at ho <;>cases ho;exact h'
 ·intro _ ho;unfold dn at ho;split at ho <;>cases ho;exact h'
 ·intro ho;obtain⟨y1,y2,y3⟩:=kz h o.dQ;obtain⟨x1,x2,x3⟩:=kz h o.label;unfold ey at ho;simp only at ho;split at ho
  ·cases ho
  ·split at ho
   ·cases ho
   ·split at ho
    ·cases ho
    ·rename_i f hf;split at ho
     ·cases ho
     ·rename_i v hv;split at ho
      ·cases ho
      ·rename_i gg hg;split at ho
       ·cases ho
       ·cases ho;refine h.uc _ _ (by simp only[Xj,YY];omega) (y1.fM (y1 _ _ hg).1 fun k w e=>?_) y2;by_cases ek:k=o.key
        ·rw[if_pos ek]at e;cases e;rw[ek];exact(x1 _ _ hf).2 _ _ hv
        ·rw[if_neg ek]at e;exact(y1 _ _ hg).2 k w e
theorem ju(h:iN N c μ):iN (N+1) c (dF eH c μ o full).2:=by
 have h':=h.le (XA N);have hN1:((N+1:Nat):Int)=(N:Int)+1:=by omega
 unfold dF;split
 ·exact h'
 ·split
  ·refine h.aC (by rw[Ae];have:=h.r;omega) ?_ (h.uW.op _) fun lv n k hk=>?_
   ·rw[hN1];exact h.la.op (by omega) _
   ·rw[jl,zo h.uW]at hk;split at hk
    ·simp at hk
    ·exact h.sp lv n k (by rw[jl];exact hk)
  ·split
   ·refine⟨by unfold bL;simpa using h.n,by unfold bL;simpa using h.nl,Xl _,fun s hs=>(by cases hs),iM.nil,fun lv n k hk=>(by simp[bL,Bk]at hk),fun l hl=>?_,fun l hl=>?_⟩
    ·unfold bL at hl;simp only[Xk]at hl;obtain⟨x,_,rfl⟩:=hl;have:=(kz h (x:Int)).2.2;simp only;omega
    ·unfold bL at hl;simp only[Xk]at hl;obtain⟨x,_,rfl⟩:=hl;obtain⟨a,b,_⟩:=kz h (x:Int);refine⟨?_,b⟩;simp only;split
     ·exact b
     ·exact a
   ·split
    ·exact h'
    ·unfold Gp;split
     ·exact h'
     ·rename_i p hp;exact N1 (r:=p.1) (μ':=p.2) h hp
end
theorem PK{c:Cf}(hP:KZ c)(hn:c.up.length≤64):iN 0 c (vI c.up.length):=⟨by simp[vI,hn],by simp[vI],Xa _,fun s hs=>(by simp[vI]at hs),iM.nil,fun lv n k hk=>(by simp[vI,Bk]at hk),fun l hl=>(by
 have:=(List.mem_replicate.1 hl).2;rw[this];exact Xa _),fun l hl=>by
 have:=(List.mem_replicate.1 hl).2;rw[this];exact⟨uk.none_,uk.none_⟩⟩
end Go.Proofs.YtoepfmhnapedoaaGreatDoor
namespace Go.Proofs.YtoepfmhnapedoaaGreatDoor
open Aml Go Rn Lat Grs
theorem Gj{μ:bq}{x:Int}(h:¬(0≤x∧x<μ.l.length)):aO μ x=⟨fun _=>none,[],0,fun _=>none⟩:=by
 unfold aO;by_cases h0:0≤x
 ·rw[if_pos h0,Xe (by omega)];rfl
 ·rw[if_neg h0];rfl
theorem MI.Td{S:St}{g:MG}{N:Nat}{c:Cf}{μ:bq}(h:MI S g N c μ){x:Int}{b:Nat}(ha:yU g.ls x=some b):(0≤x∧x<μ.l.length)∧L7 S g.own N x.toNat b (aO μ x):=by
 unfold yU at ha;split at ha
 ·rename_i h0;obtain⟨l,h1,h2⟩:=h.ri ha;have h3:=(W6.1 h1).1;rw[bh h1 h0];exact⟨⟨h0,by omega⟩,h2⟩
 ·cases ha
theorem MI.SC{S:St}{g:MG}{N:Nat}{c:Cf}{μ:bq}(h:MI S g N c μ){x:Int}(ha:yU g.ls x=none):¬(0≤x∧x<μ.l.length):=fun q=>by
 unfold yU at ha;rw[if_pos q.1,List.getElem?_eq_none_iff]at ha;have:=h.len;omega
theorem Hr(w0:W0){S:St}{g:MG}{N:Nat}{c:Cf}{μ:bq}(hI:MI S g N c μ)(x:Int):aa Tryz.prog w0 15 [bz g.m,dI x] S (fun d S'=>d=dI (aO μ x).has∧S'=S):=by
 refine bW [] mx Tryz.func15 rfl rfl (by kernel_rfl) ?_;simp(maxDischargeDepth:=12) (maxSteps:=1000000) -implicitDefEqProofs only[Tryz.ntmps15,go_sem,Nat.reduceAdd,Nat.reduceSub,Nat.reduceMul,Nat.reduceLeDiff,Nat.reduceEqDiff,Nat.reduceGT,Nat.reduceBEq,reduceCtorEq,↓reduceIte,Int.reduceToNat,Int.reduceLE,Int.reduceLT,Int.reduceNe,Int.reduceEq];refine ao (ofM w0 hI.md x) ?_
 cases ha:yU g.ls x with
 |none=>
  rw[Gj (hI.SC ha)];unfold vD;simp(maxDischargeDepth:=12) (maxSteps:=1000000) -implicitDefEqProofs only[go_sem,Nat.reduceAdd,Nat.reduceSub,Nat.reduceMul,Nat.reduceLeDiff,Nat.reduceEqDiff,Nat.reduceGT,Nat.reduceBEq,reduceCtorEq,↓reduceIte,Int.reduceToNat,Int.reduceLE,Int.reduceLT,Int.reduceNe,Int.reduceEq]
 |some b=>
  obtain⟨_,bb,ids,r,dr,h1,_⟩:=hI.Td ha;unfold vD;simp(maxDischargeDepth:=12) (maxSteps:=1000000) -implicitDefEqProofs only[go_sem,Nat.reduceAdd,Nat.reduceSub,Nat.reduceMul,Nat.reduceLeDiff,Nat.reduceEqDiff,Nat.reduceGT,Nat.reduceBEq,reduceCtorEq,↓reduceIte,Int.reduceToNat,Int.reduceLE,Int.reduceLT,Int.reduceNe,Int.reduceEq,h1]
theorem qP(w0:W0){S:St}{g:MG}{N:Nat}{c:Cf}{μ:bq}(hI:MI S g N c μ)(hM:iN N c μ)(hN:N≤10000){x:Int}(hx:0≤x∧x<μ.l.length):aa Tryz.prog w0 17 [bz g.m,dI x] S (fun d S'=>d=dA (nY x (aO μ x).F)∧S'=S):=by
 cases ha:yU g.ls x with
 |none=>exact absurd hx (hI.SC ha)
 |some b=>
  obtain⟨_,bb,ids,r,dr,h1,h2,_⟩:=hI.Td ha;refine Dq w0 hI.md x ha h1 h2 hN fun n f k v q1 q2=>?_;have hz:=(kz hM x).1 n f q1;exact⟨hz.1,(hz.2 k v q2).1⟩
theorem HZ{es:List (Value×DV×Nat)}{α:Type}{f:List UInt8→Option α}(h:∀k,aJ es (kT k)=none↔f k=none):(cL f).length≤es.length:=by
 unfold cL;split
 ·rename_i hx;rw[jS];have h1:((hx.choose).map kT).Nodup:=aM (fun x y h=>ep h) hx.choose_spec.1
  have h2:(hx.choose).map kT⊆es.map (·.1):=fun u hu=>by
   obtain⟨v,hv,rfl⟩:=Xk.1 hu;have h3:=(hx.choose_spec.2 v).1 hv;obtain⟨b,hb⟩:=XD.1 (fun q=>h3 ((h v).1 q));obtain⟨b,hm⟩:=mo hb;exact Xk.2 ⟨_,hm,rfl⟩
  have:=bQ h1 h2;simpa using this
 ·simp
theorem GW{S:St}{l N:Nat}{ids:List UInt8→Option Nat}{F:ir}(h:BM S l N ids F)(x:Int):(nY x F).length≤N*N:=by
 obtain⟨es,cl,h1,h2,h3⟩:=h.top
 have hk:∀n,n∈cL F→(iD x n ((F n).getD fun _=>none)).length≤N:=fun n hn=>by
  obtain⟨f,hf⟩:=XD.1 (oF hn);obtain⟨i,hi⟩:=aZ (fun q=>by rw[(h.some_ _).1 q]at hf;cases hf);obtain⟨es,cl,g1,g2,g3⟩:=h.low _ i f hi hf;have:=DG g3;rw[hf];unfold iD;rw[XJ];show(cL f).length≤N;omega
 have hn:(cL F).length≤N:=by
  have:=HZ fun k=>(by rw[←h.some_ k,h3 k];cases ids k <;>simp:aJ es (kT k)=none↔F k=none);omega
 have h4:=mW (rows:=(cL F).map fun n=>iD x n ((F n).getD fun _=>none)) (n:=N) fun r hr=>by
  obtain⟨n,q1,rfl⟩:=Xk.1 hr;exact hk n q1
 rw[XJ]at h4
 have h5:(nY x F).length=(lC ((cL F).map fun n=>iD x n ((F n).getD fun _=>none))).length:=by
  unfold nY lC;rw[List.flatMap]
 have:=XL N hn;omega
theorem MI.VF{S:St}{g:MG}{N:Nat}{c:Cf}{μ:bq}(h:MI S g N c μ)(hN:N≤10000)(x:Int)(hx:0≤x∧x<μ.l.length):(nY x (aO μ x).F).length≤100000000:=by
 cases ha:yU g.ls x with
 |none=>exact absurd hx (h.SC ha)
 |some b=>
  obtain⟨_,bb,ids,r,dr,h1,h2,_⟩:=h.Td ha;have:=GW h2 x;have:=Nat.mul_le_mul hN hN;omega
@[go_sem] def P3 (l:List C0):DV:= .sl 6 false (l.map sx)
theorem MY(w0:W0)(l m:List C0)(h0:l.length≤4611686018427387904)(S:St):aa Tryz.prog w0 50 [P3 l,P3 m] S (fun d S'=>d=dB (pB (l=m))∧S'=S):=by
 refine bW [] mx Tryz.func50 rfl rfl (by kernel_rfl) ?_;simp(maxDischargeDepth:=12) (maxSteps:=1000000) -implicitDefEqProofs only[Tryz.ntmps50,go_sem,Nat.reduceAdd,Nat.reduceSub,Nat.reduceMul,Nat.reduceLeDiff,Nat.reduceEqDiff,Nat.reduceGT,Nat.reduceBEq,reduceCtorEq,↓reduceIte,Int.reduceToNat,Int.reduceLE,Int.reduceLT,Int.reduceNe,Int.reduceEq];refine⟨fun h1 h2=>h1 (congrArg List.length h2),fun h=>?_⟩;have h:l.length=m.length:=by omega
 refine aX [] l.length [0,1,5] (fun i=>[(5,dI i)]) (fun i=>S) (fun i=>∀j,j<i→l[j]? =m[j]?) mx (by kernel_rfl) ?_ ?_
 ·simp(maxDischargeDepth:=12) (maxSteps:=1000000) -implicitDefEqProofs only[go_sem,Nat.reduceAdd,Nat.reduceSub,Nat.reduceMul,Nat.reduceLeDiff,Nat.reduceEqDiff,Nat.reduceGT,Nat.reduceBEq,reduceCtorEq,↓reduceIte,Int.reduceToNat,Int.reduceLE,Int.reduceLT,Int.reduceNe,Int.reduceEq];intro j hj;omega
 ·intro i hi hinv;have e1:i<4611686018427387904→IntKind.i64.wrap ((i:Int)+1)=((i+1:Nat):Int):=fun h=>aI (by omega);by_cases hil:i<l.length
  ·have e1:=e1 (by omega);have hx:l[i]? =some l[i]:=W5 hil;have hy:m[i]? =some (m[i]'(by omega)):=W5 (by omega);generalize l[i]=x at hx;generalize m[i]'(by omega)=y at hy;simp(maxDischargeDepth:=12) (maxSteps:=1000000) -implicitDefEqProofs only[go_sem,Nat.reduceAdd,Nat.reduceSub,Nat.reduceMul,Nat.reduceLeDiff,Nat.reduceEqDiff,Nat.reduceGT,Nat.reduceBEq,reduceCtorEq,↓reduceIte,Int.reduceToNat,Int.reduceLE,Int.reduceLT,Int.reduceNe,Int.reduceEq,hx,hy,e1];refine⟨fun _=>⟨hil,by omega,fun he=>⟨hil,fun j hj=>?_⟩,fun hne e=>?_⟩,fun h=>absurd hil h⟩
   ·by_cases e:j=i
    ·subst e;simp only[W8,decide_eq_true_eq]at he;rw[hx,hy];cases x;cases y;simp at he;simp[he]
    ·exact hinv j (by omega)
   ·rw[e,hy]at hx;have:=XG hx;subst this;simp at hne
  ·simp(maxDischargeDepth:=12) (maxSteps:=1000000) -implicitDefEqProofs only[go_sem,Nat.reduceAdd,Nat.reduceSub,Nat.reduceMul,Nat.reduceLeDiff,Nat.reduceEqDiff,Nat.reduceGT,Nat.reduceBEq,reduceCtorEq,↓reduceIte,Int.reduceToNat,Int.reduceLE,Int.reduceLT,Int.reduceNe,Int.reduceEq];refine⟨fun h=>absurd h hil,fun _=>?_⟩;refine X4 fun j=>?_;by_cases hj:j<l.length
   ·exact hinv j (by omega)
   ·rw[Xe (by omega),Xe (by omega)]
theorem Ke{a b:C3}:a=b↔a.e=b.e∧a.n=b.n∧a.rows=b.rows∧a.om=b.om:=by
 cases a;cases b;simp
theorem yq(w0:W0)(a b:C3)(h0:a.rows.length≤4611686018427387904)(h1:a.om.length≤4611686018427387904)(S:St):aa Tryz.prog w0 14 [HC a,HC b] S (fun d S'=>d=dB (pB (a=b))∧S'=S):=by
 refine bW [] mx Tryz.func14 rfl rfl (by kernel_rfl) ?_;simp(maxDischargeDepth:=12) (maxSteps:=1000000) -implicitDefEqProofs only[Tryz.ntmps14,go_sem,Nat.reduceAdd,Nat.reduceSub,Nat.reduceMul,Nat.reduceLeDiff,Nat.reduceEqDiff,Nat.reduceGT,Nat.reduceBEq,reduceCtorEq,↓reduceIte,Int.reduceToNat,Int.reduceLE,Int.reduceLT,Int.reduceNe,Int.reduceEq];intro b1 b2;refine⟨fun h2=>⟨fun h3=>?_,fun h3 e=>h3 (by rw[e])⟩,fun h2 e=>h2 (by rw[e])⟩;refine ao (Du w0 a.rows b.rows h0 _) ?_;simp(maxDischargeDepth:=12) (maxSteps:=1000000) -implicitDefEqProofs only[go_sem,Nat.reduceAdd,Nat.reduceSub,Nat.reduceMul,Nat.reduceLeDiff,Nat.reduceEqDiff,Nat.reduceGT,Nat.reduceBEq,reduceCtorEq,↓reduceIte,Int.reduceToNat,Int.reduceLE,Int.reduceLT,Int.reduceNe,Int.reduceEq];refine⟨fun h4=>?_,fun h4 e=>h4 (by rw[e])⟩;refine ao (MY w0 a.om b.om h1 _) ?_;simp(maxDischargeDepth:=12) (maxSteps:=1000000) -implicitDefEqProofs only[go_sem,Nat.reduceAdd,Nat.reduceSub,Nat.reduceMul,Nat.reduceLeDiff,Nat.reduceEqDiff,Nat.reduceGT,Nat.reduceBEq,reduceCtorEq,↓reduceIte,Int.reduceToNat,Int.reduceLE,Int.reduceLT,Int.reduceNe,Int.reduceEq];exact⟨fun h=>(Ke.2 ⟨h2,h3,h4,h⟩),fun h=>by rw[h]⟩
def Ux(o:bp):Prop:=o.value.length≤500∧o.bucket.length≤60∧o.key.length≤60∧o.ba.length≤20
def U3(l:List bp):Prop:=(∀o,o∈l→Ux o)∧l.length≤120
@[go_sem] def I9 (l:List bp):DV:= .sl 11 false (l.map AU)
theorem NP(w0:W0)(l:List bp)(h0:l.length≤4611686018427387904)(S:St):aa Tryz.prog w0 9 [I9 l] S (fun d S'=>d=dB (pB (U3 l))∧S'=S):=by
 refine bW [] mx Tryz.func9 rfl rfl (by kernel_rfl) ?_;simp(maxDischargeDepth:=12) (maxSteps:=1000000) -implicitDefEqProofs only[Tryz.ntmps9,go_sem,Nat.reduceAdd,Nat.reduceSub,Nat.reduceMul,Nat.reduceLeDiff,Nat.reduceEqDiff,Nat.reduceGT,Nat.reduceBEq,reduceCtorEq,↓reduceIte,Int.reduceToNat,Int.reduceLE,Int.reduceLT,Int.reduceNe,Int.reduceEq];refine aX [] l.length [0,3] (fun i=>[(3,dI i)]) (fun i=>S) (fun i=>∀j o,j<i→l[j]? =some o→Ux o) mx (by kernel_rfl) ?_ ?_
 ·simp(maxDischargeDepth:=12) (maxSteps:=1000000) -implicitDefEqProofs only[go_sem,Nat.reduceAdd,Nat.reduceSub,Nat.reduceMul,Nat.reduceLeDiff,Nat.reduceEqDiff,Nat.reduceGT,Nat.reduceBEq,reduceCtorEq,↓reduceIte,Int.reduceToNat,Int.reduceLE,Int.reduceLT,Int.reduceNe,Int.reduceEq];intro j o hj;omega
 ·intro i hi hinv;have e1:i<4611686018427387904→IntKind.i64.wrap ((i:Int)+1)=((i+1:Nat):Int):=fun h=>aI (by omega);by_cases hil:i<l.length
  ·have e1:=e1 (by omega);have hx:l[i]? =some l[i]:=W5 hil;generalize l[i]=x at hx;have hm:x∈l:=W7 hx;have s1:(tx x.value).size=x.value.length:=dP _;have s2:(tx x.bucket).size=x.bucket.length:=dP _;have s3:(tx x.key).size=x.key.length:=dP _;simp(maxDischargeDepth:=12) (maxSteps:=1000000) -implicitDefEqProofs only[go_sem,Nat.reduceAdd,Nat.reduceSub,Nat.reduceMul,Nat.reduceLeDiff,Nat.reduceEqDiff,Nat.reduceGT,Nat.reduceBEq,reduceCtorEq,↓reduceIte,Int.reduceToNat,Int.reduceLE,Int.reduceLT,Int.reduceNe,Int.reduceEq,hx,e1];rw[s1,s2,s3];refine⟨fun _=>⟨hil,fun q h=>?_,fun q1=>⟨hil,fun q h=>?_,fun q2=>⟨hil,fun q h=>?_,fun q3=>⟨hil,fun q h=>?_,fun q4=>⟨hil,fun j o hj ho=>?_⟩⟩⟩⟩⟩,fun h=>absurd hil h⟩
   ·have:=(h.1 x hm).1;omega
   ·have:=(h.1 x hm).2.1;omega
   ·have:=(h.1 x hm).2.2.1;omega
   ·have:=(h.1 x hm).2.2.2;omega
   ·by_cases e:j=i
    ·subst e;rw[hx]at ho;cases ho;exact⟨by omega,by omega,by omega,by omega⟩
    ·exact hinv j o (by omega) ho
  ·simp(maxDischargeDepth:=12) (maxSteps:=1000000) -implicitDefEqProofs only[go_sem,Nat.reduceAdd,Nat.reduceSub,Nat.reduceMul,Nat.reduceLeDiff,Nat.reduceEqDiff,Nat.reduceGT,Nat.reduceBEq,reduceCtorEq,↓reduceIte,Int.reduceToNat,Int.reduceLE,Int.reduceLT,Int.reduceNe,Int.reduceEq];refine⟨fun h=>absurd h hil,fun _=>⟨fun h=>⟨fun o ho=>?_,by omega⟩,fun h=>by have:=h.2;omega⟩⟩;obtain⟨j,hj⟩:=XI.1 ho;exact hinv j o (by have:=(W6.1 hj).1;omega) hj
theorem kq:∀s:List UInt8,(∀c,c∈s→c.toNat<128)→bu s=s.map fun c=>(c.toNat,[c])
 |[],_=>rZ
 |c::s,h=>by
  rw[nS (h c Xf),kq s fun x hx=>h x (Xc _ hx)];rfl
theorem nz:∀w:List UInt8,(∀x,x∈w→x.toNat<128)→whole w
 |[],h=>fun r hr=>by rw[rZ]at hr;cases hr
 |c::w,h=>by
  intro r hr;rw[nS (h c (by simp))]at hr;rcases Xm.1 hr with rfl|hr
  ·exact fun q=>by have:=h c (by simp);simp at q;omega
  ·exact nz w (fun x hx=>h x (Xc _ hx)) r hr
theorem KC{s:List UInt8}(h:∀c,c∈s→pK c.toNat=true∧c.toNat<128)(h0:s≠[])(h1:s.length≤12):gZ s where
 ND:=fun r hr=>by
  rw[kq s fun c hc=>(h c hc).2]at hr;obtain⟨c,hc,rfl⟩:=Xk.1 hr;exact(h c hc).1
 whole:=nz s fun x hx=>(h x hx).2
 pos:=by
  rw[kq s fun c hc=>(h c hc).2,XJ];exact Yn.2 h0
 le:=by
  rw[kq s fun c hc=>(h c hc).2,XJ];omega
def dt:Cf:=⟨[[108,111,119],[104,105,103,104]],[3,2],[40,40],[⟨1,1,0⟩]⟩
theorem P1:kA [3,2]:=by
 refine jc.2 ⟨by decide,by decide,qR.1 (by decide),fun a ha b hb=>?_⟩;have ha':a<2:=ha;obtain⟨rfl,rfl⟩:a=1∧b=0:=by omega
 refine⟨by decide,⟨1,by decide,by decide,by decide,fun d hd=>?_⟩,⟨0,by decide,by decide,by decide,fun d hd=>?_⟩⟩
 ·have:d<2:=hd;rcases(show d=0∨d=1 by omega)with rfl|rfl <;>decide
 ·have:d<2:=hd;rcases(show d=0∨d=1 by omega)with rfl|rfl <;>decide
theorem Qa:KZ dt where
 JF:=rfl
 L6:=rfl
 GG:=P1
 RP:=⟨by decide,fun g h=>(by rw[Xg.1 h];decide),List.pairwise_singleton _ _⟩
 name:=fun s hs=>by
  simp only[dt,Xm,Yv,or_false]at hs;rcases hs with rfl|rfl
  ·exact KC (by decide) (by decide) (by decide)
  ·exact KC (by decide) (by decide) (by decide)
 quo:=fun n hn=>by
  simp only[dt,Xm,Yv,or_false]at hn;rcases hn with rfl|rfl <;>decide
 uniq:=by decide
theorem Q0:Bm dt:=⟨by decide,fun s hs=>by
 simp only[dt,Xm,Yv,or_false]at hs;rcases hs with rfl|rfl <;>decide,by decide,fun x hx=>by simp only[dt,Xm,Yv,or_false]at hx;rcases hx with rfl|rfl <;>decide,by decide,by decide⟩
def MM:bp:=⟨0,0,0,0,[],[],[],0,0,0,[]⟩
def Cz:bp:=⟨2,0,1,0,[],[],[],0,0,0,[]⟩
def Ol:bp:=⟨5,0,1,0,[98],[],[],0,0,0,[]⟩
def MW:bp:=⟨7,0,1,0,[98],[107],[118],0,0,0,[]⟩
def N8:bp:=⟨3,0,1,0,[],[],[],0,0,0,[]⟩
def N5:bp:=⟨0,1,0,0,[],[],[],0,0,0,[]⟩
def nq:bp:=⟨9,1,1,0,[98],[107],[],0,0,0,[]⟩
def QM:bp:=⟨15,1,1,0,[],[],[],1,0,0,[]⟩
def KS:bp:=⟨7,0,1,0,[98],[108],[],0,0,0,[]⟩
def ly:List RH:=[⟨0,1,[],0,false⟩]
def fN:List RH:=[⟨0,1,[],0,false⟩,⟨1,1,[],0,false⟩]
def qU:ir:=fun _=>none
def Sz:List UInt8→Option (List UInt8):=fun _=>none
def Dr:List UInt8→Option (List UInt8):=fun j=>if j=[107]then some [118]else none
def Fz:ir:=fM qU [98] Sz
def aW:ir:=fM Fz [98] Dr
def ja(F:ir)(has:Int)(D:ir)(r:List RH):bq:=⟨[⟨F,[],has,D⟩,⟨qU,[],0,qU⟩],r,fun _ _ _=>none⟩
theorem Vj:dF eH dt (vI 2) MM false=(C1 1,ja qU 0 qU ly):=by kernel_rfl
theorem VM:dF eH dt (ja qU 0 qU ly) Cz false=(kU 0,ja qU 1 qU ly):=by kernel_rfl
theorem VY:dF eH dt (ja qU 1 qU ly) Ol false=(kU 0,ja qU 1 Fz ly):=by kernel_rfl
theorem U4:dF eH dt (ja qU 1 Fz ly) MW false=(kU 0,ja qU 1 aW ly):=by kernel_rfl
theorem UT:dF eH dt (ja qU 1 aW ly) N8 false=(kU 0,ja aW 0 aW ly):=by kernel_rfl
theorem Va:dF eH dt (ja aW 0 aW ly) N5 false=(C1 1,ja aW 0 aW fN):=by kernel_rfl
theorem Tq:cL aW=[[98]]:=by
 rw[ue (V:=[[98]]) (by decide) fun k=>?_]
 ·exact List.mergeSort_singleton _
 ·unfold aW Fz fM qU;by_cases h:k=[98]
  ·simp[h]
  ·simp[h]
theorem QV:cL Dr=[[107]]:=by
 rw[ue (V:=[[107]]) (by decide) fun k=>?_]
 ·exact List.mergeSort_singleton _
 ·unfold Dr;by_cases h:k=[107]
  ·simp[h]
  ·simp[h]
theorem To:bg dt (ja aW 0 aW fN) nq (fun k=>decide (k=nq.key)) 2=[[⟨[107],0,[118]⟩],[]]:=by
 have h1:gx dt (ja aW 0 aW fN) nq 2=[0,1]:=by decide +kernel
 have h2:dc (ja aW 0 aW fN) nq 0 nq.bucket=some Dr:=by kernel_rfl
 have h3:dc (ja aW 0 aW fN) nq 1 nq.bucket=none:=by kernel_rfl
 unfold bg;rw[h1];simp only[Xy,List.map_nil,h2,h3,oh,QV];rfl
theorem UM:dF eH dt (ja aW 0 aW fN) nq false=(⟨0,0,[⟨[107],0,[118]⟩],[]⟩,ja aW 0 aW fN):=by
 have h1:dF eH dt (ja aW 0 aW fN) nq false=Gp (ja aW 0 aW fN) (getM dt (ja aW 0 aW fN) nq):=by kernel_rfl
 have h2:¬eQ (ja aW 0 aW fN) nq:=by decide +kernel
 have h3:eJ dt (ja aW 0 aW fN) nq 2=true:=by kernel_rfl
 have hl:(ja aW 0 aW fN).l.length=2:=rfl;rw[h1];unfold getM;rw[if_neg h2,hl,h3,if_neg (by simp),To];rfl
theorem TX:dF eH dt (ja aW 0 aW fN) Cz false=(kU 0,ja aW 1 aW fN):=by kernel_rfl
theorem VX:dF eH dt (ja aW 1 aW fN) QM false=(kU 36,ja aW 1 aW fN):=by kernel_rfl
theorem TM:dF eH dt (ja aW 1 aW fN) KS true=(kU 37,ja aW 1 aW fN):=by kernel_rfl
theorem QW:nY 0 aW=[⟨[98,47,107],0,[118]⟩]:=by
 have h:aW [98]=some Dr:=by kernel_rfl
 unfold nY iD;simp only[Tq,Zh,List.flatMap_nil,h,Yu,QV];rfl
structure jn(T:St)(g:MG)(b:Nat)(v:List DV):Prop where
 at_:lk T.box b=some v
 no:b∉g.bx
structure yg(T:St)(g:MG)(b:Nat)(v:Ob):Prop where
 at_:lk T.acc b=some v
 no:g.own b= .no
theorem jn.fr{T T':St}{g g':MG}{b:Nat}{v:List DV}(h:jn T g b v)(k:gF T T' g g'):jn T' g' b v:=⟨k.box _ _ h.no h.at_,fun q=>(k.nb _ q).elim h.no fun e=>by rw[h.at_]at e;cases e⟩
theorem yg.fr{T T':St}{g g':MG}{b:Nat}{v:Ob}(h:yg T g b v)(k:gF T T' g g'):yg T' g' b v:=⟨k.acc _ _ h.no h.at_,XP fun q=>(k.na _ q).elim (fun e=>e h.no) fun e=>by rw[h.at_]at e;cases e⟩
theorem jn.has{T T':St}{g:MG}{b:Nat}{v:List DV}(h:jn T g b v)(k:Has T T'):jn T' g b v:=⟨k.box _ _ h.at_,h.no⟩
theorem yg.has{T T':St}{g:MG}{b:Nat}{v:Ob}(h:yg T g b v)(k:Has T T'):yg T' g b v:=⟨k.acc _ _ h.at_,h.no⟩
theorem iL{T:St}(b:FN T.box)(v:List DV):Has T ⟨(b.n,v)::T.box,T.acc⟩:=⟨fun _ _ q=>ai (ak b) q,fun _ _ q=>q⟩
theorem MI.DE{T:St}{g:MG}{N:Nat}{c:Cf}{μ:bq}(h:MI T g N c μ)(b:FN T.box)(v:List DV):jn ⟨(b.n,v)::T.box,T.acc⟩ g b.n v:=⟨jv _ _ _,fun q=>h.lL q (ak b)⟩
structure ug(S T:St)(g:MG):Prop where
 box:∀i v,lk S.box i=some v→jn T g i v
 acc:∀i v,lk S.acc i=some v→yg T g i v
theorem ug.out{S T:St}{g:MG}(h:ug S T g):Has S T:=⟨fun i v q=>(h.box i v q).at_,fun i v q=>(h.acc i v q).at_⟩
theorem ug.fr{S T T':St}{g g':MG}(h:ug S T g)(k:gF T T' g g'):ug S T' g':=⟨fun i v q=>(h.box i v q).fr k,fun i v q=>(h.acc i v q).fr k⟩
theorem ug.has{S T T':St}{g:MG}(h:ug S T g)(k:Has T T'):ug S T' g:=⟨fun i v q=>(h.box i v q).has k,fun i v q=>(h.acc i v q).has k⟩
theorem ug.sub{S0 S T:St}{g:MG}(h:ug S T g)(k:Has S0 S):ug S0 T g:=⟨fun i v q=>h.box i v (k.box i v q),fun i v q=>h.acc i v (k.acc i v q)⟩
theorem ug.new{S T:St}{g:MG}(k1:∀i v,lk S.box i=some v→lk T.box i=some v)(k2:∀i v,lk S.acc i=some v→lk T.acc i=some v)(k3:∀i,i∈g.bx→lk S.box i=none)(k4:∀i,g.own i≠ .no→lk S.acc i=none):ug S T g:=
 ⟨fun i v q=>⟨k1 i v q,fun e=>by rw[k3 i e]at q;cases q⟩,fun i v q=>⟨k2 i v q,XP fun e=>by rw[k4 i e]at q;cases q⟩⟩
@[go_sem] def RU (o:bp):DV:= .agg [dI o.kind,dI o.level,dI o.aC,dI o.snap,dS (tx o.bucket),dS (tx o.key),dS (tx o.value),dI o.label,dI o.dQ,dI o.n,.sl 0 true []]
theorem Nr{o:bp}(h:o.ba=[]):Wk (RU o) (AU o):=by
 unfold RU AU;rw[h];exact .agg ⟨.refl _,.refl _,.refl _,.refl _,.refl _,.refl _,.refl _,.refl _,.refl _,.refl _,.nil _ _ _,trivial⟩
def Vh(S:St)(g:MG)(N:Nat)(c:Cf)(q:C3×bq):DV→St→Prop:=fun d S'=>d=HC q.1∧∃g',MI S' g' (N+1) c q.2∧gF S S' g g'
theorem QF{w0:W0}{S:St}{g:MG}{N:Nat}{c:Cf}{μ:bq}{o:bp}{full:Bool}{q:C3×bq}(hgO:nW w0)(hgC:kW w0)(hI:MI S g N c μ)(hM:iN N c μ)(hgr:c.gr.length≤1048576)(hN:N≤10000)(hk:o.ba=[])(he:dF eH c μ o full=q):
 aa Tryz.prog w0 12 [bz g.m,RU o,dB full] S (Vh S g N c q):=
 he▸iC (Nh hgO hgC hI hM hgr hN) ⟨.refl _,Nr hk,.refl _,trivial⟩ fun d S' h=>⟨_,.refl _,h⟩
theorem Sw(w0:W0)(S:St):aa Tryz.prog w0 25 [] S (fun d S'=>d=QU dt∧S'=S):=by
 refine bW [] mx Tryz.func25 rfl rfl (by kernel_rfl) ?_;simp(maxDischargeDepth:=12) (maxSteps:=1000000) -implicitDefEqProofs only[Tryz.ntmps25,go_sem,Nat.reduceAdd,Nat.reduceSub,Nat.reduceMul,Nat.reduceLeDiff,Nat.reduceEqDiff,Nat.reduceGT,Nat.reduceBEq,reduceCtorEq,↓reduceIte,Int.reduceToNat,Int.reduceLE,Int.reduceLT,Int.reduceNe,Int.reduceEq];intro b;exact .agg ⟨Wk.full _ _ _,Wk.full _ _ _,Wk.full _ _ _,Wk.full _ _ _,trivial⟩
def OG:List bp:=[MM,Cz,Ol,MW,N8,N5]
def RQ(i:Nat):bq:=[vI 2,ja qU 0 qU ly,ja qU 1 qU ly,ja qU 1 Fz ly,ja qU 1 aW ly,ja aW 0 aW ly].getD i (ja aW 0 aW fN)
theorem J1{i:Nat}{o:bp}(h:OG[i]? =some o):o.ba=[]∧∃r,r.e=0∧dF eH dt (RQ i) o false=(r,RQ (i+1)):=by
 have hi:i<6:=(W6.1 h).1;obtain rfl|rfl|rfl|rfl|rfl|rfl:i=0∨i=1∨i=2∨i=3∨i=4∨i=5:=by omega
 all_goals cases h
 ·exact⟨rfl,_,rfl,Vj⟩
 ·exact⟨rfl,_,rfl,VM⟩
 ·exact⟨rfl,_,rfl,VY⟩
 ·exact⟨rfl,_,rfl,U4⟩
 ·exact⟨rfl,_,rfl,UT⟩
 ·exact⟨rfl,_,rfl,Va⟩
theorem Ot{w0:W0}(hgT:ib w0)(hk:KU w0)(hgO:nW w0)(hgC:kW w0)(S:St):aa Tryz.prog w0 8 [] S (fun d S'=>d=dB true∧Has S S'):=by
 have hgr:dt.gr.length≤1048576:=by decide
 refine kj [] mx Tryz.func8 rfl rfl (by kernel_rfl) ?_;simp(maxDischargeDepth:=12) (maxSteps:=1000000) -implicitDefEqProofs only[Tryz.ntmps8,go_sem,Nat.reduceAdd,Nat.reduceSub,Nat.reduceMul,Nat.reduceLeDiff,Nat.reduceEqDiff,Nat.reduceGT,Nat.reduceBEq,reduceCtorEq,↓reduceIte,Int.reduceToNat,Int.reduceLE,Int.reduceLT,Int.reduceNe,Int.reduceEq];refine ao (Sw _ _) ?_;simp(maxDischargeDepth:=12) (maxSteps:=1000000) -implicitDefEqProofs only[go_sem,Nat.reduceAdd,Nat.reduceSub,Nat.reduceMul,Nat.reduceLeDiff,Nat.reduceEqDiff,Nat.reduceGT,Nat.reduceBEq,reduceCtorEq,↓reduceIte,Int.reduceToNat,Int.reduceLE,Int.reduceLT,Int.reduceNe,Int.reduceEq];refine an (M3 hgT hk dt Q0 _) ?_;rintro _ T0 (⟨h,_⟩|⟨_,g0,rfl,hI0,k1,k2,k3,k4⟩)
 ·exact absurd Qa h
 have hM0:iN 0 dt (vI 2):=PK Qa (by decide);have hI0:MI T0 g0 0 dt (vI 2):=hI0;simp(maxDischargeDepth:=12) (maxSteps:=1000000) -implicitDefEqProofs only[go_sem,Nat.reduceAdd,Nat.reduceSub,Nat.reduceMul,Nat.reduceLeDiff,Nat.reduceEqDiff,Nat.reduceGT,Nat.reduceBEq,reduceCtorEq,↓reduceIte,Int.reduceToNat,Int.reduceLE,Int.reduceLT,Int.reduceNe,Int.reduceEq];obtain⟨L,hL⟩:∃L,L=OG:=⟨_,rfl⟩;have hl6:L.length=6:=by rw[hL];rfl
 have hA0:ug S T0 g0:= .new k1 k2 k3 k4;refine fc [] [1,3,4] (σ:=Nat×St×MG) (fun s=>[(1,bz g0.m),(3,.sl 11 true (L.map RU)),(4,dI s.1)]) (fun s=>s.2.1) (fun s=>s.1≤6∧s.2.2.m=g0.m∧MI s.2.1 s.2.2 s.1 dt (RQ s.1)∧iN s.1 dt (RQ s.1)∧ug S s.2.1 s.2.2) (fun s=>6-s.1) (0,T0,g0) mx (by kernel_rfl) ⟨⟨Xl _,rfl,hI0,hM0,hA0⟩,?_⟩ ?_
 ·rw[hL];simp(maxDischargeDepth:=12) (maxSteps:=1000000) -implicitDefEqProofs only[go_sem,Nat.reduceAdd,Nat.reduceSub,Nat.reduceMul,Nat.reduceLeDiff,Nat.reduceEqDiff,Nat.reduceGT,Nat.reduceBEq,reduceCtorEq,↓reduceIte,Int.reduceToNat,Int.reduceLE,Int.reduceLT,Int.reduceNe,Int.reduceEq,OG,MM,Cz,Ol,MW,N8,N5,tx];exact .refl _
 ·rintro⟨i,T,g⟩ ⟨hi,hm,hI,hM,hA⟩;simp only at hi hm hI hM hA;have e1:IntKind.i64.wrap ((i:Int)+1)=((i+1:Nat):Int):=aI (by omega);by_cases hi6:i<6
  ·have hxo:OG[i]? =some OG[i]:=W5 hi6;generalize OG[i]=o at hxo;have hx:L[i]? =some o:=by rw[hL,hxo]
   obtain⟨hko,r,hr,hq⟩:=J1 hxo;simp(maxDischargeDepth:=12) (maxSteps:=1000000) -implicitDefEqProofs only[go_sem,Nat.reduceAdd,Nat.reduceSub,Nat.reduceMul,Nat.reduceLeDiff,Nat.reduceEqDiff,Nat.reduceGT,Nat.reduceBEq,reduceCtorEq,↓reduceIte,Int.reduceToNat,Int.reduceLE,Int.reduceLT,Int.reduceNe,Int.reduceEq,hx,e1,hl6];refine⟨fun _=>⟨by omega,?_⟩,fun h=>absurd (by omega) h⟩;rw[←hm];refine an (QF hgO hgC hI hM hgr (by omega) hko hq) ?_;rintro _ T' ⟨rfl,g',j1,j2⟩;simp(maxDischargeDepth:=12) (maxSteps:=1000000) -implicitDefEqProofs only[go_sem,Nat.reduceAdd,Nat.reduceSub,Nat.reduceMul,Nat.reduceLeDiff,Nat.reduceEqDiff,Nat.reduceGT,Nat.reduceBEq,reduceCtorEq,↓reduceIte,Int.reduceToNat,Int.reduceLE,Int.reduceLT,Int.reduceNe,Int.reduceEq,hr,e1];intro b;have hb:=iL b [dI 0,dI r.n,.sl 3 false (r.rows.map qT),dI 0,dI 0,dI 0,dI 0,.sl 6 false (r.om.map sx)];refine⟨(i+1,T',g'),⟨by show i+1≤6;omega,j2.m,j1,?_,hA.fr j2⟩,by show 6-(i+1)<6-i;omega,rfl,?_⟩
   ·have:=ju (o:=o) (full:=false) hM;rw[hq]at this;exact this
   ·simp(maxDischargeDepth:=12) (maxSteps:=1000000) -implicitDefEqProofs only[go_sem,Nat.reduceAdd,Nat.reduceSub,Nat.reduceMul,Nat.reduceLeDiff,Nat.reduceEqDiff,Nat.reduceGT,Nat.reduceBEq,reduceCtorEq,↓reduceIte,Int.reduceToNat,Int.reduceLE,Int.reduceLT,Int.reduceNe,Int.reduceEq]
  ·obtain rfl:i=6:=by omega
   simp(maxDischargeDepth:=12) (maxSteps:=1000000) -implicitDefEqProofs only[go_sem,Nat.reduceAdd,Nat.reduceSub,Nat.reduceMul,Nat.reduceLeDiff,Nat.reduceEqDiff,Nat.reduceGT,Nat.reduceBEq,reduceCtorEq,↓reduceIte,Int.reduceToNat,Int.reduceLE,Int.reduceLT,Int.reduceNe,Int.reduceEq,hl6];rw[←hm];refine an (QF (o:=nq) hgO hgC hI hM hgr (by omega) rfl UM) ?_;rintro _ T1 ⟨rfl,g1,j1,j2⟩;simp(maxDischargeDepth:=12) (maxSteps:=1000000) -implicitDefEqProofs only[go_sem,Nat.reduceAdd,Nat.reduceSub,Nat.reduceMul,Nat.reduceLeDiff,Nat.reduceEqDiff,Nat.reduceGT,Nat.reduceBEq,reduceCtorEq,↓reduceIte,Int.reduceToNat,Int.reduceLE,Int.reduceLT,Int.reduceNe,Int.reduceEq];intro b6;have o6:=j1.DE b6 [dI 0,dI 0,.sl 3 false (([⟨[107],0,[118]⟩]:List iq).map qT),dI 0,dI 0,dI 0,dI 0,.sl 6 false []];have x1:=j1.has (iL b6 [dI 0,dI 0,.sl 3 false (([⟨[107],0,[118]⟩]:List iq).map qT),dI 0,dI 0,dI 0,dI 0,.sl 6 false []]);have a1:=(hA.fr j2).has (iL b6 [dI 0,dI 0,.sl 3 false (([⟨[107],0,[118]⟩]:List iq).map qT),dI 0,dI 0,dI 0,dI 0,.sl 6 false []]);have M1:iN 7 dt (ja aW 0 aW fN):=hM.le (XA 6);rw[←j2.m];refine an (QF (o:=Cz) hgO hgC x1 M1 hgr (by omega) rfl TX) ?_;rintro _ T2 ⟨rfl,g2,j3,j4⟩;simp(maxDischargeDepth:=12) (maxSteps:=1000000) -implicitDefEqProofs only[go_sem,Nat.reduceAdd,Nat.reduceSub,Nat.reduceMul,Nat.reduceLeDiff,Nat.reduceEqDiff,Nat.reduceGT,Nat.reduceBEq,reduceCtorEq,↓reduceIte,Int.reduceToNat,Int.reduceLE,Int.reduceLT,Int.reduceNe,Int.reduceEq];intro b7;have p6:=(o6.fr j4);have o7:=j3.DE b7 [dI 0,dI 0,.sl 3 false [],dI 0,dI 0,dI 0,dI 0,.sl 6 false []];have hT2:=iL b7 [dI 0,dI 0,.sl 3 false [],dI 0,dI 0,dI 0,dI 0,.sl 6 false []];have p6:=p6.has hT2;have a2:=(a1.fr j4).has hT2;have x2:=j3.has hT2
   have M2:iN 8 dt (ja aW 1 aW fN):=by
    have:=ju (o:=Cz) (full:=false) M1;rw[TX]at this;exact this
   rw[←j4.m];refine an (QF (o:=QM) hgO hgC x2 M2 hgr (by omega) rfl VX) ?_;rintro _ T3 ⟨rfl,g3,j5,j6⟩;simp(maxDischargeDepth:=12) (maxSteps:=1000000) -implicitDefEqProofs only[go_sem,Nat.reduceAdd,Nat.reduceSub,Nat.reduceMul,Nat.reduceLeDiff,Nat.reduceEqDiff,Nat.reduceGT,Nat.reduceBEq,reduceCtorEq,↓reduceIte,Int.reduceToNat,Int.reduceLE,Int.reduceLT,Int.reduceNe,Int.reduceEq];intro b8;have p7:=o7.fr j6;have p6:=p6.fr j6;have o8:=j5.DE b8 [dI 36,dI 0,.sl 3 false [],dI 0,dI 0,dI 0,dI 0,.sl 6 false []];have hT3:=iL b8 [dI 36,dI 0,.sl 3 false [],dI 0,dI 0,dI 0,dI 0,.sl 6 false []];have p6:=p6.has hT3;have p7:=p7.has hT3;have a3:=(a2.fr j6).has hT3;have x3:=j5.has hT3;rw[←j6.m];refine an (QF (o:=KS) (full:=true) hgO hgC x3 (M2.le (XA 8)) hgr (by omega) rfl TM) ?_;rintro _ T4 ⟨rfl,g4,j7,j8⟩;simp(maxDischargeDepth:=12) (maxSteps:=1000000) -implicitDefEqProofs only[go_sem,Nat.reduceAdd,Nat.reduceSub,Nat.reduceMul,Nat.reduceLeDiff,Nat.reduceEqDiff,Nat.reduceGT,Nat.reduceBEq,reduceCtorEq,↓reduceIte,Int.reduceToNat,Int.reduceLE,Int.reduceLT,Int.reduceNe,Int.reduceEq];intro b9;have p6:=p6.fr j8;have p7:=p7.fr j8;have p8:=o8.fr j8;have hT4:=iL b9 [dI 37,dI 0,.sl 3 false [],dI 0,dI 0,dI 0,dI 0,.sl 6 false []];have a4:=(a3.fr j8).has hT4;have x4:=j7.has hT4;have n6:=aw b9 b6.n (by rw[p6.at_];rfl);have n7:=aw b9 b7.n (by rw[p7.at_];rfl);have n8:=aw b9 b8.n (by rw[p8.at_];rfl);have q6:=p6.at_;have q7:=p7.at_;have q8:=p8.at_;have M4:=(M2.le (XA 8)).le (XA 9);rw[←j8.m];refine ao (qP _ x4 M4 (by omega) (x:=0) ⟨by omega,by decide⟩) ?_;rw[show(aO (ja aW 1 aW fN) 0).F=aW from rfl,QW];simp(maxDischargeDepth:=12) (maxSteps:=1000000) -implicitDefEqProofs only[go_sem,Nat.reduceAdd,Nat.reduceSub,Nat.reduceMul,Nat.reduceLeDiff,Nat.reduceEqDiff,Nat.reduceGT,Nat.reduceBEq,reduceCtorEq,↓reduceIte,Int.reduceToNat,Int.reduceLE,Int.reduceLT,Int.reduceNe,Int.reduceEq,n6,n7,n8,q6,q7,q8];refine⟨fun _=>?_,fun h=>absurd rfl h⟩;refine ao (Hr _ x4 0) ?_;rw[show(aO (ja aW 1 aW fN) 0).has=1 from rfl];simp(maxDischargeDepth:=12) (maxSteps:=1000000) -implicitDefEqProofs only[go_sem,Nat.reduceAdd,Nat.reduceSub,Nat.reduceMul,Nat.reduceLeDiff,Nat.reduceEqDiff,Nat.reduceGT,Nat.reduceBEq,reduceCtorEq,↓reduceIte,Int.reduceToNat,Int.reduceLE,Int.reduceLT,Int.reduceNe,Int.reduceEq,tx];exact a4.out
theorem uu(dg:List UInt8→Int)(c:Cf)(μ:bq){o:bp}(full:Bool)(h:o.kind=16):dF dg c μ o full=(kU 0,bL μ o full):=by
 have h1:pX μ.l.length o=true:=decide_eq_true ⟨by omega,.inl h⟩;unfold dF;rw[if_neg (by rw[h1];simp),if_neg (by omega),if_pos h]
theorem tz(dg:List UInt8→Int)(c:Cf)(μ:bq){o:bp}(full:Bool)(h:o.kind=0)(h0:0≤o.level)(h1:o.level<μ.l.length):dF dg c μ o full=(C1 (lM μ.r o.level).2,⟨μ.l,(lM μ.r o.level).1,μ.sn⟩):=by
 have h1:pX μ.l.length o=true:=decide_eq_true ⟨by omega,.inr ⟨h0,h1⟩⟩;unfold dF;rw[if_neg (by rw[h1];simp),if_pos h]
theorem sB(dg:List UInt8→Int)(c:Cf)(μ:bq){o:bp}(full:Bool)(hk:1≤o.kind∧o.kind≤15)(h0:0≤o.level)(h1:o.level<μ.l.length)(h:¬dm μ.r o.level o.aC<μ.r.length):dF dg c μ o full=(kU 30,μ):=by
 have h1:pX μ.l.length o=true:=decide_eq_true ⟨by omega,.inr ⟨h0,h1⟩⟩;unfold dF;rw[if_neg (by rw[h1];simp),if_neg (by omega),if_neg (by omega),if_pos h]
theorem yc(dg:List UInt8→Int)(c:Cf)(μ:bq){o:bp}(full:Bool)(hk:1≤o.kind∧o.kind≤15)(h0:0≤o.level)(h1:o.level<μ.l.length)(h:dm μ.r o.level o.aC<μ.r.length):dF dg c μ o full=Gp μ (bC dg c μ o full):=by
 have h1:pX μ.l.length o=true:=decide_eq_true ⟨by omega,.inr ⟨h0,h1⟩⟩;unfold dF;rw[if_neg (by rw[h1];simp),if_neg (by omega),if_neg (by omega),if_neg (fun q=>q h)]
theorem EL(μ:bq)(o:bp)(full:Bool):(bL μ o full).l.length=μ.l.length:=by simp[bL]
theorem qN{μ:bq}{o:bp}{full:Bool}{x:Int}(h0:0≤x)(h1:x<μ.l.length):aO (bL μ o full) x={aO μ x with has:=0,F:=if x=o.level∧0<o.aC∧(aO μ x).has=o.aC∧full=false then(aO μ x).D else(aO μ x).F}:=by
 have e:((x.toNat:Nat):Int)=x:=Int.toNat_of_nonneg h0
 have h2:(bL μ o full).l[x.toNat]? =some {aO μ x with has:=0,F:=if x=o.level∧0<o.aC∧(aO μ x).has=o.aC∧full=false then(aO μ x).D else(aO μ x).F}:=by
  unfold bL;simp only[Xd];rw[X3 (by omega)];simp only[XB,e]
 exact bh h2 h0
theorem kf{μ:bq}{x k:Int}{l':tC}{r:List RH}{sn:Int→Int→Int→Option (List ir)}(h0:0≤x)(h1:x<μ.l.length):aO ⟨μ.l.set x.toNat l',r,sn⟩ k=if k=x then l' else aO μ k:=by
 by_cases e:k=x
 ·subst e;rw[if_pos rfl];exact bh (by show(μ.l.set k.toNat l')[k.toNat]? =some l';rw[X7 (by omega)]) h0
 ·rw[if_neg e];unfold aO;by_cases hk:0≤k
  ·rw[if_pos hk,if_pos hk];show((μ.l.set x.toNat l')[k.toNat]?).getD _=_;rw[X8 (by omega)]
  ·rw[if_neg hk,if_neg hk]
theorem zf{dg:List UInt8→Int}{c:Cf}{μ:bq}{o:bp}{full:Bool}(P:gv→Prop)(p1:o.kind=1→P (fu μ o))(p2:o.kind=2→P (ej μ o))(p3:o.kind=3→P (cP μ o))(p4:o.kind=4→P (bH μ o))(p5:o.kind=5→P (fh μ o full))(p6:o.kind=6→P (fE μ o full))(p7:o.kind=7→P (jw μ o full))(p8:o.kind=8→P (bZ μ o full))(p9:o.kind=9→P (getM c μ o))(p10:o.kind=10→P (gy c μ o))(p11:o.kind=11→P (jk μ o))(p12:o.kind=12→P (cN μ o))(p13:o.kind=13→P (eD c μ o))(p14:o.kind=14→P (dn c μ o))(p15:¬(1≤o.kind∧o.kind≤14)→P (ey dg c μ o full)):P (bC dg c μ o full):=by
 by_cases h:1≤o.kind∧o.kind≤14
 ·rcases(by omega:o.kind=1∨o.kind=2∨o.kind=3∨o.kind=4∨o.kind=5∨o.kind=6∨o.kind=7∨o.kind=8∨o.kind=9∨o.kind=10∨o.kind=11∨o.kind=12∨o.kind=13∨o.kind=14)with k|k|k|k|k|k|k|k|k|k|k|k|k|k
  ·rw[show bC dg c μ o full=fu μ o by unfold bC;simp[k]];exact p1 k
  ·rw[show bC dg c μ o full=ej μ o by unfold bC;simp[k]];exact p2 k
  ·rw[show bC dg c μ o full=cP μ o by unfold bC;simp[k]];exact p3 k
  ·rw[show bC dg c μ o full=bH μ o by unfold bC;simp[k]];exact p4 k
  ·rw[show bC dg c μ o full=fh μ o full by unfold bC;simp[k]];exact p5 k
  ·rw[show bC dg c μ o full=fE μ o full by unfold bC;simp[k]];exact p6 k
  ·rw[show bC dg c μ o full=jw μ o full by unfold bC;simp[k]];exact p7 k
  ·rw[show bC dg c μ o full=bZ μ o full by unfold bC;simp[k]];exact p8 k
  ·rw[show bC dg c μ o full=getM c μ o by unfold bC;simp[k]];exact p9 k
  ·rw[show bC dg c μ o full=gy c μ o by unfold bC;simp[k]];exact p10 k
  ·rw[show bC dg c μ o full=jk μ o by unfold bC;simp[k]];exact p11 k
  ·rw[show bC dg c μ o full=cN μ o by unfold bC;simp[k]];exact p12 k
  ·rw[show bC dg c μ o full=eD c μ o by unfold bC;simp[k]];exact p13 k
  ·rw[show bC dg c μ o full=dn c μ o by unfold bC;simp[k]];exact p14 k
 ·rw[show bC dg c μ o full=ey dg c μ o full by unfold bC;rw[if_neg (by omega)];rw[if_neg (by omega)];rw[if_neg (by omega)];rw[if_neg (by omega)];rw[if_neg (by omega)];rw[if_neg (by omega)];rw[if_neg (by omega)];rw[if_neg (by omega)];rw[if_neg (by omega)];rw[if_neg (by omega)];rw[if_neg (by omega)];rw[if_neg (by omega)];rw[if_neg (by omega)];rw[if_neg (by omega)]];exact p15 h
structure Rl(μ0 μ:bq)(x s:Int):Prop where
 len:μ.l.length=μ0.l.length
 F:∀k,(aO μ k).F=(aO μ0 k).F
 has:(aO μ x).has=s
 r:μ.r=μ0.r
theorem Rl.put{μ0 μ:bq}{x s:Int}(h:Rl μ0 μ x s)(h0:0≤x)(h1:x<μ0.l.length)(l':tC)(hF:l'.F=(aO μ x).F)(hs:l'.has=s):Rl μ0 ⟨μ.l.set x.toNat l',μ.r,μ.sn⟩ x s:=by
 have h2:x<μ.l.length:=by rw[h.len];exact h1
 refine⟨by simp[h.len],fun k=>?_,?_,h.r⟩
 ·rw[kf h0 h2];by_cases e:k=x
  ·rw[if_pos e,hF,e];exact h.F x
  ·rw[if_neg e];exact h.F k
 ·rw[kf h0 h2,if_pos rfl];exact hs
structure Ro(μ0 μ:bq)(x:Int):Prop where
 len:μ.l.length=μ0.l.length
 F:∀k,(aO μ k).F=(aO μ0 k).F
 has:(aO μ x).has=0
structure Sp(n:Nat)(a n0:Int)(Fs:List ir)(μ:bq):Prop where
 len:μ.l.length=n
 vw:∃p,fX μ.r a n0=some p∧(1:Int)∈p.1
 sn:μ.sn a n0 1=some Fs
end Go.Proofs.YtoepfmhnapedoaaGreatDoor
namespace Go.Proofs.YtoepfmhnapedoaaGreatDoor
open Aml Go Rn Lat Grs
theorem ky{up:List Nat}(h:up.length≤64){a b:Int}:cR up a b=true↔(0≤a∧a<up.length)∧(0≤b∧b<up.length)∧bt up a.toNat b.toNat=true:=by
 unfold cR cS;simp only[W8,decide_eq_true_eq];constructor
 ·rintro⟨⟨h1,h2⟩,⟨⟨_,h3⟩,h4⟩,h5⟩;exact⟨⟨h1,by omega⟩,⟨h2,by omega⟩,h5⟩
 ·rintro⟨⟨h1,h2⟩,⟨h3,h4⟩,h5⟩;exact⟨⟨h1,h3⟩,⟨⟨h,by omega⟩,by omega⟩,h5⟩
theorem kv{up:List Nat}(h:kA up){a b d:Int}(h1:cR up a b=true)(h2:cR up b d=true):cR up a d=true:=by
 obtain⟨p1,p2,p3⟩:=(ky h.le).1 h1;obtain⟨q1,q2,q3⟩:=(ky h.le).1 h2;exact(ky h.le).2 ⟨p1,q2,h.cl.trans _ _ _ p3 q3⟩
def OM(D:Int→Prop):Option (List ir)→Option (List ir)→Prop
 |none,none=>True
 |some F,some G=>∀j:Nat,D (j:Int)→F[j]? =G[j]?
 |_,_=>False
structure Hd(D:Int→Prop)(a b:bq):Prop where
 len:a.l.length=b.l.length
 lb:∀k,D k→aO a k=aO b k
 cn:∀lv,D lv→eX a.r lv=eX b.r lv
 vw:∀lv n,D lv→fX a.r lv n=fX b.r lv n
 sn:∀lv n k,D lv→OM D (a.sn lv n k) (b.sn lv n k)
theorem OM.refl(D:Int→Prop)(x:Option (List ir)):OM D x x:=by
 cases x with
 |none=>trivial
 |some F=>exact fun _ _=>rfl
theorem Hd.refl(D:Int→Prop)(a:bq):Hd D a a:=⟨rfl,fun _ _=>rfl,fun _ _=>rfl,fun _ _ _=>rfl,fun _ _ _ _=> .refl D _⟩
section
variable {D:Int→Prop} {a b:bq}
theorem Hd.get(h:Hd D a b){j:Nat}(hj:D (j:Int)):a.l[j]? =b.l[j]? :=by
 by_cases hl:j<a.l.length
 ·have h1:a.l[j]? =some a.l[j]:=W5 hl;have h2:b.l[j]? =some (b.l[j]'(by have:=h.len;omega)):=W5 _;have e:=h.lb _ hj;rw[bh (x:=(j:Int)) h1 (by omega),bh (x:=(j:Int)) h2 (by omega)]at e;rw[h1,h2,e]
 ·rw[Xe (by omega),Xe (by have:=h.len;omega)]
theorem Hd.Q9(h:Hd D a b){x:Int}(h0:0≤x)(h1:x<a.l.length)(l':tC):Hd D ⟨a.l.set x.toNat l',a.r,a.sn⟩ ⟨b.l.set x.toNat l',b.r,b.sn⟩:=
 ⟨by simp[h.len],fun k hk=>by rw[kf h0 h1,kf h0 (by have:=h.len;omega),h.lb k hk],h.cn,h.vw,h.sn⟩
theorem Hd.tf(h:Hd D a b){x:Int}(h0:0≤x)(h1:x<a.l.length)(hx:¬D x)(l':tC):Hd D ⟨a.l.set x.toNat l',a.r,a.sn⟩ b:=
 ⟨by simp[h.len],fun k hk=>by rw[kf h0 h1,if_neg (fun e:k=x=>hx (e▸hk))];exact h.lb k hk,h.cn,h.vw,h.sn⟩
theorem Hd.Mr(h:Hd D a b){r1 r2:List RH}{s1 s2:Int→Int→Int→Option (List ir)}(h1:∀lv,D lv→eX r1 lv=eX r2 lv)(h2:∀lv n,D lv→fX r1 lv n=fX r2 lv n)(h3:∀lv n k,D lv→OM D (s1 lv n k) (s2 lv n k)):Hd D ⟨a.l,r1,s1⟩ ⟨b.l,r2,s2⟩:=⟨h.len,h.lb,h1,h2,h3⟩
end
theorem Q8{dg:List UInt8→Int}{c:Cf}{D:Int→Prop}{a b:bq}{o:bp}{full:Bool}(h:Hd D a b)(hw:iM a.r)(hl:0≤o.level∧o.level<a.l.length)(hnl:a.l.length=c.up.length)(hup:c.up.length≤64)(hD:¬D o.level)(hk:1≤o.kind)(hto:¬(1≤o.kind∧o.kind≤14)→¬D o.dQ):∀r a',bC dg c a o full= .inr (r,a')→Hd D a' b:=by
 have hne:∀lv:Int,D lv→lv≠o.level:=fun lv q e=>hD (e▸q);refine zf (P:=fun out=>∀r a',out= .inr (r,a')→Hd D a' b) ?_ ?_ ?_ ?_ ?_ ?_ ?_ ?_ ?_ ?_ ?_ ?_ ?_ ?_ ?_
 ·intro q r μ' he;unfold fu at he;cases he;have h':=h.tf hl.1 hl.2 hD {aO a o.level with has:=if(aO a o.level).has=o.aC then 0 else(aO a o.level).has};exact⟨h'.len,h'.lb,fun lv q=>by rw[←h.cn lv q];exact z8 _ _ _ _,fun lv n q=>by rw[←h.vw lv n q];show fX (nO a.r o.level o.aC).1 lv n=_;rw[zA hw,if_neg fun e=>hne lv q e.1],h'.sn⟩
 ·intro q r μ' he;unfold ej bF at he;simp only at he
  repeat' split at he
  all_goals cases he
  exact h.tf hl.1 hl.2 hD _
 ·intro q r μ' he;unfold cP bF at he;simp only at he
  repeat' split at he
  all_goals cases he
  exact h.tf hl.1 hl.2 hD _
 ·intro q r μ' he;unfold bH bF at he;simp only at he
  repeat' split at he
  all_goals cases he
  exact h.tf hl.1 hl.2 hD _
 ·intro q r μ' he;unfold fh bF at he;simp only at he
  repeat' split at he
  all_goals cases he
  exact h.tf hl.1 hl.2 hD _
 ·intro q r μ' he;unfold fE bF at he;simp only at he
  repeat' split at he
  all_goals cases he
  exact h.tf hl.1 hl.2 hD _
 ·intro q r μ' he;unfold jw bF at he;simp only at he
  repeat' split at he
  all_goals cases he
  exact h.tf hl.1 hl.2 hD _
 ·intro q r μ' he;unfold bZ bF at he;simp only at he
  repeat' split at he
  all_goals cases he
  exact h.tf hl.1 hl.2 hD _
 ·intro q r μ' he;unfold getM at he
  repeat' split at he
  all_goals first|(cases he;done)|skip
  simp only at he;split at he
  all_goals cases he
  exact h
 ·intro q r μ' he;unfold gy at he
  repeat' split at he
  all_goals cases he
  exact h
 ·intro q r μ' he;unfold jk at he;cases he;refine⟨h.len,h.lb,fun lv q=>by rw[←h.cn lv q];exact Gk _ _ _ _,fun lv n q=>?_,fun lv n k q=>?_⟩
  ·rw[←h.vw lv n q];show fX (qw a.r o.level o.aC).1 lv n=_;rw[zg,if_neg fun e=>hne lv q e.1]
  ·show OM D (n9 a.sn o.level o.aC _ _ lv n k) _;unfold n9;rw[if_neg fun e=>hne lv q e.1];exact h.sn lv n k q
 ·intro q r μ' he;unfold cN at he;split at he
  ·cases he
  ·cases he;refine⟨h.len,h.lb,fun lv q=>by rw[←h.cn lv q];exact E0 _ _ _ _ _,fun lv n q=>?_,fun lv n k q=>?_⟩
   ·rw[←h.vw lv n q];show fX (oy a.r o.level o.aC o.snap).1 lv n=_;rw[zm,if_neg fun e=>hne lv q e.1]
   ·show OM D (n9 a.sn o.level o.aC _ _ lv n k) _;unfold n9;rw[if_neg fun e=>hne lv q e.1];exact h.sn lv n k q
 ·intro q r μ' he;unfold eD at he;split at he
  all_goals cases he
  exact h
 ·intro q r μ' he;unfold dn at he;split at he
  all_goals cases he
  exact h
 ·intro q r μ' he;have hto:=hto q;unfold ey at he;simp only at he;split at he
  ·cases he
  rename_i hcond;have hcond:=Xp.1 hcond;obtain⟨p1,_,_⟩:=(ky hup).1 hcond.2.1
  repeat' split at he
  all_goals cases he
  exact h.tf p1.1 (by omega) hto _
def Tj(D:Int→Prop):gv→gv→Prop
 | .inl e,.inl e'=>e=e'
 | .inr p,.inr q=>p.1=q.1∧Hd D p.2 q.2
 |_,_=>False
theorem JE{c:Cf}{a b:bq}{x:Int}{o:bp}(h:Hd (fun k=>cR c.up k x=true) a b)(hP:kA c.up)(hD:cR c.up o.level x=true){i:Nat}(hi:cR c.up (i:Int) o.level=true):dc a o i=dc b o i:=by
 have hDi:=kv hP hi hD;unfold dc;by_cases h0:o.snap≠0
 ·rw[if_pos h0,if_pos h0];have hs:=h.sn o.level o.aC o.snap hD
  cases ha:a.sn o.level o.aC o.snap with
  |none=>
   cases hb:b.sn o.level o.aC o.snap with
   |none=>rfl
   |some G=>rw[ha,hb]at hs;exact hs.elim
  |some F=>
   cases hb:b.sn o.level o.aC o.snap with
   |none=>rw[ha,hb]at hs;exact hs.elim
   |some G=>
    rw[ha,hb]at hs;show((F[i]?).getD _)=((G[i]?).getD _);rw[hs i hDi]
 ·rw[if_neg h0,if_neg h0,h.lb _ hD,h.lb _ hDi]
theorem zq{c:Cf}{a b:bq}{x:Int}{o:bp}(h:Hd (fun k=>cR c.up k x=true) a b)(hP:kA c.up)(hD:cR c.up o.level x=true)(p:List UInt8→Bool)(n:Nat):bg c a o p n=bg c b o p n∧eJ c a o n=eJ c b o n:=by
 have e:gx c a o n=gx c b o n:=rfl;have hs:∀i,i∈gx c a o n→dc a o i=dc b o i:=fun i hi=>JE h hP hD (YA.1 hi).2;unfold bg eJ;rw[←e];refine⟨List.map_congr_left fun i hi=>by rw[hs i hi],?_⟩
 have:∀L:List Nat,(∀i,i∈L→dc a o i=dc b o i)→(L.any fun x=>(dc a o x o.bucket).isSome)=L.any fun x=>(dc b o x o.bucket).isSome:=by
  intro L
  induction L with
  |nil=>intro _;rfl
  |cons y L ih=>
   intro hL;rw[List.any_cons,List.any_cons,hL y Xf,ih fun i hi=>hL i (Xc _ hi)]
 exact this _ hs
theorem K7{D:Int→Prop}{a b:bq}{o:bp}(h:Hd D a b)(hD:D o.level):eQ a o↔eQ b o:=by
 unfold eQ;rw[jl,jl,h.vw _ _ hD]
theorem Km{dg:List UInt8→Int}{c:Cf}{a b:bq}{x:Int}{o:bp}{full:Bool}(h:Hd (fun k=>cR c.up k x=true) a b)(hP:kA c.up)(hwa:iM a.r)(hwb:iM b.r)(hl:0≤o.level∧o.level<a.l.length)(hnl:a.l.length=c.up.length)(hD:cR c.up o.level x=true):Tj (fun k=>cR c.up k x=true) (bC dg c a o full) (bC dg c b o full):=by
 have hlb:=h.lb _ hD;have hv:∀n,fX a.r o.level n=fX b.r o.level n:=fun n=>h.vw _ n hD;have hput:∀l',Hd (fun k=>cR c.up k x=true) ⟨a.l.set o.level.toNat l',a.r,a.sn⟩ ⟨b.l.set o.level.toNat l',b.r,b.sn⟩:=fun l'=>h.Q9 hl.1 hl.2 l';by_cases k:1≤o.kind∧o.kind≤14
 ·rcases(by omega:o.kind=1∨o.kind=2∨o.kind=3∨o.kind=4∨o.kind=5∨o.kind=6∨o.kind=7∨o.kind=8∨o.kind=9∨o.kind=10∨o.kind=11∨o.kind=12∨o.kind=13∨o.kind=14)with k|k|k|k|k|k|k|k|k|k|k|k|k|k
  ·rw[show bC dg c a o full=fu a o by unfold bC;simp[k],show bC dg c b o full=fu b o by unfold bC;simp[k]];unfold fu;simp only[hlb];refine⟨rfl,?_⟩;refine(hput _).Mr (fun lv q=>?_) (fun lv n q=>?_) h.sn
   ·rw[z8,z8];exact h.cn lv q
   ·rw[zA hwa,zA hwb,h.vw lv n q]
  ·rw[show bC dg c a o full=ej a o by unfold bC;simp[k],show bC dg c b o full=ej b o by unfold bC;simp[k]];unfold ej bF;simp only[hlb];split
   ·rfl
   ·exact⟨rfl,hput _⟩
  ·rw[show bC dg c a o full=cP a o by unfold bC;simp[k],show bC dg c b o full=cP b o by unfold bC;simp[k]];unfold cP bF;simp only[hlb];split
   ·rfl
   ·exact⟨rfl,hput _⟩
  ·rw[show bC dg c a o full=bH a o by unfold bC;simp[k],show bC dg c b o full=bH b o by unfold bC;simp[k]];unfold bH bF;simp only[hlb];split
   ·rfl
   ·exact⟨rfl,hput _⟩
  ·rw[show bC dg c a o full=fh a o full by unfold bC;simp[k],show bC dg c b o full=fh b o full by unfold bC;simp[k]];unfold fh bF;simp only[hlb]
   repeat' split
   all_goals first|rfl|exact⟨rfl,hput _⟩
  ·rw[show bC dg c a o full=fE a o full by unfold bC;simp[k],show bC dg c b o full=fE b o full by unfold bC;simp[k]];unfold fE bF;simp only[hlb]
   repeat' split
   all_goals first|rfl|exact⟨rfl,hput _⟩
  ·rw[show bC dg c a o full=jw a o full by unfold bC;simp[k],show bC dg c b o full=jw b o full by unfold bC;simp[k]];unfold jw bF;simp only[hlb]
   repeat' split
   all_goals first|rfl|exact⟨rfl,hput _⟩
  ·rw[show bC dg c a o full=bZ a o full by unfold bC;simp[k],show bC dg c b o full=bZ b o full by unfold bC;simp[k]];unfold bZ bF;simp only[hlb]
   repeat' split
   all_goals first|rfl|exact⟨rfl,hput _⟩
  ·rw[show bC dg c a o full=getM c a o by unfold bC;simp[k],show bC dg c b o full=getM c b o by unfold bC;simp[k]];have hr:=zq h hP hD (fun k=>decide (k=o.key)) a.l.length;have hns:=K7 h hD;unfold getM;rw[←h.len,←hr.1,←hr.2];simp only[hns]
   repeat' split
   all_goals first|rfl|exact⟨rfl,h⟩
  ·rw[show bC dg c a o full=gy c a o by unfold bC;simp[k],show bC dg c b o full=gy c b o by unfold bC;simp[k]];have hr:=zq h hP hD (fun k=>!yy k o.key) a.l.length;have hns:=K7 h hD;unfold gy;rw[←h.len,←hr.1,←hr.2];simp only[hns]
   repeat' split
   all_goals first|rfl|exact⟨rfl,h⟩
  ·rw[show bC dg c a o full=jk a o by unfold bC;simp[k],show bC dg c b o full=jk b o by unfold bC;simp[k]];have e2:(qw a.r o.level o.aC).2=(qw b.r o.level o.aC).2:=by rw[FG,FG,hv]
   unfold jk;rw[e2];refine⟨rfl,?_⟩;refine h.Mr (fun lv q=>?_) (fun lv n q=>?_) fun lv n m q=>?_
   ·rw[Gk,Gk];exact h.cn lv q
   ·rw[zg,zg,hv,h.vw lv n q]
   ·unfold n9;split
    ·intro j hj;rw[Xd,Xd,h.get hj]
    ·exact h.sn lv n m q
  ·rw[show bC dg c a o full=cN a o by unfold bC;simp[k],show bC dg c b o full=cN b o by unfold bC;simp[k]];have e2:(oy a.r o.level o.aC o.snap).2=(oy b.r o.level o.aC o.snap).2:=by rw[K9,K9,hv]
   unfold cN;rw[e2];split
   ·rfl
   ·refine⟨rfl,?_⟩;refine h.Mr (fun lv q=>?_) (fun lv n q=>?_) fun lv n m q=>?_
    ·rw[E0,E0];exact h.cn lv q
    ·rw[zm,zm,hv,h.vw lv n q]
    ·unfold n9;split
     ·trivial
     ·exact h.sn lv n m q
  ·rw[show bC dg c a o full=eD c a o by unfold bC;simp[k],show bC dg c b o full=eD c b o by unfold bC;simp[k]];unfold eD;split
   ·rfl
   ·exact⟨rfl,h⟩
  ·rw[show bC dg c a o full=dn c a o by unfold bC;simp[k],show bC dg c b o full=dn c b o by unfold bC;simp[k]];unfold dn;by_cases hq:cR c.up o.label o.level=false
   ·rw[if_pos hq,if_pos hq];rfl
   ·rw[if_neg hq,if_neg hq,h.lb o.label (kv hP (by simpa using hq) hD)];exact⟨rfl,h⟩
 ·have e:∀m:bq,bC dg c m o full=ey dg c m o full:=fun m=>by
   unfold bC;rw[if_neg (by omega)];rw[if_neg (by omega)];rw[if_neg (by omega)];rw[if_neg (by omega)];rw[if_neg (by omega)];rw[if_neg (by omega)];rw[if_neg (by omega)];rw[if_neg (by omega)];rw[if_neg (by omega)];rw[if_neg (by omega)];rw[if_neg (by omega)];rw[if_neg (by omega)];rw[if_neg (by omega)];rw[if_neg (by omega)]
  rw[e,e];unfold ey;by_cases hq:¬(cR c.up o.label o.level=true∧cR c.up o.dQ o.level=true∧(⟨o.level,o.label,o.dQ⟩:G)∈c.gr)
  ·rw[if_pos hq,if_pos hq];rfl
  ·rw[if_neg hq,if_neg hq];have hq:=Xp.1 hq;obtain⟨p1,_,_⟩:=(ky hP.le).1 hq.2.1;have hD1:=kv hP hq.1 hD;have hD2:=kv hP hq.2.1 hD;simp only[h.lb _ hD1,h.lb _ hD2];have hput2:∀l',Hd (fun k=>cR c.up k x=true) ⟨a.l.set o.dQ.toNat l',a.r,a.sn⟩ ⟨b.l.set o.dQ.toNat l',b.r,b.sn⟩:=fun l'=>h.Q9 p1.1 (by omega) l'
   repeat' split
   all_goals first|rfl|exact⟨rfl,hput2 _⟩
end Go.Proofs.YtoepfmhnapedoaaGreatDoor
namespace Go.Proofs.YtoepfmhnapedoaaGreatDoor
open Aml Go Rn Lat Grs
theorem BQ{α:Type}(f:List UInt8→Option α):(cL f).Nodup:=by
 unfold cL;split
 ·rename_i h;exact(Y9 _ _).nodup_iff.2 h.choose_spec.1
 ·exact .nil
theorem GX(x:Nat)(key:List UInt8)(f:Option (List UInt8→Option (List UInt8))):(oh x (fun k=>decide (k=key)) f).length≤1:=by
 unfold oh
 cases f with
 |none=>exact Xl _
 |some f=>
  simp only[XJ];have hn:=(BQ f).filter (p:=fun k=>decide (k=key));have hk:∀k,k∈(cL f).filter (fun k=>decide (k=key))→k=key:=fun k hk=>of_decide_eq_true (YA.1 hk).2;generalize (cL f).filter (fun k=>decide (k=key))=L at hn hk
  match L,hn,hk with
  |[],_,_=>exact Xl _
  |[_],_,_=>exact Xa _
  |y::z::L,hn,hk=>
   exfalso
   have e1:=hk y (by simp);have e2:=hk z (by simp);have hn':=(List.pairwise_cons.1 hn).1 z (by simp);exact hn' (e1.trans e2.symm)
theorem Oe{dg:List UInt8→Int}{c:Cf}{μ:bq}{o:bp}{full:Bool}(hn:μ.l.length≤64):∀r μ',bC dg c μ o full= .inr (r,μ')→r.rows.length≤64∧r.om.length≤50:=by
 refine zf (P:=fun out=>∀r μ',out= .inr (r,μ')→r.rows.length≤64∧r.om.length≤50) ?_ ?_ ?_ ?_ ?_ ?_ ?_ ?_ ?_ ?_ ?_ ?_ ?_ ?_ ?_
 ·intro q r μ' he;unfold fu at he;cases he;exact⟨Xl _,Xl _⟩
 ·intro q r μ' he;unfold ej bF at he;simp only at he
  repeat' split at he
  all_goals cases he
  exact⟨Xl _,Xl _⟩
 ·intro q r μ' he;unfold cP bF at he;simp only at he
  repeat' split at he
  all_goals cases he
  exact⟨Xl _,Xl _⟩
 ·intro q r μ' he;unfold bH bF at he;simp only at he
  repeat' split at he
  all_goals cases he
  exact⟨Xl _,Xl _⟩
 ·intro q r μ' he;unfold fh bF at he;simp only at he
  repeat' split at he
  all_goals cases he
  exact⟨Xl _,Xl _⟩
 ·intro q r μ' he;unfold fE bF at he;simp only at he
  repeat' split at he
  all_goals cases he
  exact⟨Xl _,Xl _⟩
 ·intro q r μ' he;unfold jw bF at he;simp only at he
  repeat' split at he
  all_goals cases he
  exact⟨Xl _,Xl _⟩
 ·intro q r μ' he;unfold bZ bF at he;simp only at he
  repeat' split at he
  all_goals cases he
  exact⟨Xl _,Xl _⟩
 ·intro q r μ' he;unfold getM at he
  repeat' split at he
  all_goals first|(cases he;done)|skip
  simp only at he;split at he
  all_goals cases he
  refine⟨?_,Xl _⟩
  have h1:=mW (rows:=bg c μ o (fun k=>decide (k=o.key)) μ.l.length) (n:=1) fun r hr=>by
   unfold bg at hr;obtain⟨x,hx,rfl⟩:=Xk.1 hr;exact GX x o.key _
  have h2:=iB c μ o (fun k=>decide (k=o.key)) μ.l.length
  have h3:(bg c μ o (fun k=>decide (k=o.key)) μ.l.length).flatten.length≤64:=by
   unfold lC at h1;omega
  exact h3
 ·intro q r μ' he;unfold gy at he
  repeat' split at he
  all_goals cases he
  refine⟨?_,Xl _⟩;simp only[Qz,XT];have:(ry o.n).toNat≤50:=by unfold ry;(repeat' split) <;>omega
  omega
 ·intro q r μ' he;unfold jk at he;cases he;exact⟨Xl _,Xl _⟩
 ·intro q r μ' he;unfold cN at he;split at he
  all_goals cases he
  exact⟨Xl _,Xl _⟩
 ·intro q r μ' he;unfold eD at he;split at he
  all_goals cases he
  exact⟨Xl _,Xl _⟩
 ·intro q r μ' he;unfold dn at he;split at he
  all_goals cases he
  refine⟨Xl _,?_⟩;simp only[XT];omega
 ·intro q r μ' he;unfold ey at he;simp only at he
  repeat' split at he
  all_goals cases he
  exact⟨Xl _,Xl _⟩
theorem FF{dg:List UInt8→Int}{c:Cf}{μ:bq}{o:bp}{full:Bool}(hn:μ.l.length≤64):(dF dg c μ o full).1.rows.length≤64∧(dF dg c μ o full).1.om.length≤50:=by
 unfold dF;split
 ·exact⟨Xl _,Xl _⟩
 split
 ·exact⟨Xl _,Xl _⟩
 split
 ·exact⟨Xl _,Xl _⟩
 split
 ·exact⟨Xl _,Xl _⟩
 cases ho:bC dg c μ o full with
 |inl e=>exact⟨Xl _,Xl _⟩
 |inr p=>exact Oe hn p.1 p.2 ho
theorem pa{dg:List UInt8→Int}{c:Cf}{x:Int}{a b:bq}{o:bp}(h:Hd (fun k=>cR c.up k x=true) a b)(hP:kA c.up)(hw:iM a.r)(hnl:a.l.length=c.up.length)(hok:pX a.l.length o=true)(hs:iI c.up o x=false)(hd:o.kind=15→cR c.up o.dQ x=false):Hd (fun k=>cR c.up k x=true) (dF dg c a o false).2 b:=by
 unfold iI at hs;rw[Bool.or_eq_false_iff]at hs;have h16:o.kind≠16:=of_decide_eq_false hs.1;have hD:¬(cR c.up o.level x=true):=by rw[hs.2];simp
 have hok':=of_decide_eq_true hok;have hl:0≤o.level∧o.level<a.l.length:=hok'.2.resolve_left h16;by_cases h0:o.kind=0
 ·rw[tz dg c a false h0 hl.1 hl.2];refine⟨h.len,h.lb,fun lv q=>?_,fun lv n q=>?_,h.sn⟩
  ·show eX (lM a.r o.level).1 lv=_;rw[Al,if_neg (fun e:o.level=lv=>hD (e▸q))];exact h.cn lv q
  ·show fX (lM a.r o.level).1 lv n=_;rw[zo hw,if_neg (fun e:lv=o.level∧n=(eX a.r o.level:Int)+1=>hD (e.1▸q))];exact h.vw lv n q
 by_cases hi:dm a.r o.level o.aC<a.r.length
 ·rw[yc dg c a false (by omega) hl.1 hl.2 hi]
  cases ho:bC dg c a o false with
  |inl e=>exact h
  |inr p=>exact Q8 h hw hl hnl hP.le hD (by omega) (fun q=>by rw[hd (by omega)];simp) p.1 p.2 ho
 ·rw[sB dg c a false (by omega) hl.1 hl.2 hi];exact h
theorem lq{dg:List UInt8→Int}{c:Cf}{x:Int}{a b:bq}{o:bp}(h:Hd (fun k=>cR c.up k x=true) a b)(hP:kA c.up)(hwa:iM a.r)(hwb:iM b.r)(hnl:a.l.length=c.up.length)(hok:pX a.l.length o=true)(hs:iI c.up o x=true):(dF dg c a o false).1=(dF dg c b (df c.up o x) false).1∧Hd (fun k=>cR c.up k x=true) (dF dg c a o false).2 (dF dg c b (df c.up o x) false).2:=by
 have hok':=of_decide_eq_true hok;by_cases h16:o.kind=16
 ·have ht:(df c.up o x).kind=16:=by unfold df;rw[if_pos h16];split <;>exact h16
  rw[uu dg c a false h16,uu dg c b false ht];refine⟨rfl,⟨by rw[EL,EL];exact h.len,fun k hk=>?_,fun _ _=>rfl,fun _ _ _=>rfl,fun _ _ _ _=>trivial⟩⟩;obtain⟨p1,_,_⟩:=(ky hP.le).1 hk;rw[qN p1.1 (by omega),qN p1.1 (by have:=h.len;omega),h.lb k hk]
  have e:(k=o.level∧0<o.aC∧(aO b k).has=o.aC∧True)↔(k=(df c.up o x).level∧0<(df c.up o x).aC∧(aO b k).has=(df c.up o x).aC∧True):=by
   unfold df;rw[if_pos h16];by_cases hl:cR c.up o.level x=true
   ·rw[if_pos hl]
   ·rw[if_neg hl];refine⟨fun q=>absurd (q.1▸hk) hl,fun q=>?_⟩;have:=q.2.1;simp at this
  simp only[e]
 ·have ht:df c.up o x=o:=by unfold df;rw[if_neg h16]
  rw[ht];unfold iI at hs;rw[decide_eq_false h16,YE]at hs;have hl:0≤o.level∧o.level<a.l.length:=hok'.2.resolve_left h16;have hlb:o.level<b.l.length:=by have:=h.len;omega
  by_cases h0:o.kind=0
  ·rw[tz dg c a false h0 hl.1 hl.2,tz dg c b false h0 hl.1 hlb];refine⟨?_,⟨h.len,h.lb,fun lv q=>?_,fun lv n q=>?_,h.sn⟩⟩
   ·show C1 ((eX a.r o.level:Int)+1)=C1 ((eX b.r o.level:Int)+1);rw[h.cn _ hs]
   ·show eX (lM a.r o.level).1 lv=eX (lM b.r o.level).1 lv;rw[Al,Al,h.cn lv q]
   ·show fX (lM a.r o.level).1 lv n=fX (lM b.r o.level).1 lv n;rw[zo hwa,zo hwb,h.vw lv n q,h.cn _ hs]
  have hi:dm a.r o.level o.aC<a.r.length↔dm b.r o.level o.aC<b.r.length:=by rw[zn,zn,h.vw _ _ hs]
  by_cases hia:dm a.r o.level o.aC<a.r.length
  ·rw[yc dg c a false (by omega) hl.1 hl.2 hia,yc dg c b false (by omega) hl.1 hlb (hi.1 hia)];have hq:=Km (dg:=dg) (full:=false) h hP hwa hwb hl hnl hs
   cases h1:bC dg c a o false with
   |inl e=>
    cases h2:bC dg c b o false with
    |inl e'=>rw[h1,h2]at hq;exact⟨congrArg kU hq,h⟩
    |inr p=>rw[h1,h2]at hq;exact hq.elim
   |inr p=>
    cases h2:bC dg c b o false with
    |inl e'=>rw[h1,h2]at hq;exact hq.elim
    |inr p'=>rw[h1,h2]at hq;exact hq
  ·rw[sB dg c a false (by omega) hl.1 hl.2 hia,sB dg c b false (by omega) hl.1 hlb (fun q=>hia (hi.2 q))];exact⟨rfl,h⟩
end Go.Proofs.YtoepfmhnapedoaaGreatDoor
namespace Go.Proofs.YtoepfmhnapedoaaGreatDoor
open Aml Go Rn Lat Grs
structure uj(T:St)(ga gb:MG)(N:Nat)(c:Cf)(a b:bq):Prop where
 Ia:MI T ga N c a
 Ib:MI T gb N c b
 Ma:iN N c a
 Mb:iN N c b
 db:∀i,i∈ga.bx→i∉gb.bx
 da:∀i,ga.own i≠ .no→gb.own i= .no
section
variable {T T':St} {ga gb g':MG} {N:Nat} {c:Cf} {a b a':bq}
theorem uj.symm(h:uj T ga gb N c a b):uj T gb ga N c b a:=⟨h.Ib,h.Ia,h.Mb,h.Ma,fun i q r=>h.db i r q,fun i q=>XP fun r=>q (h.da i r)⟩
theorem uj.step(h:uj T ga gb N c a b)(hI:MI T' g' (N+1) c a')(hM:iN (N+1) c a')(hF:gF T T' ga g'):uj T' g' gb (N+1) c a' b:=
 ⟨hI,h.Ib.to (XA N) (fun i v q r=>hF.box i v (fun e=>h.db i e q) r) (fun i v q r=>hF.acc i v (XP fun e=>q (h.da i e)) r),hM,h.Mb.le (XA N),
  fun i q r=>(hF.nb i q).elim (fun e=>h.db i e r) fun e=>h.Ib.lL r e,fun i q=>(hF.na i q).elim (h.da i) fun e=>XP fun r=>h.Ib.lx i r e⟩
theorem uj.has(h:uj T ga gb N c a b)(k:Has T T'):uj T' ga gb N c a b:=⟨h.Ia.has k,h.Ib.has k,h.Ma,h.Mb,h.db,h.da⟩
theorem uj.le{M:Nat}(h:uj T ga gb N c a b)(k:N≤M):uj T ga gb M c a b:=⟨h.Ia.le k,h.Ib.le k,h.Ma.le k,h.Mb.le k,h.db,h.da⟩
theorem uj.new(h:MI T ga N c a)(hM:iN N c a)(hA:ug T T' gb)(hI:MI T' gb N c b)(hMb:iN N c b):uj T' ga gb N c a b:=
 ⟨h.has hA.out,hI,hM,hMb,fun i q=>by
  obtain⟨v,hv⟩:=aZ (h.lL q);exact(hA.box i v hv).no,fun i q=>by
  obtain⟨v,hv⟩:=aZ (h.lx i q);exact(hA.acc i v hv).no⟩
theorem uj.out(h:uj T ga gb N c a b)(n:FN T.box)(v:List DV):jn ⟨(n.n,v)::T.box,T.acc⟩ ga n.n v∧jn ⟨(n.n,v)::T.box,T.acc⟩ gb n.n v:=⟨h.Ia.DE n v,h.Ib.DE n v⟩
end
theorem jn.two{T T':St}{ga gb g':MG}{i:Nat}{v:List DV}(h:jn T ga i v)(k:jn T gb i v)(hF:gF T T' ga g'):jn T' g' i v∧jn T' gb i v:=⟨h.fr hF,(h.fr hF).at_,k.no⟩
@[go_sem] def Jb (r:C3):List DV:=[dI r.e,dI r.n,.sl 3 false (r.rows.map qT),dI 0,dI 0,dI 0,dI 0,.sl 6 false (r.om.map sx)]
structure T8(ma mb ll:Nat)(c:Cf)(x:Int)(bc:Nat)(s:Nat×St×MG×MG×bq×bq):Prop where
 le:s.1≤ll
 ma:s.2.2.1.m=ma
 mb:s.2.2.2.1.m=mb
 W:uj s.2.1 s.2.2.1 s.2.2.2.1 (2*s.1) c s.2.2.2.2.1 s.2.2.2.2.2
 A:jn s.2.1 s.2.2.1 bc [.sl 1 false (aA c.nm),ec c.up,lN c.qu,jN c.gr]
 B:jn s.2.1 s.2.2.2.1 bc [.sl 1 false (aA c.nm),ec c.up,lN c.qu,jN c.gr]
 H:Hd (fun k=>cR c.up k x=true) s.2.2.2.2.1 s.2.2.2.2.2
theorem Mo{w0:W0}(hgT:ib w0)(hk:KU w0)(hgO:nW w0)(hgC:kW w0)(c:Cf)(hc:Bm c)(l:List bp)(level:Int)(hl:l.length≤1048576)(hv:0≤level∧level≤255)(S:St):aa Tryz.prog w0 4 [QU c,I9 l,.v (.int .u8 level)] S (fun d S'=>d=dB true):=by
 have hgr:=hc.RN;have hu:=hc.Bj;refine kj [] mx Tryz.func4 rfl rfl (by kernel_rfl) ?_;simp(maxDischargeDepth:=12) (maxSteps:=1000000) -implicitDefEqProofs only[Tryz.ntmps4,go_sem,Nat.reduceAdd,Nat.reduceSub,Nat.reduceMul,Nat.reduceLeDiff,Nat.reduceEqDiff,Nat.reduceGT,Nat.reduceBEq,reduceCtorEq,↓reduceIte,Int.reduceToNat,Int.reduceLE,Int.reduceLT,Int.reduceNe,Int.reduceEq];intro b;refine an (Ot hgT hk hgO hgC _) ?_;rintro _ T ⟨rfl,hT⟩;have hbx:=hT.box b.n _ (jv _ _ _);simp(maxDischargeDepth:=12) (maxSteps:=1000000) -implicitDefEqProofs only[go_sem,Nat.reduceAdd,Nat.reduceSub,Nat.reduceMul,Nat.reduceLeDiff,Nat.reduceEqDiff,Nat.reduceGT,Nat.reduceBEq,reduceCtorEq,↓reduceIte,Int.reduceToNat,Int.reduceLE,Int.reduceLT,Int.reduceNe,Int.reduceEq,hbx];refine ao (NP w0 l (by omega) _) ?_;simp(maxDischargeDepth:=12) (maxSteps:=1000000) -implicitDefEqProofs only[go_sem,Nat.reduceAdd,Nat.reduceSub,Nat.reduceMul,Nat.reduceLeDiff,Nat.reduceEqDiff,Nat.reduceGT,Nat.reduceBEq,reduceCtorEq,↓reduceIte,Int.reduceToNat,Int.reduceLE,Int.reduceLT,Int.reduceNe,Int.reduceEq,hbx];refine ao (MN _ c hc _) ?_;simp(maxDischargeDepth:=12) (maxSteps:=1000000) -implicitDefEqProofs only[go_sem,Nat.reduceAdd,Nat.reduceSub,Nat.reduceMul,Nat.reduceLeDiff,Nat.reduceEqDiff,Nat.reduceGT,Nat.reduceBEq,reduceCtorEq,↓reduceIte,Int.reduceToNat,Int.reduceLE,Int.reduceLT,Int.reduceNe,Int.reduceEq,hbx];intro hsm hcp hup;have hsm:=Xp.1 hsm;have hP:=Xp.1 hcp;have hl120:=hsm.2;have hpos:=hP.GG.pos;have hcv:IntKind.i64.wrap level=level:=oD (by omega) (by omega);refine⟨by omega,?_⟩;have hx0:(0:Int)≤Int.tmod (IntKind.i64.wrap level) (c.up.length:Int):=by rw[hcv];exact Int.tmod_nonneg _ (by omega)
 have hx1:Int.tmod (IntKind.i64.wrap level) (c.up.length:Int)<c.up.length:=Int.tmod_lt_of_pos _ (by omega);generalize Int.tmod (IntKind.i64.wrap level) (c.up.length:Int)=x at hx0 hx1 ⊢;refine an (M3 hgT hk c hc _) ?_;rintro _ T0 (⟨h,_⟩|⟨_,g0,rfl,hI0,k1,k2,k3,k4⟩)
 ·exact absurd hP h
 have hM0:iN 0 c (vI c.up.length):=PK hP (by omega);have hA0:ug T T0 g0:= .new k1 k2 k3 k4;have hB0:=hA0.box _ _ hbx;have hbx0:=hB0.at_;simp(maxDischargeDepth:=12) (maxSteps:=1000000) -implicitDefEqProofs only[go_sem,Nat.reduceAdd,Nat.reduceSub,Nat.reduceMul,Nat.reduceLeDiff,Nat.reduceEqDiff,Nat.reduceGT,Nat.reduceBEq,reduceCtorEq,↓reduceIte,Int.reduceToNat,Int.reduceLE,Int.reduceLT,Int.reduceNe,Int.reduceEq,hbx0];refine an (M3 hgT hk c hc _) ?_;rintro _ T1 (⟨h,_⟩|⟨_,g1,rfl,hI1,v1,v2,v3,v4⟩)
 ·exact absurd hP h
 have hA1:ug T0 T1 g1:= .new v1 v2 v3 v4;have hW:uj T1 g0 g1 (2*0) c (vI c.up.length) (vI c.up.length):= .new hI0 hM0 hA1 hI1 hM0;have hB1:=hA1.box _ _ hbx0;have hC1:jn T1 g0 b.n _:=hB0.has hA1.out;simp(maxDischargeDepth:=12) (maxSteps:=1000000) -implicitDefEqProofs only[go_sem,Nat.reduceAdd,Nat.reduceSub,Nat.reduceMul,Nat.reduceLeDiff,Nat.reduceEqDiff,Nat.reduceGT,Nat.reduceBEq,reduceCtorEq,↓reduceIte,Int.reduceToNat,Int.reduceLE,Int.reduceLT,Int.reduceNe,Int.reduceEq];refine fc [] [1,3,10,11,13,15] (σ:=Nat×St×MG×MG×bq×bq) (fun s=>[(1,I9 l),(3,.v (.pointer (some ⟨b.n,0,none⟩))),(10,dI x),(11,bz g0.m),(13,bz g1.m),(15,dI s.1)]) (fun s=>s.2.1) (T8 g0.m g1.m l.length c x b.n) (fun s=>l.length-s.1) (0,T1,g0,g1,vI c.up.length,vI c.up.length) mx (by kernel_rfl) ⟨⟨Xl _,rfl,rfl,hW,hC1,hB1,.refl _ _⟩,?_⟩ ?_
 ·simp(maxDischargeDepth:=12) (maxSteps:=1000000) -implicitDefEqProofs only[go_sem,Nat.reduceAdd,Nat.reduceSub,Nat.reduceMul,Nat.reduceLeDiff,Nat.reduceEqDiff,Nat.reduceGT,Nat.reduceBEq,reduceCtorEq,↓reduceIte,Int.reduceToNat,Int.reduceLE,Int.reduceLT,Int.reduceNe,Int.reduceEq]
 rintro⟨i,T2,ga,gb,μa,μb⟩ ⟨hi,hma,hmb,hW,hCa,hCb,hH⟩;simp only at hi hma hmb hW hCa hCb hH;have e1:IntKind.i64.wrap ((i:Int)+1)=((i+1:Nat):Int):=aI (by omega);have hnla:=hW.Ma.nl;have hnlb:=hW.Mb.nl;have hbx2:=hCa.at_;by_cases hil:i<l.length
 ·have hx:l[i]? =some l[i]:=W5 hil;have hmem:l[i]∈l:=List.getElem_mem _;generalize l[i]=o at hx hmem;simp(maxDischargeDepth:=12) (maxSteps:=1000000) -implicitDefEqProofs only[go_sem,Nat.reduceAdd,Nat.reduceSub,Nat.reduceMul,Nat.reduceLeDiff,Nat.reduceEqDiff,Nat.reduceGT,Nat.reduceBEq,reduceCtorEq,↓reduceIte,Int.reduceToNat,Int.reduceLE,Int.reduceLT,Int.reduceNe,Int.reduceEq,hx,e1];refine⟨fun _=>⟨hil,fun bo=>?_⟩,fun h=>absurd hil h⟩;have hbo:=iL bo o.ds;have f1:=aw bo b.n (by rw[hbx2];rfl)
  try simp(maxDischargeDepth:=12) (maxSteps:=1000000) -implicitDefEqProofs only[go_sem,Nat.reduceAdd,Nat.reduceSub,Nat.reduceMul,Nat.reduceLeDiff,Nat.reduceEqDiff,Nat.reduceGT,Nat.reduceBEq,reduceCtorEq,↓reduceIte,Int.reduceToNat,Int.reduceLE,Int.reduceLT,Int.reduceNe,Int.reduceEq,f1,hbx2]
  refine ao (Ka _ (c.up.length:Int) o _) ?_
  have skip:∃s':Nat×St×MG×MG×bq×bq,T8 g0.m g1.m l.length c x b.n s'∧l.length-s'.1<l.length-i∧i+1=s'.1∧Aml.Sub s'.2.1 ⟨(bo.n,o.ds)::T2.box,T2.acc⟩:=
   ⟨(i+1,T2,ga,gb,μa,μb),⟨hil,hma,hmb,hW.le (by show _≤2*(i+1);omega),hCa,hCb,hH⟩,by show l.length-(i+1)<l.length-i;omega,rfl,by simp(maxDischargeDepth:=12) (maxSteps:=1000000) -implicitDefEqProofs only[go_sem,Nat.reduceAdd,Nat.reduceSub,Nat.reduceMul,Nat.reduceLeDiff,Nat.reduceEqDiff,Nat.reduceGT,Nat.reduceBEq,reduceCtorEq,↓reduceIte,Int.reduceToNat,Int.reduceLE,Int.reduceLT,Int.reduceNe,Int.reduceEq]⟩
  have hX:=hW.has hbo;have oo:=hW.out bo o.ds
  cases hok:pX (c.up.length:Int) o with
  |false=>
   simp(maxDischargeDepth:=12) (maxSteps:=1000000) -implicitDefEqProofs only[go_sem,Nat.reduceAdd,Nat.reduceSub,Nat.reduceMul,Nat.reduceLeDiff,Nat.reduceEqDiff,Nat.reduceGT,Nat.reduceBEq,reduceCtorEq,↓reduceIte,Int.reduceToNat,Int.reduceLE,Int.reduceLT,Int.reduceNe,Int.reduceEq,f1,hbx2,e1];exact skip
  |true=>
  by_cases h15:o.kind=15
  ·have e15:(o.kind=15)=True:=eq_true h15;simp(maxDischargeDepth:=12) (maxSteps:=1000000) -implicitDefEqProofs only[go_sem,Nat.reduceAdd,Nat.reduceSub,Nat.reduceMul,Nat.reduceLeDiff,Nat.reduceEqDiff,Nat.reduceGT,Nat.reduceBEq,reduceCtorEq,↓reduceIte,Int.reduceToNat,Int.reduceLE,Int.reduceLT,Int.reduceNe,Int.reduceEq,f1,hbx2,e15];refine ao (zw _ c.up hu o x _) ?_
   cases hse:iI c.up o x with
   |true=>
    have hd:iI c.up o x=false→o.kind=15→cR c.up o.dQ x=false:=fun q=>by rw[hse]at q;cases q
    simp(maxDischargeDepth:=12) (maxSteps:=1000000) -implicitDefEqProofs only[go_sem,Nat.reduceAdd,Nat.reduceSub,Nat.reduceMul,Nat.reduceLeDiff,Nat.reduceEqDiff,Nat.reduceGT,Nat.reduceBEq,reduceCtorEq,↓reduceIte,Int.reduceToNat,Int.reduceLE,Int.reduceLT,Int.reduceNe,Int.reduceEq,f1,hbx2,e15];rw[←hma];refine an (Nh (o:=o) (full:=false) hgO hgC hX.Ia hX.Ma hgr (by omega)) ?_;rintro _ T3 ⟨rfl,ga',j1,j2⟩;have hY:=hX.step j1 (ju hX.Ma) j2;obtain⟨oa,ob⟩:=oo.1.two oo.2 j2;obtain⟨ca,cb⟩:=(hCa.has hbo).two (hCb.has hbo) j2;have hz:=hW.Ma.n;have hsz:=FF (dg:=eH) (c:=c) (o:=o) (full:=false) hz;have y1:=oa.at_;have y2:=ca.at_;simp(maxDischargeDepth:=12) (maxSteps:=1000000) -implicitDefEqProofs only[go_sem,Nat.reduceAdd,Nat.reduceSub,Nat.reduceMul,Nat.reduceLeDiff,Nat.reduceEqDiff,Nat.reduceGT,Nat.reduceBEq,reduceCtorEq,↓reduceIte,Int.reduceToNat,Int.reduceLE,Int.reduceLT,Int.reduceNe,Int.reduceEq,y1,y2];intro br;have g1:=aw br bo.n (by rw[y1];rfl);have g2:=aw br b.n (by rw[y2];rfl);obtain⟨ra,rb⟩:=hY.out br (Jb (dF eH c μa o false).1);have hbr:=iL br (Jb (dF eH c μa o false).1);have hY:=hY.has hbr;have oa:=oa.has hbr;have ob:=ob.has hbr;have ca:=ca.has hbr;have cb:=cb.has hbr
    try simp(maxDischargeDepth:=12) (maxSteps:=1000000) -implicitDefEqProofs only[go_sem,Nat.reduceAdd,Nat.reduceSub,Nat.reduceMul,Nat.reduceLeDiff,Nat.reduceEqDiff,Nat.reduceGT,Nat.reduceBEq,reduceCtorEq,↓reduceIte,Int.reduceToNat,Int.reduceLE,Int.reduceLT,Int.reduceNe,Int.reduceEq,g1,g2,y1,y2]
    refine ao (zw _ c.up hu o x _) ?_
    cases hs2:iI c.up o x with
    |false=>
     simp(maxDischargeDepth:=12) (maxSteps:=1000000) -implicitDefEqProofs only[go_sem,Nat.reduceAdd,Nat.reduceSub,Nat.reduceMul,Nat.reduceLeDiff,Nat.reduceEqDiff,Nat.reduceGT,Nat.reduceBEq,reduceCtorEq,↓reduceIte,Int.reduceToNat,Int.reduceLE,Int.reduceLT,Int.reduceNe,Int.reduceEq,e1];exact⟨(i+1,_,ga',gb,_,μb),⟨hil,j2.m,hmb,hY.le (by show _≤2*(i+1);omega),ca,cb,pa hH hP.GG hW.Ma.uW hnla (by rw[hnla];exact hok) hs2 (hd hs2)⟩,by show l.length-(i+1)<l.length-i;omega,rfl,.refl _⟩
    |true=>
     have hHn:=lq (dg:=eH) hH hP.GG hW.Ma.uW hW.Mb.uW hnla (by rw[hnla];exact hok) hs2;simp(maxDischargeDepth:=12) (maxSteps:=1000000) -implicitDefEqProofs only[go_sem,Nat.reduceAdd,Nat.reduceSub,Nat.reduceMul,Nat.reduceLeDiff,Nat.reduceEqDiff,Nat.reduceGT,Nat.reduceBEq,reduceCtorEq,↓reduceIte,Int.reduceToNat,Int.reduceLE,Int.reduceLT,Int.reduceNe,Int.reduceEq,g1,g2,y1,y2];refine ao (Gm _ c.up hu o (by have:=(hsm.1 o hmem).2.2.2;omega) x _) ?_;simp(maxDischargeDepth:=12) (maxSteps:=1000000) -implicitDefEqProofs only[go_sem,Nat.reduceAdd,Nat.reduceSub,Nat.reduceMul,Nat.reduceLeDiff,Nat.reduceEqDiff,Nat.reduceGT,Nat.reduceBEq,reduceCtorEq,↓reduceIte,Int.reduceToNat,Int.reduceLE,Int.reduceLT,Int.reduceNe,Int.reduceEq];rw[←hmb];refine an (Nh (o:=df c.up o x) (full:=false) hgO hgC hY.Ib hY.Mb hgr (by omega)) ?_;rintro _ T4 ⟨rfl,gb',r1,r2⟩;have hZ:=(hY.symm.step r1 (ju hY.Mb) r2).symm;obtain⟨cb,ca⟩:=cb.two ca r2;obtain⟨rb,ra⟩:=rb.two ra r2;have y3:=ra.at_;simp(maxDischargeDepth:=12) (maxSteps:=1000000) -implicitDefEqProofs only[go_sem,Nat.reduceAdd,Nat.reduceSub,Nat.reduceMul,Nat.reduceLeDiff,Nat.reduceEqDiff,Nat.reduceGT,Nat.reduceBEq,reduceCtorEq,↓reduceIte,Int.reduceToNat,Int.reduceLE,Int.reduceLT,Int.reduceNe,Int.reduceEq,y3];intro bs;have g3:=aw bs br.n (by rw[y3];rfl);have hbs:=iL bs (Jb (dF eH c μb (df c.up o x) false).1)
     try simp(maxDischargeDepth:=12) (maxSteps:=1000000) -implicitDefEqProofs only[go_sem,Nat.reduceAdd,Nat.reduceSub,Nat.reduceMul,Nat.reduceLeDiff,Nat.reduceEqDiff,Nat.reduceGT,Nat.reduceBEq,reduceCtorEq,↓reduceIte,Int.reduceToNat,Int.reduceLE,Int.reduceLT,Int.reduceNe,Int.reduceEq,g3,y3]
     refine ao (yq w0 (dF eH c μa o false).1 (dF eH c μb (df c.up o x) false).1 (by omega) (by omega) _) ?_;rw[dj hHn.1];simp(maxDischargeDepth:=12) (maxSteps:=1000000) -implicitDefEqProofs only[go_sem,Nat.reduceAdd,Nat.reduceSub,Nat.reduceMul,Nat.reduceLeDiff,Nat.reduceEqDiff,Nat.reduceGT,Nat.reduceBEq,reduceCtorEq,↓reduceIte,Int.reduceToNat,Int.reduceLE,Int.reduceLT,Int.reduceNe,Int.reduceEq,e1];exact⟨(i+1,_,ga',gb',_,_),⟨hil,j2.m,r2.m,(hZ.has hbs).le (by show _≤2*(i+1);omega),ca.has hbs,cb.has hbs,hHn.2⟩,by show l.length-(i+1)<l.length-i;omega,rfl,.refl _⟩
   |false=>
    simp(maxDischargeDepth:=12) (maxSteps:=1000000) -implicitDefEqProofs only[go_sem,Nat.reduceAdd,Nat.reduceSub,Nat.reduceMul,Nat.reduceLeDiff,Nat.reduceEqDiff,Nat.reduceGT,Nat.reduceBEq,reduceCtorEq,↓reduceIte,Int.reduceToNat,Int.reduceLE,Int.reduceLT,Int.reduceNe,Int.reduceEq,f1,hbx2,e15];refine ao (l5 _ c.up hu o.dQ x _) ?_
    cases hle:cR c.up o.dQ x with
    |true=>
     simp(maxDischargeDepth:=12) (maxSteps:=1000000) -implicitDefEqProofs only[go_sem,Nat.reduceAdd,Nat.reduceSub,Nat.reduceMul,Nat.reduceLeDiff,Nat.reduceEqDiff,Nat.reduceGT,Nat.reduceBEq,reduceCtorEq,↓reduceIte,Int.reduceToNat,Int.reduceLE,Int.reduceLT,Int.reduceNe,Int.reduceEq,f1,hbx2,e15,e1];exact skip
    |false=>
     have hd:iI c.up o x=false→o.kind=15→cR c.up o.dQ x=false:=fun _ _=>hle;simp(maxDischargeDepth:=12) (maxSteps:=1000000) -implicitDefEqProofs only[go_sem,Nat.reduceAdd,Nat.reduceSub,Nat.reduceMul,Nat.reduceLeDiff,Nat.reduceEqDiff,Nat.reduceGT,Nat.reduceBEq,reduceCtorEq,↓reduceIte,Int.reduceToNat,Int.reduceLE,Int.reduceLT,Int.reduceNe,Int.reduceEq,f1,hbx2,e15];rw[←hma];refine an (Nh (o:=o) (full:=false) hgO hgC hX.Ia hX.Ma hgr (by omega)) ?_;rintro _ T3 ⟨rfl,ga',j1,j2⟩;have hY:=hX.step j1 (ju hX.Ma) j2;obtain⟨oa,ob⟩:=oo.1.two oo.2 j2;obtain⟨ca,cb⟩:=(hCa.has hbo).two (hCb.has hbo) j2;have hz:=hW.Ma.n;have hsz:=FF (dg:=eH) (c:=c) (o:=o) (full:=false) hz;have y1:=oa.at_;have y2:=ca.at_;simp(maxDischargeDepth:=12) (maxSteps:=1000000) -implicitDefEqProofs only[go_sem,Nat.reduceAdd,Nat.reduceSub,Nat.reduceMul,Nat.reduceLeDiff,Nat.reduceEqDiff,Nat.reduceGT,Nat.reduceBEq,reduceCtorEq,↓reduceIte,Int.reduceToNat,Int.reduceLE,Int.reduceLT,Int.reduceNe,Int.reduceEq,y1,y2];intro br;have g1:=aw br bo.n (by rw[y1];rfl);have g2:=aw br b.n (by rw[y2];rfl);obtain⟨ra,rb⟩:=hY.out br (Jb (dF eH c μa o false).1);have hbr:=iL br (Jb (dF eH c μa o false).1);have hY:=hY.has hbr;have oa:=oa.has hbr;have ob:=ob.has hbr;have ca:=ca.has hbr;have cb:=cb.has hbr
     try simp(maxDischargeDepth:=12) (maxSteps:=1000000) -implicitDefEqProofs only[go_sem,Nat.reduceAdd,Nat.reduceSub,Nat.reduceMul,Nat.reduceLeDiff,Nat.reduceEqDiff,Nat.reduceGT,Nat.reduceBEq,reduceCtorEq,↓reduceIte,Int.reduceToNat,Int.reduceLE,Int.reduceLT,Int.reduceNe,Int.reduceEq,g1,g2,y1,y2]
     refine ao (zw _ c.up hu o x _) ?_
     cases hs2:iI c.up o x with
     |false=>
      simp(maxDischargeDepth:=12) (maxSteps:=1000000) -implicitDefEqProofs only[go_sem,Nat.reduceAdd,Nat.reduceSub,Nat.reduceMul,Nat.reduceLeDiff,Nat.reduceEqDiff,Nat.reduceGT,Nat.reduceBEq,reduceCtorEq,↓reduceIte,Int.reduceToNat,Int.reduceLE,Int.reduceLT,Int.reduceNe,Int.reduceEq,e1];exact⟨(i+1,_,ga',gb,_,μb),⟨hil,j2.m,hmb,hY.le (by show _≤2*(i+1);omega),ca,cb,pa hH hP.GG hW.Ma.uW hnla (by rw[hnla];exact hok) hs2 (hd hs2)⟩,by show l.length-(i+1)<l.length-i;omega,rfl,.refl _⟩
     |true=>
      have hHn:=lq (dg:=eH) hH hP.GG hW.Ma.uW hW.Mb.uW hnla (by rw[hnla];exact hok) hs2;simp(maxDischargeDepth:=12) (maxSteps:=1000000) -implicitDefEqProofs only[go_sem,Nat.reduceAdd,Nat.reduceSub,Nat.reduceMul,Nat.reduceLeDiff,Nat.reduceEqDiff,Nat.reduceGT,Nat.reduceBEq,reduceCtorEq,↓reduceIte,Int.reduceToNat,Int.reduceLE,Int.reduceLT,Int.reduceNe,Int.reduceEq,g1,g2,y1,y2];refine ao (Gm _ c.up hu o (by have:=(hsm.1 o hmem).2.2.2;omega) x _) ?_;simp(maxDischargeDepth:=12) (maxSteps:=1000000) -implicitDefEqProofs only[go_sem,Nat.reduceAdd,Nat.reduceSub,Nat.reduceMul,Nat.reduceLeDiff,Nat.reduceEqDiff,Nat.reduceGT,Nat.reduceBEq,reduceCtorEq,↓reduceIte,Int.reduceToNat,Int.reduceLE,Int.reduceLT,Int.reduceNe,Int.reduceEq];rw[←hmb];refine an (Nh (o:=df c.up o x) (full:=false) hgO hgC hY.Ib hY.Mb hgr (by omega)) ?_;rintro _ T4 ⟨rfl,gb',r1,r2⟩;have hZ:=(hY.symm.step r1 (ju hY.Mb) r2).symm;obtain⟨cb,ca⟩:=cb.two ca r2;obtain⟨rb,ra⟩:=rb.two ra r2;have y3:=ra.at_;simp(maxDischargeDepth:=12) (maxSteps:=1000000) -implicitDefEqProofs only[go_sem,Nat.reduceAdd,Nat.reduceSub,Nat.reduceMul,Nat.reduceLeDiff,Nat.reduceEqDiff,Nat.reduceGT,Nat.reduceBEq,reduceCtorEq,↓reduceIte,Int.reduceToNat,Int.reduceLE,Int.reduceLT,Int.reduceNe,Int.reduceEq,y3];intro bs;have g3:=aw bs br.n (by rw[y3];rfl);have hbs:=iL bs (Jb (dF eH c μb (df c.up o x) false).1)
      try simp(maxDischargeDepth:=12) (maxSteps:=1000000) -implicitDefEqProofs only[go_sem,Nat.reduceAdd,Nat.reduceSub,Nat.reduceMul,Nat.reduceLeDiff,Nat.reduceEqDiff,Nat.reduceGT,Nat.reduceBEq,reduceCtorEq,↓reduceIte,Int.reduceToNat,Int.reduceLE,Int.reduceLT,Int.reduceNe,Int.reduceEq,g3,y3]
      refine ao (yq w0 (dF eH c μa o false).1 (dF eH c μb (df c.up o x) false).1 (by omega) (by omega) _) ?_;rw[dj hHn.1];simp(maxDischargeDepth:=12) (maxSteps:=1000000) -implicitDefEqProofs only[go_sem,Nat.reduceAdd,Nat.reduceSub,Nat.reduceMul,Nat.reduceLeDiff,Nat.reduceEqDiff,Nat.reduceGT,Nat.reduceBEq,reduceCtorEq,↓reduceIte,Int.reduceToNat,Int.reduceLE,Int.reduceLT,Int.reduceNe,Int.reduceEq,e1];exact⟨(i+1,_,ga',gb',_,_),⟨hil,j2.m,r2.m,(hZ.has hbs).le (by show _≤2*(i+1);omega),ca.has hbs,cb.has hbs,hHn.2⟩,by show l.length-(i+1)<l.length-i;omega,rfl,.refl _⟩
  ·have e15:(o.kind=15)=False:=eq_false h15;have hd:iI c.up o x=false→o.kind=15→cR c.up o.dQ x=false:=fun _ q=>absurd q h15;simp(maxDischargeDepth:=12) (maxSteps:=1000000) -implicitDefEqProofs only[go_sem,Nat.reduceAdd,Nat.reduceSub,Nat.reduceMul,Nat.reduceLeDiff,Nat.reduceEqDiff,Nat.reduceGT,Nat.reduceBEq,reduceCtorEq,↓reduceIte,Int.reduceToNat,Int.reduceLE,Int.reduceLT,Int.reduceNe,Int.reduceEq,f1,hbx2,e15];rw[←hma];refine an (Nh (o:=o) (full:=false) hgO hgC hX.Ia hX.Ma hgr (by omega)) ?_;rintro _ T3 ⟨rfl,ga',j1,j2⟩;have hY:=hX.step j1 (ju hX.Ma) j2;obtain⟨oa,ob⟩:=oo.1.two oo.2 j2;obtain⟨ca,cb⟩:=(hCa.has hbo).two (hCb.has hbo) j2;have hz:=hW.Ma.n;have hsz:=FF (dg:=eH) (c:=c) (o:=o) (full:=false) hz;have y1:=oa.at_;have y2:=ca.at_;simp(maxDischargeDepth:=12) (maxSteps:=1000000) -implicitDefEqProofs only[go_sem,Nat.reduceAdd,Nat.reduceSub,Nat.reduceMul,Nat.reduceLeDiff,Nat.reduceEqDiff,Nat.reduceGT,Nat.reduceBEq,reduceCtorEq,↓reduceIte,Int.reduceToNat,Int.reduceLE,Int.reduceLT,Int.reduceNe,Int.reduceEq,y1,y2];intro br;have g1:=aw br bo.n (by rw[y1];rfl);have g2:=aw br b.n (by rw[y2];rfl);obtain⟨ra,rb⟩:=hY.out br (Jb (dF eH c μa o false).1);have hbr:=iL br (Jb (dF eH c μa o false).1);have hY:=hY.has hbr;have oa:=oa.has hbr;have ob:=ob.has hbr;have ca:=ca.has hbr;have cb:=cb.has hbr
   try simp(maxDischargeDepth:=12) (maxSteps:=1000000) -implicitDefEqProofs only[go_sem,Nat.reduceAdd,Nat.reduceSub,Nat.reduceMul,Nat.reduceLeDiff,Nat.reduceEqDiff,Nat.reduceGT,Nat.reduceBEq,reduceCtorEq,↓reduceIte,Int.reduceToNat,Int.reduceLE,Int.reduceLT,Int.reduceNe,Int.reduceEq,g1,g2,y1,y2]
   refine ao (zw _ c.up hu o x _) ?_
   cases hs2:iI c.up o x with
   |false=>
    simp(maxDischargeDepth:=12) (maxSteps:=1000000) -implicitDefEqProofs only[go_sem,Nat.reduceAdd,Nat.reduceSub,Nat.reduceMul,Nat.reduceLeDiff,Nat.reduceEqDiff,Nat.reduceGT,Nat.reduceBEq,reduceCtorEq,↓reduceIte,Int.reduceToNat,Int.reduceLE,Int.reduceLT,Int.reduceNe,Int.reduceEq,e1];exact⟨(i+1,_,ga',gb,_,μb),⟨hil,j2.m,hmb,hY.le (by show _≤2*(i+1);omega),ca,cb,pa hH hP.GG hW.Ma.uW hnla (by rw[hnla];exact hok) hs2 (hd hs2)⟩,by show l.length-(i+1)<l.length-i;omega,rfl,.refl _⟩
   |true=>
    have hHn:=lq (dg:=eH) hH hP.GG hW.Ma.uW hW.Mb.uW hnla (by rw[hnla];exact hok) hs2;simp(maxDischargeDepth:=12) (maxSteps:=1000000) -implicitDefEqProofs only[go_sem,Nat.reduceAdd,Nat.reduceSub,Nat.reduceMul,Nat.reduceLeDiff,Nat.reduceEqDiff,Nat.reduceGT,Nat.reduceBEq,reduceCtorEq,↓reduceIte,Int.reduceToNat,Int.reduceLE,Int.reduceLT,Int.reduceNe,Int.reduceEq,g1,g2,y1,y2];refine ao (Gm _ c.up hu o (by have:=(hsm.1 o hmem).2.2.2;omega) x _) ?_;simp(maxDischargeDepth:=12) (maxSteps:=1000000) -implicitDefEqProofs only[go_sem,Nat.reduceAdd,Nat.reduceSub,Nat.reduceMul,Nat.reduceLeDiff,Nat.reduceEqDiff,Nat.reduceGT,Nat.reduceBEq,reduceCtorEq,↓reduceIte,Int.reduceToNat,Int.reduceLE,Int.reduceLT,Int.reduceNe,Int.reduceEq];rw[←hmb];refine an (Nh (o:=df c.up o x) (full:=false) hgO hgC hY.Ib hY.Mb hgr (by omega)) ?_;rintro _ T4 ⟨rfl,gb',r1,r2⟩;have hZ:=(hY.symm.step r1 (ju hY.Mb) r2).symm;obtain⟨cb,ca⟩:=cb.two ca r2;obtain⟨rb,ra⟩:=rb.two ra r2;have y3:=ra.at_;simp(maxDischargeDepth:=12) (maxSteps:=1000000) -implicitDefEqProofs only[go_sem,Nat.reduceAdd,Nat.reduceSub,Nat.reduceMul,Nat.reduceLeDiff,Nat.reduceEqDiff,Nat.reduceGT,Nat.reduceBEq,reduceCtorEq,↓reduceIte,Int.reduceToNat,Int.reduceLE,Int.reduceLT,Int.reduceNe,Int.reduceEq,y3];intro bs;have g3:=aw bs br.n (by rw[y3];rfl);have hbs:=iL bs (Jb (dF eH c μb (df c.up o x) false).1)
    try simp(maxDischargeDepth:=12) (maxSteps:=1000000) -implicitDefEqProofs only[go_sem,Nat.reduceAdd,Nat.reduceSub,Nat.reduceMul,Nat.reduceLeDiff,Nat.reduceEqDiff,Nat.reduceGT,Nat.reduceBEq,reduceCtorEq,↓reduceIte,Int.reduceToNat,Int.reduceLE,Int.reduceLT,Int.reduceNe,Int.reduceEq,g3,y3]
    refine ao (yq w0 (dF eH c μa o false).1 (dF eH c μb (df c.up o x) false).1 (by omega) (by omega) _) ?_;rw[dj hHn.1];simp(maxDischargeDepth:=12) (maxSteps:=1000000) -implicitDefEqProofs only[go_sem,Nat.reduceAdd,Nat.reduceSub,Nat.reduceMul,Nat.reduceLeDiff,Nat.reduceEqDiff,Nat.reduceGT,Nat.reduceBEq,reduceCtorEq,↓reduceIte,Int.reduceToNat,Int.reduceLE,Int.reduceLT,Int.reduceNe,Int.reduceEq,e1];exact⟨(i+1,_,ga',gb',_,_),⟨hil,j2.m,r2.m,(hZ.has hbs).le (by show _≤2*(i+1);omega),ca.has hbs,cb.has hbs,hHn.2⟩,by show l.length-(i+1)<l.length-i;omega,rfl,.refl _⟩
 simp(maxDischargeDepth:=12) (maxSteps:=1000000) -implicitDefEqProofs only[go_sem,Nat.reduceAdd,Nat.reduceSub,Nat.reduceMul,Nat.reduceLeDiff,Nat.reduceEqDiff,Nat.reduceGT,Nat.reduceBEq,reduceCtorEq,↓reduceIte,Int.reduceToNat,Int.reduceLE,Int.reduceLT,Int.reduceNe,Int.reduceEq,hbx2];refine⟨fun h=>absurd h hil,fun _=>?_⟩;rw[←hma,←hmb];refine aX [] c.up.length [3,10,11,13,19] (fun k=>[(3,.v (.pointer (some ⟨b.n,0,none⟩))),(10,dI x),(11,bz ga.m),(13,bz gb.m),(19,dI k)]) (fun k=>T2) (fun _=>True) mx (by kernel_rfl) ?_ ?_
 ·simp(maxDischargeDepth:=12) (maxSteps:=1000000) -implicitDefEqProofs only[go_sem,Nat.reduceAdd,Nat.reduceSub,Nat.reduceMul,Nat.reduceLeDiff,Nat.reduceEqDiff,Nat.reduceGT,Nat.reduceBEq,reduceCtorEq,↓reduceIte,Int.reduceToNat,Int.reduceLE,Int.reduceLT,Int.reduceNe,Int.reduceEq]
 intro k hk1 _;have e2:IntKind.i64.wrap ((k:Int)+1)=((k+1:Nat):Int):=aI (by omega);by_cases hkl:k<c.up.length
 ·simp(maxDischargeDepth:=12) (maxSteps:=1000000) -implicitDefEqProofs only[go_sem,Nat.reduceAdd,Nat.reduceSub,Nat.reduceMul,Nat.reduceLeDiff,Nat.reduceEqDiff,Nat.reduceGT,Nat.reduceBEq,reduceCtorEq,↓reduceIte,Int.reduceToNat,Int.reduceLE,Int.reduceLT,Int.reduceNe,Int.reduceEq,hbx2,e2];intro _;refine ao (l5 _ c.up hu (k:Int) x _) ?_
  cases hle:cR c.up (k:Int) x with
  |false=>
   simp(maxDischargeDepth:=12) (maxSteps:=1000000) -implicitDefEqProofs only[go_sem,Nat.reduceAdd,Nat.reduceSub,Nat.reduceMul,Nat.reduceLeDiff,Nat.reduceEqDiff,Nat.reduceGT,Nat.reduceBEq,reduceCtorEq,↓reduceIte,Int.reduceToNat,Int.reduceLE,Int.reduceLT,Int.reduceNe,Int.reduceEq,e2];exact hkl
  |true=>
   have hlb:=hH.lb _ hle;have hea:=hW.Ia.VF (by omega) (k:Int) (by omega);simp(maxDischargeDepth:=12) (maxSteps:=1000000) -implicitDefEqProofs only[go_sem,Nat.reduceAdd,Nat.reduceSub,Nat.reduceMul,Nat.reduceLeDiff,Nat.reduceEqDiff,Nat.reduceGT,Nat.reduceBEq,reduceCtorEq,↓reduceIte,Int.reduceToNat,Int.reduceLE,Int.reduceLT,Int.reduceNe,Int.reduceEq,hbx2,e2];refine ao (qP _ hW.Ia hW.Ma (by omega) (x:=(k:Int)) (by omega)) ?_;simp(maxDischargeDepth:=12) (maxSteps:=1000000) -implicitDefEqProofs only[go_sem,Nat.reduceAdd,Nat.reduceSub,Nat.reduceMul,Nat.reduceLeDiff,Nat.reduceEqDiff,Nat.reduceGT,Nat.reduceBEq,reduceCtorEq,↓reduceIte,Int.reduceToNat,Int.reduceLE,Int.reduceLT,Int.reduceNe,Int.reduceEq];refine ao (qP _ hW.Ib hW.Mb (by omega) (x:=(k:Int)) (by omega)) ?_;rw[←hlb];simp(maxDischargeDepth:=12) (maxSteps:=1000000) -implicitDefEqProofs only[go_sem,Nat.reduceAdd,Nat.reduceSub,Nat.reduceMul,Nat.reduceLeDiff,Nat.reduceEqDiff,Nat.reduceGT,Nat.reduceBEq,reduceCtorEq,↓reduceIte,Int.reduceToNat,Int.reduceLE,Int.reduceLT,Int.reduceNe,Int.reduceEq];refine ao (Du w0 (nY (k:Int) (aO μa (k:Int)).F) (nY (k:Int) (aO μa (k:Int)).F) (by omega) _) ?_;rw[dj rfl];simp(maxDischargeDepth:=12) (maxSteps:=1000000) -implicitDefEqProofs only[go_sem,Nat.reduceAdd,Nat.reduceSub,Nat.reduceMul,Nat.reduceLeDiff,Nat.reduceEqDiff,Nat.reduceGT,Nat.reduceBEq,reduceCtorEq,↓reduceIte,Int.reduceToNat,Int.reduceLE,Int.reduceLT,Int.reduceNe,Int.reduceEq];refine ao (Hr _ hW.Ia (k:Int)) ?_;simp(maxDischargeDepth:=12) (maxSteps:=1000000) -implicitDefEqProofs only[go_sem,Nat.reduceAdd,Nat.reduceSub,Nat.reduceMul,Nat.reduceLeDiff,Nat.reduceEqDiff,Nat.reduceGT,Nat.reduceBEq,reduceCtorEq,↓reduceIte,Int.reduceToNat,Int.reduceLE,Int.reduceLT,Int.reduceNe,Int.reduceEq];refine ao (Hr _ hW.Ib (k:Int)) ?_;rw[←hlb];simp(maxDischargeDepth:=12) (maxSteps:=1000000) -implicitDefEqProofs only[go_sem,Nat.reduceAdd,Nat.reduceSub,Nat.reduceMul,Nat.reduceLeDiff,Nat.reduceEqDiff,Nat.reduceGT,Nat.reduceBEq,reduceCtorEq,↓reduceIte,Int.reduceToNat,Int.reduceLE,Int.reduceLT,Int.reduceNe,Int.reduceEq,e2];exact hkl
 simp(maxDischargeDepth:=12) (maxSteps:=1000000) -implicitDefEqProofs only[go_sem,Nat.reduceAdd,Nat.reduceSub,Nat.reduceMul,Nat.reduceLeDiff,Nat.reduceEqDiff,Nat.reduceGT,Nat.reduceBEq,reduceCtorEq,↓reduceIte,Int.reduceToNat,Int.reduceLE,Int.reduceLT,Int.reduceNe,Int.reduceEq,hbx2];exact fun h=>absurd h hkl
end Go.Proofs.YtoepfmhnapedoaaGreatDoor
namespace Go.Proofs.YtoepfmhnapedoaaGreatDoor
open Aml Go Go.RowKit Go.ChangeShapes
def gW(W:World):Gh:=⟨fun b i=>W.cell? ⟨b,i,none⟩,fun _ _=>none,fun _=>none,[]⟩
theorem wY{w0:W0}{W:World}(hw:w0.w={W with drawn:=0})(h:w0.gh.sub (gW W)):Rel w0 (gW W) ⟨[],[]⟩ W:=by
 have hh:w0.heap=W.heap:=by unfold W0.heap;rw[hw]
 exact⟨⟨by rw[hh,hw];exact⟨rfl,rfl,rfl,Xa _,fun _ _=>rfl,Xl _⟩,fun _ _ h=>(by cases h),h⟩,fun _ _ _ h=>h,by simp,by simp,fun _ _ _ h=>(by cases h),⟨0,fun _ _ _=>rfl⟩,fun _ _ h=>(by cases h),fun _=>none,fun _ _ h=>(by cases h),fun _ _ h=>(by cases h)⟩
def Rd(P:Program)(W:World)(t:TypeId){α:Type}(en:α→List DV)(sz:α→Nat)(ok:α→Prop):Prop:=
 ∀(H:Type) (enc:TypeId×Value→H) (n:Nat) (cs:List Value) (x:DataW H×List MemPlace),DataW.trod enc P W 0 (fun _=>true) true n t cs=some x→
  ∃a,ok a∧sz a≤Rows.uptoBulk x.1∧ae (gW W) (en a) cs∧∀u,u∈cs→u.oneCell'=true
section
variable {P:Program} {W:World}
theorem Rd.conv{t:TypeId}{α β:Type}{en:α→List DV}{sz:α→Nat}{ok:α→Prop}{en':β→List DV}{sz':β→Nat}{ok':β→Prop}(h:Rd P W t en sz ok)(f:α→β)(he:∀a,en a=en' (f a))(hs:∀a,sz' (f a)≤sz a)(ho:∀a,ok a→ok' (f a)):Rd P W t en' sz' ok':=
 fun H enc n cs x hx=>let⟨a,h1,h2,h3,h4⟩:=h H enc n cs x hx;⟨f a,ho a h1,Yf (hs a) h2,by rw[←he];exact h3,h4⟩
theorem yY{t:TypeId}(k:IntKind)(ht:P.underlying t=some (.int k)):Rd P W t (fun n:Int=>[.v (.int k n)]) (fun _=>1) (fun n=>(Lit.int k n).wf=true):=by
 intro H enc n cs x hx;obtain⟨m,rfl,rfl,hw⟩:=DataW.trod_int ht hx;exact⟨m,hw,by simp[Rows.uptoBulk],ae.cons (.v _ rfl) (ae.nil _),by simp[Value.oneCell']⟩
theorem yK{t:TypeId}(ht:P.underlying t=some (.int .i64)):Rd P W t (fun n:Int=>[dI n]) (fun _=>1) (fun n=> -9223372036854775808≤n∧n≤9223372036854775807):=
 (yY .i64 ht).conv id (fun _=>rfl) (fun _=>Xa _) fun _ h=>bounds_i64 h
theorem Ng{t:TypeId}(ht:P.underlying t=some (.int .u64)):Rd P W t (fun n:Int=>[dU n]) (fun _=>1) (fun n=>0≤n∧n≤18446744073709551615):=
 (yY .u64 ht).conv id (fun _=>rfl) (fun _=>Xa _) fun _ h=>bounds_u64 h
theorem Rf{t:TypeId}(ht:P.underlying t=some (.int .u8)):Rd P W t (fun n:Int=>[dY n]) (fun _=>1) (fun n=>0≤n∧n≤255):=
 (yY .u8 ht).conv id (fun _=>rfl) (fun _=>Xa _) fun _ h=>bounds_u8 h
theorem Eo{t:TypeId}(ht:P.underlying t=some .string):Rd P W t (fun s:ByteArray=>[dS s]) (fun s=>s.size+1) (fun _=>True):=by
 intro H enc n cs x hx;obtain⟨s,rfl,rfl,hs⟩:=DataW.trod_string ht hx;exact⟨s,trivial,(show s.size+1≤s.data.toList.length+1 by rw[XW];exact Xa _),ae.cons (.v _ rfl) (ae.nil _),by simp[Value.oneCell']⟩
theorem rM{α:Type}{Q:Nat→α→Prop}:∀(n:Nat),(∀i,i<n→∃a,Q i a)→∃l:List α,l.length=n∧∀(i:Nat) (a:α),l[i]? =some a→Q i a
 |0,_=>⟨[],rfl,by simp⟩
 |n+1,h=>by
  obtain⟨l,h1,h2⟩:=rM n fun i hi=>h i (by omega);obtain⟨a,ha⟩:=h n (by omega);refine⟨l++[a],by simp[h1],fun i b hb=>?_⟩;by_cases hi:i<n
  ·rw[Xx (by omega)]at hb;exact h2 i b hb
  ·have hlt:i<(l++[a]).length:=(W6.1 hb).1;have:i=n:=by simp at hlt;omega
   subst this;rw[Xv (by omega),h1]at hb;simp at hb;subst hb;exact ha
theorem vq{H α:Type}{sz:α→Nat}:∀{l:List α} {es:List (DataW H)},l.length=es.length→(∀(i:Nat) (a:α) (e:DataW H),l[i]? =some a→es[i]? =some e→sz a≤Rows.uptoBulk e)→(l.map sz).sum≤Rows.uptoBulkAll es
 |[],[],_,_=>by simp[Rows.uptoBulkAll]
 |[],_::_,h,_=>by simp at h
 |_::_,[],h,_=>by simp at h
 |a::l,e::es,h,hs=>by
  have h1:=hs 0 a e rfl rfl;have h2:=vq (l:=l) (es:=es) (by simpa using h) fun i a e x y=>hs (i+1) a e (by simpa using x) (by simpa using y);simp only[Xy,Yx,Rows.uptoBulkAll];omega
theorem lA{a:Addr}{k:Nat}{cs:List Value}(h:W.cells? 0 a k=some cs):cs.length=k∧∀j,j<k→W.cell? (a.add j)=cs[j]? :=by
 unfold World.cells? at h;rw[if_pos (Xl _)]at h;exact⟨by simpa using mapM_some_length h,fun j hj=>mapM_some_get h j j (by simp[hj])⟩
theorem rJ{t e:TypeId}{α:Type}{en:α→List DV}{sz:α→Nat}{ok:α→Prop}(h:Rd P W e en sz ok)(ht:P.underlying t=some (.slice e)){k:Nat}(hk:P.cellsOf e=k)(hk0:0<k)(enE:α→DV)(mk:List Value→Value)
 (hmk:∀a cs,ae (gW W) (en a) cs→(∀u,u∈cs→u.oneCell'=true)→cs.length=k→az (gW W) (enE a) (mk cs)∧(mk cs).cells.toList=cs):
 Rd P W t (fun l:List α=>[.sl k false (l.map enE)]) (fun l=>(l.map sz).sum+1) (fun l=>∀a,a∈l→ok a):=by
 intro H enc n cs x hx;rcases DataW.trod_slice ht hx with⟨rfl,rfl⟩|⟨a,len,cap,elems,rest,n',rfl,rfl,rfl, -,hlc,hcm,hel,hget, -, -⟩
 ·exact⟨[],by simp,by simp[Rows.uptoBulk],ae.cons (.nil _ _ _ _ (by simp)) (ae.nil _),by simp[Value.oneCell']⟩
 ·have hq:∀i,i<len→∃p:α×List Value,ok p.1∧(∀y,elems[i]? =some y→sz p.1≤Rows.uptoBulk y.1)∧W.cells? 0 (a.add (i*k)) k=some p.2∧ae (gW W) (en p.1) p.2∧∀u,u∈p.2→u.oneCell'=true:=by
   intro i hi;have h1:=hget i hi;rw[hk]at h1;have h2:elems[i]? =some elems[i]:=W5 (by omega);rw[h2,Ye]at h1;obtain⟨ci,hc,htr⟩:=h1;obtain⟨b,b1,b2,b3,b4⟩:=h H enc n' ci _ htr;exact⟨(b,ci),b1,fun y hy=>by rw[h2]at hy;cases hy;exact b2,hc,b3,b4⟩
  obtain⟨ps,hpl,hps⟩:=rM len hq;refine⟨ps.map (·.1),fun b hb=>?_,?_,?_,by simp[Value.oneCell']⟩
  ·obtain⟨p,hp,rfl⟩:=Xk.1 hb;obtain⟨i,hi⟩:=List.getElem?_of_mem hp;exact(hps i p hi).1
  ·have:=vq (sz:=sz) (l:=ps.map (·.1)) (es:=elems.map (·.1)) (by simp[hpl,hel]) fun i b e x y=>by
    rw[Xd,Xb]at x y;obtain⟨p,hp,rfl⟩:=x;obtain⟨y,hy,rfl⟩:=y;exact(hps i p hp).2.1 y hy
   simp only[Rows.uptoBulk];omega
  ·refine ae.cons ?_ (ae.nil _);by_cases h0:len=0
   ·subst h0;have:ps=[]:=Xn hpl;subst this;exact .nil _ _ _ _ (by simp)
   ·have hspot:a.spot=none:=by
     obtain⟨p,hp⟩:∃p,ps[0]? =some p:=⟨_,W5 (by omega)⟩;obtain⟨hl,hc⟩:=lA (hps 0 p hp).2.2.1;have:=hc 0 (by omega);rw[W5 (by omega)]at this;simp only[Nat.zero_mul,Addr.add,if_true]at this;unfold World.cell? at this;split at this
     ·split at this
      ·cases this
      ·rename_i hs;simpa using hs
     ·cases this
    obtain⟨b,o,sp⟩:=a;simp only at hspot;subst hspot;have hus:(ps.map fun p=>mk p.2).length=len:=by simp[hpl]
    have hmk':∀(i:Nat) (p:α×List Value),ps[i]? =some p→az (gW W) (enE p.1) (mk p.2)∧(mk p.2).cells.toList=p.2∧p.2.length=k:=fun i p hp=>by
     have hc:=(lA (hps i p hp).2.2.1).1;have:=hmk p.1 p.2 (hps i p hp).2.2.2.1 (hps i p hp).2.2.2.2 hc;exact⟨this.1,this.2,hc⟩
    have:=az.sl (g:=gW W) k false ((ps.map (·.1)).map enE) b o cap (ps.map fun p=>mk p.2) (by simp) (by simp) (by rw[hus];exact hlc) hcm
     (fun i d u hd hu=>by
      simp only[List.map_map,Xd,Xb]at hd hu;obtain⟨p,hp,rfl⟩:=hd;obtain⟨q,hq,rfl⟩:=hu;rw[hp]at hq;cases hq;exact(hmk' i p hp).1)
     (fun i u hu=>by
      rw[Xd,Xb]at hu;obtain⟨p,hp,rfl⟩:=hu;have:=hmk' i p hp;rw[←XW,this.2.1,this.2.2])
     (fun u hu x hx=>by
      obtain⟨p,hp,rfl⟩:=Xk.1 hu;obtain⟨i,hi⟩:=List.getElem?_of_mem hp;rw[(hmk' i p hi).2.1]at hx;exact(hps i p hi).2.2.2.2 x hx)
     (fun i u j x hu hx=>by
      rw[Xd,Xb]at hu;obtain⟨p,hp,rfl⟩:=hu;have hm:=hmk' i p hp;have hc:=(lA (hps i p hp).2.2.1).2;rw[←XX,hm.2.1]at hx;have hj:j<k:=by rw[←hm.2.2];exact(W6.1 hx).1
      have:=hc j hj;rw[hx]at this;show W.cell? ⟨b,o+i*k+j,none⟩=some x
      have e:(Addr.add ⟨b,o,none⟩ (i*k)).add j=⟨b,o+i*k+j,none⟩:=by
       unfold Addr.add;split <;>split <;>simp_all
      rw[←e];exact this)
    rw[hus]at this;exact this
theorem mH{t e:TypeId}{α:Type}{en:α→DV}{sz:α→Nat}{ok:α→Prop}(h:Rd P W e (fun a=>[en a]) sz ok)(ht:P.underlying t=some (.slice e))(hk:P.cellsOf e=1):
 Rd P W t (fun l:List α=>[.sl 1 false (l.map en)]) (fun l=>(l.map sz).sum+1) (fun l=>∀a,a∈l→ok a):=
 rJ h ht hk (by omega) en (fun cs=>cs.headD undef) fun a cs hr h1 hl=>by
  obtain⟨u,us,rfl,r1,r2⟩:=hr.cM;have:us=[]:=Xn (by simpa using hl);subst this;have hu:=h1 u Xf;refine⟨r1,?_⟩;cases u <;>simp_all [Value.cells,Value.oneCell']
theorem rH{t e:TypeId}{α:Type}{en:α→List DV}{sz:α→Nat}{ok:α→Prop}(h:Rd P W e en sz ok)(ht:P.underlying t=some (.slice e)){k:Nat}(hk:P.cellsOf e=k)(hk0:0<k):
 Rd P W t (fun l:List α=>[.sl k false (l.map fun a=> .agg (en a))]) (fun l=>(l.map sz).sum+1) (fun l=>∀a,a∈l→ok a):=
 rJ h ht hk hk0 (fun a=> .agg (en a)) (fun cs=> .agg cs.toArray) fun a cs hr h1 hl=>⟨.agg _ _ hr.len hr.at_ h1,rfl⟩
def RL(P:Program)(W:World)(total off:Nat)(fs:List Field){α:Type}(en:α→List DV)(sz:α→Nat)(ok:α→Prop):Prop:=
 ∀(H:Type) (enc:TypeId×Value→H) (n:Nat) (cs:List Value) (xs:List (DataW H×List MemPlace)),cs.length=total→xs.length=fs.length→
  (∀(i:Nat) (f:Field),fs[i]? =some f→DataW.trod enc P W 0 (fun _=>true) true n f.type ((cs.drop f.offset).take (P.cellsOf f.type))=xs[i]?)→
  ∃a,ok a∧sz a≤Rows.uptoBulkAll (xs.map (·.1))∧ae (gW W) (en a) (cs.drop off)∧∀u,u∈cs.drop off→u.oneCell'=true
theorem sX{total:Nat}:RL P W total total [] (fun _:Unit=>[]) (fun _=>0) (fun _=>True):=by
 intro H enc n cs xs hc hx hg;refine⟨(),trivial,Xl _,?_,?_⟩
 ·rw[List.drop_eq_nil_of_le (by omega)];exact ae.nil _
 ·rw[List.drop_eq_nil_of_le (by omega)];simp
theorem bl{total off k:Nat}{f:Field}{fs:List Field}{α β:Type}{en:α→List DV}{sz:α→Nat}{ok:α→Prop}{en':β→List DV}{sz':β→Nat}{ok':β→Prop}(h:Rd P W f.type en sz ok)(hf:f.offset=off)(hk:P.cellsOf f.type=k)(h':RL P W total (off+k) fs en' sz' ok'):
 RL P W total off (f::fs) (fun p:α×β=>en p.1++en' p.2) (fun p=>sz p.1+sz' p.2) (fun p=>ok p.1∧ok' p.2):=by
 intro H enc n cs xs hc hx hg
 cases xs with
 |nil=>simp at hx
 |cons x xs=>
  have h0:=hg 0 f rfl;rw[hf,hk]at h0;obtain⟨a,a1,a2,a3,a4⟩:=h H enc n _ x h0;obtain⟨b,b1,b2,b3,b4⟩:=h' H enc n cs xs hc (by simpa using hx) fun i f hf=>by have:=hg (i+1) f (by simpa using hf);simpa using this
  have e:cs.drop off=(cs.drop off).take k++cs.drop (off+k):=by rw[←Yj,YX]
  refine⟨(a,b),⟨a1,b1⟩,?_,?_,?_⟩
  ·simp only[Xy,Rows.uptoBulkAll];omega
  ·rw[e];exact a3.append b3
  ·intro u hu;rw[e,Xh]at hu;exact hu.elim (a4 u) (b4 u)
theorem mP{t:TypeId}{fs:Array Field}{α:Type}{en:α→List DV}{sz:α→Nat}{ok:α→Prop}(ht:P.underlying t=some (.struct fs)){total:Nat}(hc:P.cellsOf t=total){fl:List Field}(hfl:fs.toList=fl)(h:RL P W total 0 fl en sz ok):
 Rd P W t en (fun a=>sz a+1) ok:=by
 intro H enc n cs x hx;subst hfl;obtain⟨xs,n',rfl,rfl,h1,h2,h3⟩:=DataW.trod_struct ht hx;obtain⟨a,a1,a2,a3,a4⟩:=h H enc n' cs xs (by rw[h1,hc]) (by simpa using h2) fun i f hf=>h3 i f (by simpa using hf);exact⟨a,a1,by simp only[Rows.uptoBulk];omega,by simpa using a3,by simpa using a4⟩
def O1(P:Program)(W:World)(ts:List TypeId){α:Type}(en:α→List DV)(sz:α→Nat)(ok:α→Prop):Prop:=
 ∀(H:Type) (enc:TypeId×Value→H) (base:Nat) (vs:List Value) (ds:List (DataW H)) (p:List MemPlace),(∀(j:Nat) t v,ts[j]? =some t→vs[j]? =some v→Value.okWide P W .any base t v)→DataW.TrodAll enc P W 0 (fun _=>true) true ts vs ds p→
  ∃a,ok a∧sz a≤Rows.uptoBulkAll ds∧ae (gW W) (en a) vs
theorem I3:O1 P W [] (fun _:Unit=>[]) (fun _=>0) (fun _=>True):=by
 intro H enc base vs ds p hv h;obtain⟨rfl,rfl,rfl⟩:=trodAll_nil h;exact⟨(),trivial,Xl _,ae.nil _⟩
def Nt(P:Program)(t:TypeId):Bool:=match P.underlying t with
 |some .bool|some .string|some (.int _)|some (.slice _)=>true
 |_=>false
theorem wJ{t:TypeId}(ht:Nt P t=true){base:Nat}{v:Value}(h:Value.okWide P W .any base t v):v.cells= #[v]∧v.oneCell'=true:=by
 unfold Nt at ht;unfold Value.okWide Cell.okWide Cell.ok at h;split at ht
 ·rename_i hu;rw[hu]at h;cases v <;>simp_all [Value.cells,Value.oneCell']
 ·rename_i hu;rw[hu]at h;cases v <;>simp_all [Value.cells,Value.oneCell']
 ·rename_i hu;rw[hu]at h;cases v <;>simp_all [Value.cells,Value.oneCell']
 ·rename_i hu;rw[hu]at h;cases v <;>simp_all [Value.cells,Value.oneCell']
 ·cases ht
theorem Ah{t:TypeId}{ts:List TypeId}{α β:Type}{en:α→DV}{sz:α→Nat}{ok:α→Prop}{en':β→List DV}{sz':β→Nat}{ok':β→Prop}(h:Rd P W t (fun a=>[en a]) sz ok)(ht:Nt P t=true)(h':O1 P W ts en' sz' ok'):
 O1 P W (t::ts) (fun p:α×β=>en p.1::en' p.2) (fun p=>sz p.1+sz' p.2) (fun p=>ok p.1∧ok' p.2):=by
 intro H enc base vs ds p hv hA;obtain⟨v,vs',d,ds',p1,q1,rfl,rfl,rfl,h1,h2⟩:=trodAll_cons hA;obtain⟨b,b1,b2,b3⟩:=h' H enc base vs' ds' q1 (fun j t v x y=>hv (j+1) t v (by simpa using x) (by simpa using y)) h2;obtain⟨n,hn⟩:=h1;obtain⟨a,a1,a2,a3,a4⟩:=h H enc n _ _ hn;obtain⟨hc,ho⟩:=wJ ht (hv 0 t v rfl rfl);rw[hc]at a3;refine⟨(a,b),⟨a1,b1⟩,by simp only[Rows.uptoBulkAll];simp only at a2;omega,ae.cons ?_ b3⟩;obtain⟨u,us,he,r1,r2⟩:=a3.cM;simp only[YV]at he;rw[he.1];exact r1
theorem JA{t:TypeId}{ts:List TypeId}{fs:Array Field}{α β:Type}{en:α→List DV}{sz:α→Nat}{ok:α→Prop}{en':β→List DV}{sz':β→Nat}{ok':β→Prop}(h:Rd P W t en sz ok)(ht:P.underlying t=some (.struct fs))(h':O1 P W ts en' sz' ok'):
 O1 P W (t::ts) (fun p:α×β=> .agg (en p.1)::en' p.2) (fun p=>sz p.1+sz' p.2) (fun p=>ok p.1∧ok' p.2):=by
 intro H enc base vs ds p hv hA;obtain⟨v,vs',d,ds',p1,q1,rfl,rfl,rfl,h1,h2⟩:=trodAll_cons hA;obtain⟨b,b1,b2,b3⟩:=h' H enc base vs' ds' q1 (fun j t v x y=>hv (j+1) t v (by simpa using x) (by simpa using y)) h2;obtain⟨n,hn⟩:=h1;obtain⟨a,a1,a2,a3,a4⟩:=h H enc n _ _ hn;have ho:=hv 0 t v rfl rfl;unfold Value.okWide at ho;rw[ht]at ho;obtain⟨cs,rfl,_,_⟩:=ho;refine⟨(a,b),⟨a1,b1⟩,by simp only[Rows.uptoBulkAll];simp only at a2;omega,ae.cons ?_ b3⟩;have:(Value.agg cs)= .agg cs.toList.toArray:=by simp
 rw[this];exact .agg _ _ (by simpa[Value.cells]using a3.len) (by simpa[Value.cells]using a3.at_) (by simpa[Value.cells]using a4)
theorem kN{H:Type}{enc:TypeId×Value→H}(hl:laidOutB P=true){W':World}(hb:Below W.heap.size W W'){sp:Nat→Bool}:∀{ts:List TypeId} {vs:List Value} {ds:List (DataW H)} {ps:List MemPlace},(∀t,t∈ts→P.readableRec t=true∧t<P.types.size)→
 DataW.TrodAll enc P W 0 (fun _=>true) true ts vs ds ps→(∀p,p∈ps→p.block<W.heap.size∧sp p.block=true)→DataW.TrodAll enc P W' 0 sp true ts vs ds ps
 |[],vs,ds,ps,_,h,_=>by
  obtain⟨rfl,rfl,rfl⟩:=trodAll_nil h;exact rfl
 |t::ts,vs,ds,ps,ht,h,hp=>by
  obtain⟨v,vs',d,ds',p1,q1,rfl,rfl,rfl,h1,h2⟩:=trodAll_cons h
  exact⟨p1,q1,WideElems.Trod_stays hl (ht t Xf).1 (ht t Xf).2 h1 (fun x hx=>hb.same (hp x (XS _ hx)).1) (fun x hx=>(hp x (XS _ hx)).2),
   kN hl hb (fun t' ht'=>ht t' (Xc _ ht')) h2 fun x hx=>hp x (Ys _ hx),rfl⟩
theorem rh{w0:W0}(hw0:w0.w={W with drawn:=0})(hg0:w0.gh.sub (gW W)){H:Type}(enc:TypeId×Value→H){f:FuncId}{fn:Func}{s:ChangeSpec}{ts:List TypeId}{α:Type}{en:α→List DV}{sz:α→Nat}{ok:α→Prop}{tb:TypeId}(hr:O1 P W ts en sz ok)(hts:fn.params=ts.toArray)(hres:fn.resultTypes= #[tb])(htb:P.underlying tb=some .bool)(hvars:s.vars=[])
 (hl:laidOutB P=true) (hT:∀t,t∈ts→P.readableRec t=true∧t<P.types.size) (hspec:∀ds:List (DataW H),ds.length=ts.length→s.fn H ds={results:=[.lit (.bool true)],args:=ds})
 (hcall:∀a,ok a→sz a≤1048576→aa P w0 f (en a) ⟨[],[]⟩ fun d _=>d=dB true)
 (base:Nat) (args:Array Value) (ds gs:List (DataW H)) (before:List MemPlace) (hval:∀(j:Nat) t v,fn.params[j]? =some t→args[j]? =some v→Value.okWide P W .any base t v)
 (hW:DataW.Whole enc P fn.params.toList s.vars false W args.toList ds gs before) (hk:Rows.uptoBulkAll (ds++gs)≤1048576) (hpq:∀d S,¬w0.pq d S:=by exact fun _ _ h=>h):
 Calls P f args W fun e W'=>∃v,e= .returned v∧s.post enc P fn false true false false W args v W':=by
 have hW':=hW;obtain⟨p,q,hA,hV,rfl,hfz,hnd⟩:=hW;rw[hvars]at hV
 have hgs:gs=[]∧q=[]:=by
  cases gs with
  |nil=>exact⟨rfl,hV⟩
  |cons g gs=>exact hV.elim
 obtain⟨rfl,rfl⟩:=hgs;rw[hts]at hA;simp only[Yo]at hk;obtain⟨a,a1,a2,a3⟩:=hr H enc base args.toList ds p (fun j t v x y=>hval j t v (by rw[hts];simpa using x) (by simpa using y)) (by simpa using hA);have hc:=hcall a a1 (Yf a2 hk) (gW W) args W (wY hw0 hg0) a3;refine hc.mono ?_;rintro e W' (⟨r,g',d,S',rfl,hle,hR,hd,rfl⟩|⟨_,_,_,_,_,_,_,_,hF⟩)
 rotate_left
 ·exact(hpq _ _ hF).elim
 have hb0:=hR.below.base;unfold W0.heap at hb0;rw[hw0]at hb0;have hb:Below W.heap.size W W':=⟨hb0.os,hb0.tape,hb0.output,hb0.size,hb0.block⟩;have hrv:r= .bool true:=jT hd;subst hrv
 have hlen:ds.length=ts.length:=by
  have:∀{ts:List TypeId} {vs:List Value} {ds:List (DataW H)} {ps:List MemPlace},DataW.TrodAll enc P W 0 (fun _=>true) true ts vs ds ps→ds.length=ts.length:=by
   intro ts
   induction ts with
   |nil=>intro vs ds ps h;obtain⟨rfl,rfl,rfl⟩:=trodAll_nil h;rfl
   |cons t ts ih=>
    intro vs ds ps h;obtain⟨v,vs',d,ds',p1,q1,rfl,rfl,rfl,h1,h2⟩:=trodAll_cons h;simp[ih h2]
  exact this (by simpa using hA)
 have hsp:=hspec ds hlen;have hold:∀x,x∈p→x.block<W.heap.size:=fun x hx=>hW'.lt x (by simpa using hx)
 have hres':∀(b:Nat) (sp:Nat→Bool) (hd:Bool),DataW.TrodAll enc P W' b sp hd fn.resultTypes.toList ((Value.bool true).resultList fn.resultTypes.size) (s.fn H (ds++[])).results []:=by
  intro b sp hd;rw[Yo,hsp,hres];exact trodAll_cons_mk (shut_bool htb _) trodAll_mk0
 have hargs':∀sp:Nat→Bool,(∀x,x∈p→sp x.block=true)→DataW.TrodAll enc P W' 0 sp true fn.params.toList args.toList (s.fn H (ds++[])).args p:=by
  intro sp hs;rw[Yo,hsp,hts];exact kN hl hb hT (by simpa using hA) fun x hx=>⟨hold x hx,hs x hx⟩
 have hvars':∀sp:Nat→Bool,DataW.TrodVars enc P W' sp s.vars (s.fn H (ds++[])).vars []:=by
  intro sp;rw[Yo,hsp,hvars];exact rfl
 refine⟨.bool true,rfl,ds,[],p++[],[],p,[],hW',hres' _ _ _,hargs' _ (fun x hx=>by simpa using hold x hx),hvars' _,World.keptBut_mono (fun x hx=>⟨hx,.inr (by simpa using hx)⟩) (hb.frame _),fun _=>?_⟩;refine⟨?_,_,_,([]++p)++[],⟨[]++p,[],trodAll_append (hargs' _ (fun _ _=>rfl)) (hres' _ _ _),hvars' _,rfl,?_,?_⟩,?_⟩
 ·exact ok_one hres rfl (okWide_bool_mk htb _)
 ·intro b off hp;have hp:MemPlace.cell b off∈p:=by simpa using hp
  rw[hb.frozen (hold _ hp)];exact hfz b off (by simpa using hp)
 ·intro ha;cases ha
 ·intro x hx _;simpa using hx
end
end Go.Proofs.YtoepfmhnapedoaaGreatDoor
