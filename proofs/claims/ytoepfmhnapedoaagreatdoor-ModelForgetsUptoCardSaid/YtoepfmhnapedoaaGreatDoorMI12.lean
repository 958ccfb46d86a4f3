/-
  ModelForgets. By an AI agent.
-/
import Derived.Test.YtoepfmhnapedoaaGreatDoorMI7
import Derived.Test.YtoepfmhnapedoaaGreatDoorMI5
import Derived.Test.YtoepfmhnapedoaaGreatDoorMI10
import Derived.Test.YtoepfmhnapedoaaGreatDoorMI11
import Derived.Test.YtoepfmhnapedoaaGreatDoorRows
import Derived.Test.YtoepfmhnapedoaaGreatDoorMI4
import Derived.ProofKit
import Derived.OpenShut
import Derived.JoinedCond
import Derived.Carry
import Derived.Test.YtoepfmhnapedoaaGreatDoorTie
import Derived.Test.YtoepfmhnapedoaaGreatDoorCards
import Derived.Deep.DeepHandedRow
import Derived.Lib.LaidTab
import Derived.Lib.LaidU8T
import Derived.Stop.LaidErr
import Derived.Shelf.Vars
import Derived.Lib.SmallJoins
set_option linter.unusedVariables false
set_option linter.unusedSimpArgs false
set_option maxRecDepth 100000
set_option maxHeartbeats 16000000
namespace Aml
open Go Go.RowKit
section
variable {P:Program} {w0:W0} {S0 S1:St} {md:Region.Mode} {ops:Array Oper}
theorem Y.fZ{T:List Nat}{a0:Act}(hdst:∀(i:Nat) o,ops[i]? =some o→jA T o=true){gs ns:List Nat}{ro:Option Nat}{g0:Gh}{Q:Exit→List DV→St→Prop}:∀(fuel:Nat) (listed:Array Bool) (fr:List DV) (S:St) (g:Gh) (a:Act) (w:World),Same T a0 a→g0.le g→Rel w0 g S w→ae g fr a.tmps.toList→Dk w0 g a w→
 Y.GL P w0 S0 S1 gs ns md ops (fun fr S=>Q .normal fr S) fuel listed fr S→wpAnyIn (fz ro) 0 P md ops (Kt T a0 (Good w0 g0 Q)) fuel listed a w
 |0,listed,fr,S,g,a,w,hs,k,h1,h2,h3,h=>⟨h.1,⟨k.kd h3,g,fr,S,k,h1,h2,h.2⟩,hs⟩
 |fuel+1,listed,fr,S,g,a,w,hs,k,h1,h2,h3,h=>by
  refine⟨fun h0=>⟨⟨k.kd h3,g,fr,S,k,h1,h2,h.1 h0⟩,hs⟩,fun i hi=>?_⟩;have hq:=h.2 i hi;unfold pE at hq;unfold wpOpIn;split
  ·rename_i ho;simp only[ho]at hq;obtain⟨T',hp,hq⟩:=hq;exact Y.fZ hdst fuel _ fr T' g a w hs k (hp.symm.rel h1) h2 h3 hq
  ·rename_i o ho;simp only[ho]at hq;rcases hq with⟨hw,hb⟩|⟨hw,hk⟩
   ·have hw':=cY (o:=o) h2 hw;rw[if_pos hw'];refine eL (Y.lJ hb) h1 (fun x _=>du h2 x) h3 k h2 (Q:=Q) (fun v w' hg=>⟨hg,hs⟩) fun g' d' u S' w' k1 k2 k3 k4 k5=>?_;obtain⟨T',hp,k4⟩:=k4;exact Y.fZ hdst fuel _ _ _ g' _ _ (lz (hdst i o ho) hs u) (k.trans k1) (hp.symm.rel k2) (bo (h2.mono k1) _ k3) (k1.dk k5) k4
   ·have hw':=cY (o:=o) h2 hw;rw[if_neg (by simp[hw'])];obtain⟨T',hp,hk⟩:=hk;exact⟨fun _ _=>trivial,Y.fZ hdst fuel _ _ _ g _ _ (lz (hdst i o ho) hs undef) k (hp.symm.rel h1) (bo h2 _ (fE g)) (h3.cb (put_defers _ _ _) fun _ _ h _=>h) hk⟩
theorem Y.Az{T:List Nat}(hSS:∀T,Hm S0 T→Hm S1 T){id:Nat}{l:List Oper}{gs ns ord:List Nat}{fr:List DV}{S:St}{Q:Exit→List DV→St→Prop}(hm:P.follows .mixedOrders=true)(hd:l.all (jA T)=true)(hB:Y.tI gs ns .any l.toArray ord (Array.replicate l.length false)=true)(hO:ord.length=l.length)(h:Y.LO P w0 S0 S1 gs ns l.toArray (fun fr S=>Q .normal fr S) ord fr S):JX T P w0 (.region id l.toArray true) fr S Q:=by
 intro g a0 a w h1 h2 h3 hs;refine dE hm fun ro=>?_;have hR:Rel w0 g S {w with drawn:=w.drawn+1}:=h1.grow (iD w)
 have hcnt:∀l':List Nat,l'.Nodup→(∀k,k∈l'→(Array.replicate l.length false).getD k true=false)→l'.length≤ord.length:=by
  intro l' hn hl
  have hsub:∀k,k∈l'→k∈List.range l.length:=fun k hk=>by
   have:=hl k hk;rw[Xh];rcases WN k l.length with h|h
   ·exact h
   ·rw[Wz,Xd (by simpa using h)]at this;cases this
  have:=hn.length_le_of_subset (l₂:=List.range l.length) hsub;rw[hO];simpa using this
 have hdst:∀(i:Nat) o,l.toArray[i]? =some o→jA T o=true:=fun i o ho=>Ww.1 hd o (Wc (i:=i) (by simpa using ho));have:=Y.nG hSS (P:=P) (w0:=w0) (S0:=S0) (S1:=S1) (md:= .any) (ops:=l.toArray) ord (Array.replicate l.length false) fr S hcnt hB h;have:=Y.fZ (T:=T) (a0:=a0) hdst (ro:=ro) (g0:=g) (Q:=Q) _ _ fr S g a _ hs (.refl g) hR h2 (h3.cb rfl fun _ _ h _=>h) this;rw[hO]at this;simpa using this
def AK(T:List Nat)(P:Program)(w0:W0)(fr:List DV)(S:St)[c:Cn (Code×(Exit→List DV→St→Prop))]:Prop:=JX T P w0 c.k.1 fr S c.k.2
theorem Y.u6{T:List Nat}(gs ns ord:List Nat){id:Nat}{l:List Oper}{fr:List DV}{S:St}{Q:Exit→List DV→St→Prop}(hm:P.follows .mixedOrders=true)(hB:(Y.tm l gs ns ord&&l.all (jA T))=true)(h:Y.jD P w0 S ⟨[],[]⟩ gs ns l.toArray (fun fr S=>gl fr fun fr=>Q .normal fr S) ord fr S):@AK T P w0 fr S ⟨(.region id l.toArray true,Q)⟩:=by
 rw[We]at hB;obtain⟨hB,hd⟩:=hB;simp only[Y.tm,We,beq_iff_eq]at hB;refine Y.Az (fun T _=>Y.oI T) hm hd hB.1.2 hB.2 (Y.cm (fun i o ho=>?_) ord h);have:l[i]? =some o:=by simpa using ho
 exact Ww.1 hB.1.1 o (Wc this)
def pJ(T:List Nat)(P:Program)(w0:W0)(ss:List Nat):Code→List DV→St→(Exit→List DV→St→Prop)→Prop
 | .skip,fr,S,Q=>Q .normal fr S
 | .seq x y,fr,S,Q=>pJ T P w0 ss x fr S (fH (fun fr S=>pJ T P w0 ss y fr S Q) Q)
 | .cond c x y,fr,S,Q=>cf (ev fr c) (pJ T P w0 ss x fr S Q) (pJ T P w0 ss y fr S Q)
 | .block n c,fr,S,Q=>pJ T P w0 ss c fr S (eg n Q)
 | .exit n,fr,S,Q=>Q (.exit n) fr S
 | .ret,fr,S,Q=>Q .ret fr S
 | .region n ops dr,fr,S,Q=>bV (ss.contains n) (@AK T P w0 fr S ⟨((.region n ops dr),Q)⟩) (nB P w0 ops (fun fr S=>Q .normal fr S) ops.toList fr S)
 |c,fr,S,Q=>@AK T P w0 fr S ⟨(c,Q)⟩
def qs(T ss:List Nat):Code→Bool
 | .skip=>true
 | .ret=>true
 | .exit _=>true
 | .seq a b=>qs T ss a&&qs T ss b
 | .cond _ a b=>qs T ss a&&qs T ss b
 | .block _ c=>qs T ss c
 | .region n ops dr=>ss.contains n||(!dr&&ops.toList.all (fun o=>eP o.op&&jA T o))
 |_=>false
theorem fx{T ss:List Nat}:∀(c:Code) {fr:List DV} {S:St} {Q:Exit→List DV→St→Prop},qs T ss c=true→pJ T P w0 ss c fr S Q→JX T P w0 c fr S Q
 | .skip,fr,S,Q,_,h=>fun g v a w h1 h2 h3 h4=>lK ⟨⟨h3,g,fr,S,.refl g,h1,h2,h⟩,h4⟩
 | .ret,fr,S,Q,_,h=>fun g v a w h1 h2 h3 h4=>nT ⟨⟨h3,g,fr,S,.refl g,h1,h2,h⟩,h4⟩
 | .exit n,fr,S,Q,_,h=>fun g v a w h1 h2 h3 h4=>pT ⟨⟨h3,g,fr,S,.refl g,h1,h2,h⟩,h4⟩
 | .seq x y,fr,S,Q,ho,h=>fun g v a w h1 h2 h3 h4=>by
  simp only[qs,We]at ho;refine ic (aS (fx x ho.1 h g v a w h1 h2 h3 h4) ?_);intro e a' w' hg
  cases e with
  |normal=>
   obtain⟨⟨hd,g',fr',S',k1,k2,k3,k4⟩,ht⟩:=hg;exact aS (fx y ho.2 k4 g' v a' w' k2 k3 (k1.dk hd) ht) fun _ _ _ k=>k.mono fun _ _ _ k=>k.of_le k1
  |exit n=>exact hg
  |goto n=>exact hg
  |ret=>exact hg
  |panic ch=>exact hg
  |outgrown=>exact hg
 | .cond c x y,fr,S,Q,ho,h=>fun g v a w h1 h2 h3 h4=>by
  simp only[qs,We]at ho;have h:cf (ev fr c) (pJ T P w0 ss x fr S Q) (pJ T P w0 ss y fr S Q):=h;have hr:=du h2 c;unfold cf at h;split at h
  ·rename_i b he;rw[he]at hr;exact cH (iW hr) (fun hb=>fx x ho.1 (h.1 hb) g v a w h1 h2 h3 h4) (fun hb=>fx y ho.2 (h.2 hb) g v a w h1 h2 h3 h4)
  ·exact h.elim
 | .block n c,fr,S,Q,ho,h=>fun g v a w h1 h2 h3 h4=>by
  unfold qs at ho;have h:pJ T P w0 ss c fr S (eg n Q):=h;refine gL (aS (fx c ho h g v a w h1 h2 h3 h4) ?_);intro e a' w' hg
  cases e with
  |exit m=>
   obtain⟨⟨hd,g',fr',S',k1,k2,k3,k4⟩,ht⟩:=hg;simp only[Exit.inBlock];simp only[Qp,eg]at k4;split
   ·rename_i e;rw[if_pos e]at k4;exact⟨⟨hd,g',fr',S',k1,k2,k3,k4⟩,ht⟩
   ·rename_i e;rw[if_neg e]at k4;exact⟨⟨hd,g',fr',S',k1,k2,k3,k4⟩,ht⟩
  |normal=>exact hg
  |goto n=>exact hg
  |ret=>exact hg
  |panic ch=>exact hg
  |outgrown=>exact hg
 | .region n ops dr,fr,S,Q,ho,h=>fun g v a w h1 h2 h3 h4=>by
  unfold qs at ho;have h:bV (ss.contains n) (@AK T P w0 fr S ⟨((.region n ops dr),Q)⟩) (nB P w0 ops (fun fr S=>Q .normal fr S) ops.toList fr S):=h
  cases hc:ss.contains n with
  |true=>
   rw[hc]at h;exact h g v a w h1 h2 h3 h4
  |false=>
   rw[hc]at h ho;simp only[XU,We,WL]at ho;obtain⟨hd,ho⟩:=ho;subst hd
   have ho1:ops.toList.all (fun o=>eP o.op)=true:=Ww.2 fun o hm=>by
    have:=Ww.1 ho o hm;rw[We]at this;exact this.1
   have ho2:ops.toList.all (jA T)=true:=Ww.2 fun o hm=>by
    have:=Ww.1 ho o hm;rw[We]at this;exact this.2
   have h:nB P w0 ops (fun fr S=>Q .normal fr S) ops.toList fr S:=h;have h:=fe _ ho1 h;have:=dv (P:=P) (id:=n) (l:=ops.toList) (Q:=Kt T v (Good w0 g Q)) (a:=a) (w:=w) fun ro=>im (ro:=ro) (g0:=g) (Q:=Q) ops.toList fr S g a w ho2 h4 (.refl g) h1 h2 h3 (by simpa using h);simpa using this
 | .loop c,fr,S,Q,ho,h=>by cases ho
 | .rangeFunc f ps a b,fr,S,Q,ho,h=>by cases ho
 | .scope c,fr,S,Q,ho,h=>by cases ho
 | .label l,fr,S,Q,ho,h=>by cases ho
 | .goto l,fr,S,Q,ho,h=>by cases ho
 | .refuse w,fr,S,Q,ho,h=>by cases ho
theorem wO{T ss:List Nat}{fr:List DV}{S:St}{Q:Exit→List DV→St→Prop}:pJ T P w0 ss .skip fr S Q=Q .normal fr S:=rfl
theorem BQ{T ss:List Nat}{fr:List DV}{S:St}{Q:Exit→List DV→St→Prop}(x y:Code):pJ T P w0 ss (.seq x y) fr S Q=pJ T P w0 ss x fr S (fH (fun fr S=>pJ T P w0 ss y fr S Q) Q):=rfl
theorem xa{T ss:List Nat}{fr:List DV}{S:St}{Q:Exit→List DV→St→Prop}(c:Operand)(x y:Code):pJ T P w0 ss (.cond c x y) fr S Q=cf (ev fr c) (pJ T P w0 ss x fr S Q) (pJ T P w0 ss y fr S Q):=rfl
theorem tU{T ss:List Nat}{fr:List DV}{S:St}{Q:Exit→List DV→St→Prop}(n:Nat)(c:Code):pJ T P w0 ss (.block n c) fr S Q=pJ T P w0 ss c fr S (eg n Q):=rfl
theorem Bt{T ss:List Nat}{fr:List DV}{S:St}{Q:Exit→List DV→St→Prop}:pJ T P w0 ss .ret fr S Q=Q .ret fr S:=rfl
theorem BS{T ss:List Nat}{fr:List DV}{S:St}{Q:Exit→List DV→St→Prop}(n:Nat)(l:List Oper)(dr:Bool):pJ T P w0 ss (.region n l.toArray dr) fr S Q=bV (ss.contains n) (@AK T P w0 fr S ⟨((.region n l.toArray dr),Q)⟩) (nB P w0 l.toArray (fun fr S=>gl fr fun fr=>Q .normal fr S) l fr S):=by simp[pJ,bV,gl]
@[congr] theorem Th {T ss:List Nat} {Q:Exit→List DV→St→Prop} {c:Code} {fr fr':List DV} {S S':St} (h1:fr=fr') (h2:S=S'):pJ T P w0 ss c fr S Q=pJ T P w0 ss c fr' S' Q:=by cases h1;cases h2;rfl
@[congr] theorem U1 {T:List Nat} {fr fr':List DV} {S S':St} [c:Cn (Code×(Exit→List DV→St→Prop))] (h1:fr=fr') (h2:S=S'):AK T P w0 fr S=AK T P w0 fr' S':=by cases h1;cases h2;rfl
attribute [go_sem ↓] wO BQ xa tU Bt BS
theorem xO{f:FuncId}{fn:Func}{p rest:Code}{id t1:Nat}{o1 od:Oper}{rs:List ResultVar}{args:List DV}{S:St}{K:DV→St→Prop}{cl:FuncId}{caps:List Nat}
 (hf:P.funcs[f]? =some fn) (hb:fn.body=some (.seq p (.seq (.region id #[o1,od] false) rest))) (hrs:fn.results=rs.toArray)
 (ho1:o1.op= .makeFunc (.func cl) #[] (caps.map .tmp).toArray∧o1.dst=some t1∧o1.guard=none) (hod:od.op= .defer {callee:= .value (.tmp t1),args:= #[],argTypes:= #[]}∧od.dst=none∧od.guard=none)
 (hcl:okF P cl=true) (hk1:pR [] p=true) (ht1:(rs.map iE).contains t1=false∧t1<fn.ntmps∧args.length≤t1)
 (hp:vw P w0 [] p (cz (args++List.replicate (fn.ntmps-args.length) ud)) S fun e fr S1=>e= .normal∧∃bs:List Value,caps.map (fun t=>fr.getD t ud)=bs.map .v∧∃pq:DV→St→Prop,
  JX (rs.map iE) P ⟨w0.w,w0.gh,pq⟩ rest (fr.set t1 (.v (.func (.func cl) #[] bs.toArray))) S1 (fun e _ S2=>(e= .normal∨e= .ret)∧jP P fr S2 rs fun d=>K d S2)∧
  Idle P cl bs∧M6 P w0 cl bs pq fun S2=>jP P fr S2 rs fun d=>K d S2):aa P w0 f args S K:=by
 intro g vs w h1 h2;refine Calls.mono (R:=Ends w0 (g.av []) K) ?_ fun e w'=>Ends.av h1.below.di;have h1:=h1.av (w0':=w0) [] rfl h1.below.di;have h2:ae (g.av []) args vs.toList:=h2.av;generalize hg:g.av []=g0 at h1 h2 ⊢;have hgd:g0.j0=[]:=by rw[←hg];rfl
 refine(dZ (ro:=none) (n:=0)).1 (callsIn_of_wp_marks hf hb trivial ?_ rfl);have hlen:args.length=vs.size:=by simpa using h2.len
 have hR0:ae g0 (args++List.replicate (fn.ntmps-args.length) ud) (vs++Array.replicate (fn.ntmps-vs.size) undef).toList:=by rw[hlen];simpa using h2.append (ae.replicate g0 (fn.ntmps-vs.size))
 obtain⟨a0,ha0⟩:∃a0:Act,a0={tmps:=vs++Array.replicate (fn.ntmps-vs.size) undef,defers:=[]}:=⟨_,rfl⟩;rw[←ha0];have hR0:ae g0 (args++List.replicate (fn.ntmps-args.length) ud) a0.tmps.toList:=by rw[ha0];exact hR0
 have hd0:a0.defers=[]:=by rw[ha0]
 have hz0:fn.ntmps≤a0.tmps.size:=by rw[ha0];simp;omega
 refine wpIn_seq (wpIn_mono (dm p hk1 hp g0 a0 a0 w h1 hR0 (.nil (hd0.trans hgd.symm)) ⟨fun _ _=>rfl,rfl,rfl⟩ none (.inl rfl)) ?_);intro e a1 w1 hg1
 cases e with
 |exit n=>obtain⟨⟨_,_,_,_,_,_,_,q,_⟩,_⟩:=hg1;cases q
 |goto n=>obtain⟨⟨_,_,_,_,_,_,_,q,_⟩,_⟩:=hg1;cases q
 |ret=>obtain⟨⟨_,_,_,_,_,_,_,q,_⟩,_⟩:=hg1;cases q
 |outgrown=>obtain⟨_,_,_,_,_,_,_,q,_⟩:=hg1;cases q
 |panic ch=>
  obtain⟨⟨_,g',fr',S',k1,k2,k3,v,d,rfl,q1,q2⟩,hs⟩:=hg1;show LeavesInM (fz none) 0 P fn a1.tmps (Ends w0 g0 K) a1.defers (.panicking _) w1;rw[hs.2.1,hd0];exact .inr ⟨v,g',d,S',rfl,k1,k2,q1,q2⟩
 |normal=>
  obtain⟨⟨_,g1,fr1,S1,k1,R1,r1,_,bs,hbs,pq,hrest,hidle,hbr⟩,hs1⟩:=hg1;have hd1:a1.defers=[]:=hs1.2.1.trans hd0;have hz1:t1<a1.tmps.size:=by rw[hs1.2.2];omega
  have hev:((caps.map Operand.tmp).toArray.map a1.eval)=bs.toArray:=by
   have:caps.map (fun t=>a1.eval (.tmp t))=bs:=by
    refine Xe fun i=>?_;have hi:=congrArg (·[i]?) hbs;simp only[Wi]at hi ⊢
    cases hc:caps[i]? with
    |none=>rw[hc]at hi;cases hb:bs[i]? with
     |none=>rfl
     |some x=>rw[hb]at hi;cases hi
    |some t=>
     rw[hc]at hi
     cases hb:bs[i]? with
     |none=>rw[hb]at hi;cases hi
     |some x=>
      rw[hb]at hi;simp only[WI,Wx]at hi ⊢;have h:=du r1 (.tmp t);rw[show ev fr1 (.tmp t)= .v x from hi]at h;exact ak h
   rw[←this];simp
  obtain⟨fv,hfv⟩:∃fv:Value,fv= .func (.func cl) #[] bs.toArray:=⟨_,rfl⟩;obtain⟨d,hd⟩:∃d:Deferred,d={target:= .fn (.func cl) bs.toArray,args:= #[]}:=⟨_,rfl⟩
  have hrun1:(execOp a1.eval o1).run P w1= .ok (.value fv) w1:=by
   have:∀(fn:Fn) (first cap:Array Value) (w:World),(Instr.makeFunc fn first cap).run P w= .ok (.func fn first cap) w:=fun _ _ _ _=>rfl;rw[hfv];unfold execOp;rw[ho1.1];simp only[hev];simp[this]
  have he2:(a1.put (some t1) fv).eval (.tmp t1)=fv:=by
   simp only[Act.put,Act.eval];rw[Wz,Array.getElem?_setIfInBounds_self_of_lt hz1];rfl
  have hrun2:(execOp (a1.put (some t1) fv).eval od).run P w1= .ok (.defer d) w1:=by
   unfold execOp;rw[hod.1,hd];have he3:=he2;rw[hfv]at he3;rw[hfv];simp only[resolve,he3];simp[Deferred.ofValue]
  refine wpIn_seq (wpIn_region_lit (l:=[o1,od]) ?_);unfold wpListIn;rw[if_pos (by simp[Region.wanted,ho1.2.2])];refine⟨fun _ _=>trivial,?_⟩;rw[show(fz none).round=none from rfl,Oper.semAt_none,hrun1];show wpListIn (fz none) 0 P _ _ [od] (a1.put o1.dst fv) w1;rw[ho1.2.1];unfold wpListIn;rw[if_pos (by simp[Region.wanted,hod.2.2])];refine⟨fun _ _=>trivial,?_⟩;rw[show(fz none).round=none from rfl,Oper.semAt_none,hrun2];obtain⟨a3,ha3⟩:∃a3:Act,a3={a1.put (some t1) fv with defers:=[d]}:=⟨_,rfl⟩;have hd3:a3.defers=[d]:=by rw[ha3]
  have e3:({a1.put (some t1) fv with defers:=d::(a1.put (some t1) fv).defers}:Act).put none undef=a3:=by
   rw[ha3];simp only[Act.put,hd1]
  show rest.wpIn (fz none) 0 P _ (({a1.put (some t1) fv with defers:=d::(a1.put (some t1) fv).defers}:Act).put od.dst undef) w1;rw[hod.2.1,e3];have t3:a3.tmps=(a1.put (some t1) fv).tmps:=by rw[ha3]
  have r3:ae (g1.av [d]) (fr1.set t1 (.v fv)) a3.tmps.toList:=by
   rw[t3];exact(bo r1 (some t1) (d:= .v fv) (.v _ (by rw[hfv];rfl))).av
  rw[←hfv]at hrest;have R3:Rel ⟨w0.w,w0.gh,pq⟩ (g1.av [d]) S1 w1:=R1.av [d] rfl R1.below.di
  have slots:∀a4,Same (rs.map iE) a3 a4→results fn a4.tmps=results fn a1.tmps:=by
   intro a4 h4;refine rX hrs fun r hr=>?_;rw[h4.1 _ (WH hr),t3];simp only[Act.put]
   have:¬t1=iE r:=by
    rintro e;have:=ht1.1;simp only[List.contains_eq_mem,decide_eq_false_iff_not]at this;exact this (e▸WH hr)
   rw[WB,if_neg this]
  have hinv:∀w,(invoke d.target d.args).run P w= .ok (.enter cl bs.toArray) w:=by
   intro w;unfold okF at hcl;split at hcl
   ·rename_i fn' hfn';simp only[We,WL]at hcl;obtain⟨hb,hname⟩:=hcl;have hbn:¬fn'.body=none:=by intro e;simp[e]at hb
    have hname':¬fn'.name= "runtime.NumGoroutine" :=by simpa using hname
    rw[hd];simp[invoke,callFunc,hfn',hname',hbn]
   ·cases hcl
  have fin:∀(g4:Gh) (S4:St) (w4:World) (a4:Act),Same (rs.map iE) a3 a4→(g1.av [d]).le g4→Rel w0 g4 S4 w4→jP P fr1 S4 rs (fun d=>K d S4)→LeavesInM (fz none) 0 P fn a4.tmps (Ends w0 g0 K) [] .returning w4:=by
   intro g4 S4 w4 a4 hs4 k4 R4 hres;obtain⟨v,dd,e1,e2,e3⟩:=yD (P:=P) R4 ((r1.av (ds:=[d])).mono k4) hrs hres;refine⟨v,by rw[slots a4 hs4];exact e1,.inl ⟨v,g4.av [],dd,S4,rfl,⟨fun b i u h=>k4.aN _ _ _ (k1.aN _ _ _ h),fun b i u h=>k4.acc _ _ _ (k1.acc _ _ _ h),k4.obj.trans k1.obj,hgd.symm⟩,R4.av [] rfl R4.below.di,e2.av,e3⟩⟩
  refine wpIn_mono (hrest (g1.av [d]) a3 a3 w1 R3 r3 (.nil hd3) ⟨fun _ _=>rfl,rfl,rfl⟩ none (.inl rfl)) ?_
  have norm:∀(g4:Gh) (S4:St) (w4:World) (a4:Act),Same (rs.map iE) a3 a4→(g1.av [d]).le g4→Rel w0 g4 S4 w4→jP P fr1 S4 rs (fun d=>K d S4)→LeavesInM (fz none) 0 P fn a4.tmps (Ends w0 g0 K) a4.defers .returning w4:=by
   intro g4 S4 w4 a4 hs4 k4 R4 hres;rw[hs4.2.1,hd3];refine⟨by simp,.inr ⟨fun h=>by simp[fz,Fence.wide]at h,.func cl,bs.toArray,cl,bs.toArray,by rw[hd],hinv w4,fun _ _=>trivial,fO (hidle w4) ?_⟩⟩;rintro e u' w' ⟨⟨r,rfl⟩,rfl,rfl⟩;exact fin g4 S4 _ a4 hs4 k4 R4 hres
  intro e a4 w4 hg
  cases e with
  |exit n=>obtain⟨⟨_,_,_,_,_,_,_,q,_⟩,_⟩:=hg;rcases q with q|q <;>cases q
  |goto n=>obtain⟨⟨_,_,_,_,_,_,_,q,_⟩,_⟩:=hg;rcases q with q|q <;>cases q
  |outgrown=>obtain⟨_,_,_,_,_,_,_,q,_⟩:=hg;rcases q with q|q <;>cases q
  |normal=>
   obtain⟨⟨_,g4,fr4,S4,k4,R4,r4,_,hres⟩,hs4⟩:=hg;exact norm g4 S4 w4 a4 hs4 k4 (R4.av (w0':=w0) g4.j0 rfl R4.below.di) hres
  |ret=>
   obtain⟨⟨_,g4,fr4,S4,k4,R4,r4,_,hres⟩,hs4⟩:=hg;exact norm g4 S4 w4 a4 hs4 k4 (R4.av (w0':=w0) g4.j0 rfl R4.below.di) hres
  |panic ch=>
   obtain⟨⟨_,g4,fr4,S4,k4,R4,r4,v,d',rfl,q1,q2⟩,hs4⟩:=hg;show LeavesInM (fz none) 0 P fn a4.tmps (Ends w0 g0 K) a4.defers (.panicking _) w4;rw[hs4.2.1,hd3];refine⟨by simp,.inr ⟨fun h=>by simp[fz,Fence.wide]at h,.func cl,bs.toArray,cl,bs.toArray,by rw[hd],hinv w4,fun _ _=>trivial,fO (hbr g4 S4 w4 v d' (R4.av (w0':=w0) g4.j0 rfl R4.below.di) q1 q2) ?_⟩⟩;rintro e u' w' ⟨⟨r,rfl⟩,rfl,g5,T5,k5,R5,hres⟩;exact fin g5 T5 _ a4 hs4 (k4.trans k5) R5 hres
end
end Aml
namespace Go.Proofs.YtoepfmhnapedoaaGreatDoor
open Aml Go Rn Lat Grs
theorem Sz{P:Program}{w0:W0}{f:FuncId}{args args':List DV}{S:St}{K K':DV→St→Prop}(h:aa P w0 f args' S K')(hk:∀d S',K' d S'→∃e,Wk d e∧K e S')(ha:eK args args':=by exact eK.refl _):@AC P w0 f args S ⟨K⟩:=gP h ha hk
theorem zG{P:Program}{w0:W0}{f:FuncId}{args:List DV}{S:St}{K:DV→St→Prop}(h:(S.box.map (·.1)).Nodup→(S.acc.map (·.1)).Nodup→aa P w0 f args S K):aa P w0 f args S K:=
 fun g vs w h1 h2=>h h1.nb h1.na g vs w h1 h2
def Rz(fr:List DV)(S:St)[K:Cn (List DV→St→Prop)]:Prop:=K.k fr S
theorem IW{P:Program}{w0:W0}{c:Code}{fr:List DV}{S:St}{K:List DV→St→Prop}(h:vw P w0 [] c fr S fun e fr S1=>e= .normal∧@Rz fr S1 ⟨K⟩):vw P w0 [] c fr S fun e fr S1=>e= .normal∧K fr S1:=h
theorem rR{S T:St}{g g':MG}{M b:Nat}{c:Cf}{μ:bO}(h:MI T g' M c μ)(hF:fX S T g g')(hb:lk S.box b=none)(hg:b∉g'.bx)(v:List DV):MI ⟨Aml.up T.box b v,T.acc⟩ g' M c μ∧fX S ⟨Aml.up T.box b v,T.acc⟩ g g':=
 ⟨h.to (Wg _) (fun i w q1 q2=>by show lk (Aml.up _ _ _) i=_;rw[ab (fun e=>hg (by rw[e];exact q1))];exact q2) fun _ _ _ q=>q,hF.m,fun i w q1 q2=>by show lk (Aml.up _ _ _) i=_;rw[ab (fun e=>by rw[←e,hb]at q2;cases q2)];exact hF.box i w q1 q2,hF.acc,hF.nb,hF.na⟩
theorem R9{w0:W0}{S:St}{g:MG}{N:Nat}{c:Cf}{μ:bO}{o:bI}{full:Bool}(hgO:mN w0)(hgC:kf w0)(hI:MI S g N c μ)(hM:gV N c μ)(hgr:c.gr.length≤1048576)(hN:N≤10000):
 aa Tryz.prog w0 12 [bd g.m,IV o,dB full] S (fun d S'=>Wk d (J0 (jB iJ c μ o full).1)∧∃g',MI S' g' (N+1) c (jB iJ c μ o full).2∧fX S S' g g'):=by
 have hmd:=hI.md;have hlen:=hI.len;refine zG fun nb na=>?_;refine xO (P:=Tryz.prog) (fn:=Tryz.f12) (cl:=32) (caps:=[6]) (t1:=8) Tryz.func12 rfl rfl ⟨rfl,rfl,rfl⟩ ⟨rfl,rfl,rfl⟩ (by kernel_rfl) (by kernel_rfl) ⟨rfl,by rw[Tryz.ntmps12];decide,by simp⟩ ?_;refine IW ?_;simp(maxDischargeDepth:=12) (maxSteps:=1000000) -implicitDefEqProofs only[go_sem,Nat.reduceAdd,Nat.reduceSub,Nat.reduceMul,Nat.reduceLeDiff,Nat.reduceEqDiff,Nat.reduceGT,Nat.reduceBEq,reduceCtorEq,↓reduceIte,Int.reduceToNat,Int.reduceLE,Int.reduceLT,Int.reduceNe,Int.reduceEq,Tryz.ntmps12];intro b4 b6;have n1:=aG b6 b4.n (by simp(maxDischargeDepth:=12) (maxSteps:=1000000) -implicitDefEqProofs only[go_sem,Nat.reduceAdd,Nat.reduceSub,Nat.reduceMul,Nat.reduceLeDiff,Nat.reduceEqDiff,Nat.reduceGT,Nat.reduceBEq,reduceCtorEq,↓reduceIte,Int.reduceToNat,Int.reduceLE,Int.reduceLT,Int.reduceNe,Int.reduceEq]);have hm4:(b4.n=g.m)=False:=eq_false fun e=>by have:=aj b4;rw[e,hmd]at this;cases this
 have hm6:(b6.n=g.m)=False:=aG b6 g.m (by simp(maxDischargeDepth:=12) (maxSteps:=1000000) -implicitDefEqProofs only[go_sem,Nat.reduceAdd,Nat.reduceSub,Nat.reduceMul,Nat.reduceLeDiff,Nat.reduceEqDiff,Nat.reduceGT,Nat.reduceBEq,reduceCtorEq,↓reduceIte,Int.reduceToNat,Int.reduceLE,Int.reduceLT,Int.reduceNe,Int.reduceEq,hm4,hmd]);have h4l:b4.n∉g.bx:=fun q=>hI.lT q (aj b4)
 have h6S:lk S.box b6.n=none:=by
  have q:=aj b6;simp only[lk]at q;rw[if_neg (fun e=>by rw[←n1];exact e.symm)]at q;exact q
 have h6l:b6.n∉g.bx:=fun q=>hI.lT q h6S;obtain⟨X,hX⟩:∃X:St,X=⟨(b6.n,[dI 0,dI 0,.sl 0 true [],dI 0,dI 0,dI 0,dI 0,.sl 0 true []])::(b4.n,[dI o.kind,dI o.level,dI o.aH,dI o.snap,dS (tx o.bucket),dS (tx o.key),dS (tx o.value),dI o.label,dI o.fk,dI o.n,.sl 1 false (az o.cb)])::S.box,S.acc⟩:=⟨_,rfl⟩;have hHX:Has S X:=by rw[hX];exact⟨fun b x q=>ai (aj b6) (ai (aj b4) q),fun _ _ q=>q⟩
 have x4:lk X.box b4.n=some [dI o.kind,dI o.level,dI o.aH,dI o.snap,dS (tx o.bucket),dS (tx o.key),dS (tx o.value),dI o.label,dI o.fk,dI o.n,.sl 1 false (az o.cb)]:=by rw[hX];simp(maxDischargeDepth:=12) (maxSteps:=1000000) -implicitDefEqProofs only[go_sem,Nat.reduceAdd,Nat.reduceSub,Nat.reduceMul,Nat.reduceLeDiff,Nat.reduceEqDiff,Nat.reduceGT,Nat.reduceBEq,reduceCtorEq,↓reduceIte,Int.reduceToNat,Int.reduceLE,Int.reduceLT,Int.reduceNe,Int.reduceEq,n1]
 have x6:lk X.box b6.n=some [dI 0,dI 0,.sl 0 true [],dI 0,dI 0,dI 0,dI 0,.sl 0 true []]:=by rw[hX];simp(maxDischargeDepth:=12) (maxSteps:=1000000) -implicitDefEqProofs only[go_sem,Nat.reduceAdd,Nat.reduceSub,Nat.reduceMul,Nat.reduceLeDiff,Nat.reduceEqDiff,Nat.reduceGT,Nat.reduceBEq,reduceCtorEq,↓reduceIte,Int.reduceToNat,Int.reduceLE,Int.reduceLT,Int.reduceNe,Int.reduceEq]
 have hIX:=hI.has hHX;have xm:=hIX.md
 have hXn:(X.box.map (·.1)).Nodup:=by
  rw[hX];refine Wv.2 ⟨fun hm=>?_,Wv.2 ⟨fun hm=>?_,nb⟩⟩
  ·obtain⟨p,hp,e⟩:=Ws.1 hm;exact Y.lC b6.h p hp e
  ·obtain⟨p,hp,e⟩:=Ws.1 hm;exact Y.lC b4.h p hp e
 have hXa:(X.acc.map (·.1)).Nodup:=by rw[hX];exact na
 obtain⟨pq,hpq⟩:∃pq:DV→St→Prop,pq=fun d T=>∃e,jB iJ c μ o full=(kJ e,μ)∧d= .gz 33 (dI e)∧∃g',MI T g' (N+1) c μ∧fX X T g g':=⟨_,rfl⟩;have hpan:∀e,jB iJ c μ o full=(kJ e,μ)→∀T g',MI T g' (N+1) c μ→fX X T g g'→pq (.gz 33 (dI e)) T:=fun e h1 T g' h2 h3=>by rw[hpq];exact⟨e,h1,rfl,g',h2,h3⟩
 have h6g:∀{T:St} {g':MG},fX X T g g'→b6.n∉g'.bx:=fun hF q=>(hF.nb _ q).elim h6l fun e=>by rw[x6]at e;cases e
 subst hX;refine⟨[.pointer (some ⟨b6.n,0,none⟩)],rfl,pq,?_,?_,?_⟩
 ·refine fx (ss:=[3,6,10,11,12]) _ (by kernel_rfl) ?_;simp(maxDischargeDepth:=12) (maxSteps:=1000000) -implicitDefEqProofs only[go_sem,Nat.reduceAdd,Nat.reduceSub,Nat.reduceMul,Nat.reduceLeDiff,Nat.reduceEqDiff,Nat.reduceGT,Nat.reduceBEq,reduceCtorEq,↓reduceIte,Int.reduceToNat,Int.reduceLE,Int.reduceLT,Int.reduceNe,Int.reduceEq];refine an (aA _ true 1 _ fun h=>by cases h) ?_;rintro _ _ ⟨_,rfl,rfl⟩;simp(maxDischargeDepth:=12) (maxSteps:=1000000) -implicitDefEqProofs only[go_sem,Nat.reduceAdd,Nat.reduceSub,Nat.reduceMul,Nat.reduceLeDiff,Nat.reduceEqDiff,Nat.reduceGT,Nat.reduceBEq,reduceCtorEq,↓reduceIte,Int.reduceToNat,Int.reduceLE,Int.reduceLT,Int.reduceNe,Int.reduceEq];refine Y.u6 [] [7] [0,1,2,3,4,5,6,7] mx (by kernel_rfl) ?_;simp(maxDischargeDepth:=12) (maxSteps:=1000000) -implicitDefEqProofs only[go_sem,Nat.reduceAdd,Nat.reduceSub,Nat.reduceMul,Nat.reduceLeDiff,Nat.reduceEqDiff,Nat.reduceGT,Nat.reduceBEq,reduceCtorEq,↓reduceIte,Int.reduceToNat,Int.reduceLE,Int.reduceLT,Int.reduceNe,Int.reduceEq,n1,hmd,hm4,hm6,hlen];refine Y.iL (fun T hT=>MB ⟨w0.w,w0.gh,pq⟩ hgO (μ.l.length:Int) o T) ?_
  cases hck:tm (μ.l.length:Int) o with
  |false=>
   simp(maxDischargeDepth:=12) (maxSteps:=1000000) -implicitDefEqProofs only[go_sem,Nat.reduceAdd,Nat.reduceSub,Nat.reduceMul,Nat.reduceLeDiff,Nat.reduceEqDiff,Nat.reduceGT,Nat.reduceBEq,reduceCtorEq,↓reduceIte,Int.reduceToNat,Int.reduceLE,Int.reduceLT,Int.reduceNe,Int.reduceEq];refine an (aA _ false 40 _ fun _ T hT=>?_) ?_
   ·exact hpan 40 (by unfold jB;rw[if_pos hck]) T g ((hIX.has hT).le (WK N)) (.has hT)
   rintro _ _ ⟨q,_⟩;cases q
  |true=>
  have hck':(0≤o.kind∧o.kind<17)∧(o.kind=16∨(0≤o.level∧o.level<(μ.l.length:Int))):=of_decide_eq_true hck;simp(maxDischargeDepth:=12) (maxSteps:=1000000) -implicitDefEqProofs only[go_sem,Nat.reduceAdd,Nat.reduceSub,Nat.reduceMul,Nat.reduceLeDiff,Nat.reduceEqDiff,Nat.reduceGT,Nat.reduceBEq,reduceCtorEq,↓reduceIte,Int.reduceToNat,Int.reduceLE,Int.reduceLT,Int.reduceNe,Int.reduceEq];refine an (aA _ true 40 _ fun h=>by cases h) ?_;rintro _ _ ⟨_,rfl,rfl⟩;by_cases hk0:o.kind=0
  ·have e0:(o.kind=0)=True:=eq_true hk0;have hd0:jB iJ c μ o full=(F4 (lS μ.r o.level).2,⟨μ.l,(lS μ.r o.level).1,μ.sn⟩):=by unfold jB;rw[if_neg (by rw[hck];simp),if_pos hk0]
   simp(maxDischargeDepth:=12) (maxSteps:=1000000) -implicitDefEqProofs only[go_sem,Nat.reduceAdd,Nat.reduceSub,Nat.reduceMul,Nat.reduceLeDiff,Nat.reduceEqDiff,Nat.reduceGT,Nat.reduceBEq,reduceCtorEq,↓reduceIte,Int.reduceToNat,Int.reduceLE,Int.reduceLT,Int.reduceNe,Int.reduceEq,n1,e0];refine Y.u6 [] [6,8] [0,1,2,4,3,5,6,7,8] mx (by kernel_rfl) ?_;simp(maxDischargeDepth:=12) (maxSteps:=1000000) -implicitDefEqProofs only[go_sem,Nat.reduceAdd,Nat.reduceSub,Nat.reduceMul,Nat.reduceLeDiff,Nat.reduceEqDiff,Nat.reduceGT,Nat.reduceBEq,reduceCtorEq,↓reduceIte,Int.reduceToNat,Int.reduceLE,Int.reduceLT,Int.reduceNe,Int.reduceEq,n1,hmd,hm4,hm6];refine an (Pn _ hIX.tb (by have:=hM.r;omega) o.level) ?_;rintro _ T ⟨rfl,θ',hT,hF⟩;obtain⟨own',k1,k2,_,_⟩:=hIX.NP (WK N) hT hF;have t6:lk T.box b6.n=some [dI 0,dI 0,.sl 0 true [],dI 0,dI 0,dI 0,dI 0,.sl 0 true []]:=k2.box _ _ h6l x6;simp(maxDischargeDepth:=12) (maxSteps:=1000000) -implicitDefEqProofs only[go_sem,Nat.reduceAdd,Nat.reduceSub,Nat.reduceMul,Nat.reduceLeDiff,Nat.reduceEqDiff,Nat.reduceGT,Nat.reduceBEq,reduceCtorEq,↓reduceIte,Int.reduceToNat,Int.reduceLE,Int.reduceLT,Int.reduceNe,Int.reduceEq,t6];obtain⟨j1,j2⟩:=rR k1 ((fX.has hHX).trans k2) h6S (h6g k2) [dI 0,dI (lS μ.r o.level).2,.sl 0 true [],dI 0,dI 0,dI 0,dI 0,.sl 0 true []];rw[hd0];exact⟨.agg ⟨.refl _,.refl _,.nil _ _ _,.refl _,.refl _,.refl _,.refl _,.nil _ _ _,trivial⟩,_,j1,j2⟩
  have e0:(o.kind=0)=False:=eq_false hk0;by_cases hk16:o.kind=16
  ·have e16:(o.kind=16)=True:=eq_true hk16;have hd16:jB iJ c μ o full=(kJ 0,aZ μ o full):=by unfold jB;rw[if_neg (by rw[hck];simp),if_neg hk0,if_pos hk16]
   simp(maxDischargeDepth:=12) (maxSteps:=1000000) -implicitDefEqProofs only[go_sem,Nat.reduceAdd,Nat.reduceSub,Nat.reduceMul,Nat.reduceLeDiff,Nat.reduceEqDiff,Nat.reduceGT,Nat.reduceBEq,reduceCtorEq,↓reduceIte,Int.reduceToNat,Int.reduceLE,Int.reduceLT,Int.reduceNe,Int.reduceEq,n1,e0,e16];refine an (KF hIX hM hN) ?_;rintro _ T ⟨g',k1,k2⟩;have t6:lk T.box b6.n=some [dI 0,dI 0,.sl 0 true [],dI 0,dI 0,dI 0,dI 0,.sl 0 true []]:=k2.box _ _ h6l x6;simp(maxDischargeDepth:=12) (maxSteps:=1000000) -implicitDefEqProofs only[go_sem,Nat.reduceAdd,Nat.reduceSub,Nat.reduceMul,Nat.reduceLeDiff,Nat.reduceEqDiff,Nat.reduceGT,Nat.reduceBEq,reduceCtorEq,↓reduceIte,Int.reduceToNat,Int.reduceLE,Int.reduceLT,Int.reduceNe,Int.reduceEq,t6];obtain⟨j1,j2⟩:=rR k1 ((fX.has hHX).trans k2) h6S (h6g k2) [dI 0,dI 0,.sl 0 true [],dI 0,dI 0,dI 0,dI 0,.sl 0 true []];rw[hd16];exact⟨.agg ⟨.refl _,.refl _,.nil _ _ _,.refl _,.refl _,.refl _,.refl _,.nil _ _ _,trivial⟩,_,j1,j2⟩
  have e16:(o.kind=16)=False:=eq_false hk16;have hlv:0≤o.level∧o.level<(μ.l.length:Int):=hck'.2.resolve_left hk16;have hxo:g.ls[o.level.toNat]? =some (g.ls[o.level.toNat]'(by omega)):=Wb _;generalize g.ls[o.level.toNat]'(by omega)=own at hxo;simp(maxDischargeDepth:=12) (maxSteps:=1000000) -implicitDefEqProofs only[go_sem,Nat.reduceAdd,Nat.reduceSub,Nat.reduceMul,Nat.reduceLeDiff,Nat.reduceEqDiff,Nat.reduceGT,Nat.reduceBEq,reduceCtorEq,↓reduceIte,Int.reduceToNat,Int.reduceLE,Int.reduceLT,Int.reduceNe,Int.reduceEq,n1,e0,e16];refine Y.u6 [12] [] [0,2,3,4,5,7,1,6,8,9,10,11,12,13] mx (by kernel_rfl) ?_;simp(maxDischargeDepth:=12) (maxSteps:=1000000) -implicitDefEqProofs only[go_sem,Nat.reduceAdd,Nat.reduceSub,Nat.reduceMul,Nat.reduceLeDiff,Nat.reduceEqDiff,Nat.reduceGT,Nat.reduceBEq,reduceCtorEq,↓reduceIte,Int.reduceToNat,Int.reduceLE,Int.reduceLT,Int.reduceNe,Int.reduceEq,n1,hmd,hm4,hm6,hxo];refine⟨hlv.1,by omega,fun bw=>?_⟩;have m4:=aG bw b4.n (by simp(maxDischargeDepth:=12) (maxSteps:=1000000) -implicitDefEqProofs only[go_sem,Nat.reduceAdd,Nat.reduceSub,Nat.reduceMul,Nat.reduceLeDiff,Nat.reduceEqDiff,Nat.reduceGT,Nat.reduceBEq,reduceCtorEq,↓reduceIte,Int.reduceToNat,Int.reduceLE,Int.reduceLT,Int.reduceNe,Int.reduceEq,n1]);have m6:=aG bw b6.n (by simp(maxDischargeDepth:=12) (maxSteps:=1000000) -implicitDefEqProofs only[go_sem,Nat.reduceAdd,Nat.reduceSub,Nat.reduceMul,Nat.reduceLeDiff,Nat.reduceEqDiff,Nat.reduceGT,Nat.reduceBEq,reduceCtorEq,↓reduceIte,Int.reduceToNat,Int.reduceLE,Int.reduceLT,Int.reduceNe,Int.reduceEq]);have mm:=aG bw g.m (by simp(maxDischargeDepth:=12) (maxSteps:=1000000) -implicitDefEqProofs only[go_sem,Nat.reduceAdd,Nat.reduceSub,Nat.reduceMul,Nat.reduceLeDiff,Nat.reduceEqDiff,Nat.reduceGT,Nat.reduceBEq,reduceCtorEq,↓reduceIte,Int.reduceToNat,Int.reduceLE,Int.reduceLT,Int.reduceNe,Int.reduceEq,hmd,hm4,hm6])
  have hbwS:lk S.box bw.n=none:=by
   have q:=aj bw;simp only[lk]at q;rw[if_neg (fun e=>by rw[←m6];exact e.symm),if_neg (fun e=>by rw[←m4];exact e.symm)]at q;exact q
  have hbwl:bw.n∉g.bx:=fun q=>hI.lT q hbwS;refine Y.u6 [] [7] [0,1,2,4,3,5,6,7] mx (by kernel_rfl) ?_;simp(maxDischargeDepth:=12) (maxSteps:=1000000) -implicitDefEqProofs only[go_sem,Nat.reduceAdd,Nat.reduceSub,Nat.reduceMul,Nat.reduceLeDiff,Nat.reduceEqDiff,Nat.reduceGT,Nat.reduceBEq,reduceCtorEq,↓reduceIte,Int.reduceToNat,Int.reduceLE,Int.reduceLT,Int.reduceNe,Int.reduceEq,n1,hmd,hm4,hm6,m4,m6,mm];obtain⟨X2,hX2⟩:∃X2:St,X2=⟨(bw.n,qf g.m own o full)::(b6.n,[dI 0,dI 0,.sl 0 true [],dI 0,dI 0,dI 0,dI 0,.sl 0 true []])::(b4.n,[dI o.kind,dI o.level,dI o.aH,dI o.snap,dS (tx o.bucket),dS (tx o.key),dS (tx o.value),dI o.label,dI o.fk,dI o.n,.sl 1 false (az o.cb)])::S.box,S.acc⟩:=⟨_,rfl⟩;have hXX2:Has ⟨(b6.n,[dI 0,dI 0,.sl 0 true [],dI 0,dI 0,dI 0,dI 0,.sl 0 true []])::(b4.n,[dI o.kind,dI o.level,dI o.aH,dI o.snap,dS (tx o.bucket),dS (tx o.key),dS (tx o.value),dI o.label,dI o.fk,dI o.n,.sl 1 false (az o.cb)])::S.box,S.acc⟩ X2:=by rw[hX2];exact⟨fun b x q=>ai (aj bw) q,fun _ _ q=>q⟩
  have y4:lk X2.box b4.n=some [dI o.kind,dI o.level,dI o.aH,dI o.snap,dS (tx o.bucket),dS (tx o.key),dS (tx o.value),dI o.label,dI o.fk,dI o.n,.sl 1 false (az o.cb)]:=hXX2.box _ _ x4;have y6:lk X2.box b6.n=some [dI 0,dI 0,.sl 0 true [],dI 0,dI 0,dI 0,dI 0,.sl 0 true []]:=hXX2.box _ _ x6;have yw:lk X2.box bw.n=some (qf g.m own o full):=by rw[hX2];simp[lk]
  have hI2:=hIX.has hXX2;subst hX2;refine Y.iL (fun T hT=>dw _ (hT.box _ _ yw)) ?_;simp(maxDischargeDepth:=12) (maxSteps:=1000000) -implicitDefEqProofs only[go_sem,Nat.reduceAdd,Nat.reduceSub,Nat.reduceMul,Nat.reduceLeDiff,Nat.reduceEqDiff,Nat.reduceGT,Nat.reduceBEq,reduceCtorEq,↓reduceIte,Int.reduceToNat,Int.reduceLE,Int.reduceLT,Int.reduceNe,Int.reduceEq,n1,hmd,hm4,hm6,m4,m6,mm];refine Y.iL (fun T hT=>RA _ (hI2.has hT).tb o.level o.aH) ?_;by_cases hopen:dM μ.r o.level o.aH<μ.r.length
  case neg=>
   rw[decide_eq_false hopen];simp(maxDischargeDepth:=12) (maxSteps:=1000000) -implicitDefEqProofs only[go_sem,Nat.reduceAdd,Nat.reduceSub,Nat.reduceMul,Nat.reduceLeDiff,Nat.reduceEqDiff,Nat.reduceGT,Nat.reduceBEq,reduceCtorEq,↓reduceIte,Int.reduceToNat,Int.reduceLE,Int.reduceLT,Int.reduceNe,Int.reduceEq];refine an (aA _ false 30 _ fun _ T hT=>?_) ?_
   ·exact hpan 30 (by unfold jB;rw[if_neg (by rw[hck];simp),if_neg hk0,if_neg hk16,if_pos hopen]) T g ((hI2.has hT).le (WK N)) ((fX.has hXX2).trans (.has hT))
   rintro _ _ ⟨q,_⟩;cases q
  rw[decide_eq_true hopen];simp(maxDischargeDepth:=12) (maxSteps:=1000000) -implicitDefEqProofs only[go_sem,Nat.reduceAdd,Nat.reduceSub,Nat.reduceMul,Nat.reduceLeDiff,Nat.reduceEqDiff,Nat.reduceGT,Nat.reduceBEq,reduceCtorEq,↓reduceIte,Int.reduceToNat,Int.reduceLE,Int.reduceLT,Int.reduceNe,Int.reduceEq];refine an (aA _ true 30 _ fun h=>by cases h) ?_;rintro _ _ ⟨_,rfl,rfl⟩;have hdm:jB iJ c μ o full=HF μ (JA iJ c μ o full):=by unfold jB;rw[if_neg (by rw[hck];simp),if_neg hk0,if_neg hk16,if_neg (fun q=>q hopen)]
  have hses:o.aH≠0:=by
   obtain⟨s,hs,_⟩:=kK hopen;have:=(hI.tb.ok.le hs).1;rw[(eB hs).2.1]at this;omega
  have hwk:ld ⟨(bw.n,qf g.m own o full)::(b6.n,[dI 0,dI 0,.sl 0 true [],dI 0,dI 0,dI 0,dI 0,.sl 0 true []])::(b4.n,[dI o.kind,dI o.level,dI o.aH,dI o.snap,dS (tx o.bucket),dS (tx o.key),dS (tx o.value),dI o.label,dI o.fk,dI o.n,.sl 1 false (az o.cb)])::S.box,S.acc⟩ g bw.n own o full:=⟨yw,hxo,hlv.1,hbwl,hses⟩;simp(maxDischargeDepth:=12) (maxSteps:=1000000) -implicitDefEqProofs only[go_sem,Nat.reduceAdd,Nat.reduceSub,Nat.reduceMul,Nat.reduceLeDiff,Nat.reduceEqDiff,Nat.reduceGT,Nat.reduceBEq,reduceCtorEq,↓reduceIte,Int.reduceToNat,Int.reduceLE,Int.reduceLT,Int.reduceNe,Int.reduceEq];refine Y.u6 [0] [3,5,6] [1,4,2,0,3,5,6] mx (by kernel_rfl) ?_;simp(maxDischargeDepth:=12) (maxSteps:=1000000) -implicitDefEqProofs only[go_sem,Nat.reduceAdd,Nat.reduceSub,Nat.reduceMul,Nat.reduceLeDiff,Nat.reduceEqDiff,Nat.reduceGT,Nat.reduceBEq,reduceCtorEq,↓reduceIte,Int.reduceToNat,Int.reduceLE,Int.reduceLT,Int.reduceNe,Int.reduceEq,m4,n1];refine an (Le _ _) ?_;rintro _ _ ⟨l,es,cl,rfl,rfl,hget⟩;have hgk:=hget o.kind (by omega) (by omega);have hokf:=Dq (k:=o.kind) (by omega) (by omega);simp(maxDischargeDepth:=12) (maxSteps:=1000000) -implicitDefEqProofs only[go_sem,Nat.reduceAdd,Nat.reduceSub,Nat.reduceMul,Nat.reduceLeDiff,Nat.reduceEqDiff,Nat.reduceGT,Nat.reduceBEq,reduceCtorEq,↓reduceIte,Int.reduceToNat,Int.reduceLE,Int.reduceLT,Int.reduceNe,Int.reduceEq,m4,n1,hgk,hokf];have hX3:Has ⟨(bw.n,qf g.m own o full)::(b6.n,[dI 0,dI 0,.sl 0 true [],dI 0,dI 0,dI 0,dI 0,.sl 0 true []])::(b4.n,[dI o.kind,dI o.level,dI o.aH,dI o.snap,dS (tx o.bucket),dS (tx o.key),dS (tx o.value),dI o.label,dI o.fk,dI o.n,.sl 1 false (az o.cb)])::S.box,S.acc⟩ ⟨(bw.n,qf g.m own o full)::(b6.n,[dI 0,dI 0,.sl 0 true [],dI 0,dI 0,dI 0,dI 0,.sl 0 true []])::(b4.n,[dI o.kind,dI o.level,dI o.aH,dI o.snap,dS (tx o.bucket),dS (tx o.key),dS (tx o.value),dI o.label,dI o.fk,dI o.n,.sl 1 false (az o.cb)])::S.box,(l.n,.xo (.mp (.int .i64) es cl))::S.acc⟩:=⟨fun _ _ q=>q,fun a x q=>ai (aj l) q⟩;refine Sz (TS (w0:=⟨w0.w,w0.gh,pq⟩) hgC (hI2.has hX3) hM hgr hN (hwk.has hX3) (by omega) (by omega) fun e he T g' k1 k2=>hpan e (by rw[hdm,he];rfl) T g' k1 (((fX.has hXX2).trans (.has hX3)).trans k2)) ?_;rintro d T ⟨r,μ',g',ho,hwd,k1,k2⟩;refine⟨J0 r,hwd,?_⟩;have hFX:=((fX.has hXX2).trans (.has hX3)).trans k2;have t6:lk T.box b6.n=some [dI 0,dI 0,.sl 0 true [],dI 0,dI 0,dI 0,dI 0,.sl 0 true []]:=hFX.box _ _ h6l x6;rw[ho]at hdm;simp(maxDischargeDepth:=12) (maxSteps:=1000000) -implicitDefEqProofs only[go_sem,Nat.reduceAdd,Nat.reduceSub,Nat.reduceMul,Nat.reduceLeDiff,Nat.reduceEqDiff,Nat.reduceGT,Nat.reduceBEq,reduceCtorEq,↓reduceIte,Int.reduceToNat,Int.reduceLE,Int.reduceLT,Int.reduceNe,Int.reduceEq,t6];obtain⟨j1,j2⟩:=rR k1 ((fX.has hHX).trans hFX) h6S (h6g hFX) [dI r.e,dI r.n,.sl 3 false (r.rows.map qo),dI 0,dI 0,dI 0,dI 0,.sl 6 false (r.LW.map ur)];rw[hdm];exact⟨.refl _,g',j1,j2⟩
 ·intro w;exact fO (DT (fz none) (fun _=>trivial) rfl ⟨b6.n,0,none⟩ w) fun e u w' h=>⟨⟨_,h.1⟩,h.2.1,h.2.2⟩
 ·rintro g0 T w v d r hv hq;rw[hpq]at hq;obtain⟨e,he,rfl,g',hIT,hFT⟩:=hq;obtain⟨u,rfl,hu⟩:=jH hv;have hu:=ak hu;subst hu;have t6:lk T.box b6.n=some [dI 0,dI 0,.sl 0 true [],dI 0,dI 0,dI 0,dI 0,.sl 0 true []]:=hFT.box _ _ h6l x6;obtain⟨us,e1,hh,hru,hone,hset⟩:=r.xy (ds':=[dI e,dI 0,.sl 0 true [],dI 0,dI 0,dI 0,dI 0,.sl 0 true []]) t6;have hus:us.size=8:=by have:=hru.len;simpa using this.symm
  refine fO (Jg (fz none) (fun _=>trivial) rfl b6.n e1 us e [] w hh hus) ?_;rintro e' u' w' ⟨h1,h2,h3⟩;refine⟨⟨_,h1⟩,h2,g0,⟨up T.box b6.n [dI e,dI 0,.sl 0 true [],dI 0,dI 0,dI 0,dI 0,.sl 0 true []],T.acc⟩,.refl g0,?_,?_⟩
  ·rw[h3];refine hset _ ?_ ?_
   ·exact ae.cons (.v _ rfl) (ae.cons (.v _ rfl) (ae.cons (.nil 0 true none 0 fun _=>rfl) (ae.cons (.v _ rfl) (ae.cons (.v _ rfl) (ae.cons (.v _ rfl) (ae.cons (.v _ rfl) (ae.cons (.nil 0 true none 0 fun _=>rfl) (ae.nil _))))))))
   ·intro u hu;simp at hu
    repeat' first|(rcases hu with rfl|hu;rfl)|(subst hu;rfl)
  ·simp(maxDischargeDepth:=12) (maxSteps:=1000000) -implicitDefEqProofs only[go_sem,Nat.reduceAdd,Nat.reduceSub,Nat.reduceMul,Nat.reduceLeDiff,Nat.reduceEqDiff,Nat.reduceGT,Nat.reduceBEq,reduceCtorEq,↓reduceIte,Int.reduceToNat,Int.reduceLE,Int.reduceLT,Int.reduceNe,Int.reduceEq,t6];obtain⟨k1,k2⟩:=rR hIT ((fX.has hHX).trans hFT) h6S (h6g hFT) [dI e,dI 0,.sl 0 true [],dI 0,dI 0,dI 0,dI 0,.sl 0 true []];rw[he];exact⟨.agg ⟨.refl _,.refl _,.nil _ _ _,.refl _,.refl _,.refl _,.refl _,.nil _ _ _,trivial⟩,g',k1,k2⟩
theorem Tt{w0:W0}{S:St}{g:MG}{N:Nat}{c:Cf}{μ:bO}{o:bI}{full:Bool}(hgO:mN w0)(hgC:kf w0)(hI:MI S g N c μ)(hM:gV N c μ)(hgr:c.gr.length≤1048576)(hN:N≤10000):
 aa Tryz.prog w0 12 [bd g.m,IV o,dB full] S (fun d S'=>d=J0 (jB iJ c μ o full).1∧∃g',MI S' g' (N+1) c (jB iJ c μ o full).2∧fX S S' g g'):=
 gP (R9 hgO hgC hI hM hgr hN) (eK.refl _) fun d S' h=>⟨_,h.1,rfl,h.2⟩
end Go.Proofs.YtoepfmhnapedoaaGreatDoor
namespace Aml.Y
open Go Go.RowKit
section
variable {P:Program} {w0:W0} {S0 S1:St} {ops:Array Oper} {md:Region.Mode}
def GS(gs ns:List Nat)(md:Region.Mode)(ops:Array Oper)(F:Array Bool→Bool):List Nat→Array Bool→Bool
 |[],listed=>F listed
 |k::ks,listed=>(Region.ready md ops listed).contains k&&Km gs ns md ops listed k&&GS gs ns md ops F ks (listed.setIfInBounds k true)
theorem oH{k:Nat}{listed:Array Bool}{m:Nat}(hun:listed.getD k true=false)(hcnt:∀l':List Nat,l'.Nodup→(∀k,k∈l'→listed.getD k true=false)→l'.length≤m+1):∀l':List Nat,l'.Nodup→(∀j,j∈l'→(listed.setIfInBounds k true).getD j true=false)→l'.length≤m:=by
 intro l' hn hl'
 have hks:k<listed.size:=by
  rcases WN k listed.size with h|h
  ·exact h
  ·rw[Wz,Xd h]at hun;cases hun
 have hkl:k∉l':=fun hk=>by
  have:=hl' k hk;rw[Wz,WB]at this;simp[hks]at this
 have:=hcnt (k::l') (Wv.2 ⟨hkl,hn⟩) fun m hm=>by
  rcases Wt.1 hm with rfl|hm
  ·exact hun
  ·have:=hl' m hm;rw[getD_set_ne true (show k≠m from fun e=>hkl (e▸hm))]at this;exact this
 simp at this;omega
theorem JW(hSS:∀T,Hm S0 T→Hm S1 T){gs ns:List Nat}{K G:List DV→St→Prop}{F:Array Bool→Bool}{m:Nat}
 (hG:∀listed fr S,F listed=true→(∀l':List Nat,l'.Nodup→(∀k,k∈l'→listed.getD k true=false)→l'.length≤m)→G fr S→GL P w0 S0 S1 gs ns md ops K m listed fr S):∀(l:List Nat) (listed:Array Bool) (fr:List DV) (S:St),
 (∀l':List Nat,l'.Nodup→(∀k,k∈l'→listed.getD k true=false)→l'.length≤l.length+m)→
 GS gs ns md ops F l listed=true→LO P w0 S0 S1 gs ns ops G l fr S→GL P w0 S0 S1 gs ns md ops K (l.length+m) listed fr S
 |[],listed,fr,S,hcnt,hB,h=>by
  simp only[WR,Xj]at hcnt ⊢;exact hG listed fr S hB hcnt h
 |k::l,listed,fr,S,hcnt,hB,h=>by
  simp only[GS,We]at hB;obtain⟨⟨hr,hf⟩,hB'⟩:=hB;have hr':k∈Region.ready md ops listed:=by simpa using hr
  have hun:=(mem_ready.1 hr').1;unfold LO at h;split at h
  ·exact h.elim
  rename_i o h0
  have hcnt':∀l':List Nat,l'.Nodup→(∀k,k∈l'→listed.getD k true=false)→l'.length≤(l.length+m)+1:=fun l' a b=>by
   have:=hcnt l' a b;simp only[Wq]at this;omega
  have e:(k::l).length+m=(l.length+m)+1:=by simp only[Wq];omega
  rw[e];refine qK hSS h0 (l.length+m) listed fr S (qP hf) (pS h0 hf) hcnt' hr' ?_;exact cP (fun fr S h=>⟨S,.refl S,JW hSS hG l _ fr S (oH hun hcnt') hB' h⟩) h
theorem nS{gs ns:List Nat}{K K':List DV→St→Prop}(h:∀fr S,K fr S→K' fr S):∀(l:List Nat) {fr:List DV} {S:St},LO P w0 S0 S1 gs ns ops K l fr S→LO P w0 S0 S1 gs ns ops K' l fr S
 |[],fr,S,q=>h _ _ q
 |i::is,fr,S,q=>by
  unfold LO at q ⊢;split at q
  ·exact q.elim
  ·exact cP (fun fr S q=>nS h is q) q
inductive Tr where
 |ord (l:List Nat)
 |br (pre:List Nat) (a:Nat) (ta:Tr) (b:Nat) (tb:Tr)
def JN:Tr→Nat
 | .ord l=>l.length
 | .br pre a ta b tb=>pre.length+(JN ta+1)
def GD(gs ns:List Nat)(ops:Array Oper):Tr→Array Bool→Bool
 | .ord l,listed=>tI gs ns .any ops l listed
 | .br pre a ta b tb,listed=>JN ta==JN tb&&GS gs ns .any ops (fun listed=>(Region.ready .any ops listed).all (fun i=>i==a||i==b)&&!(Region.ready .any ops listed).isEmpty&&GD gs ns ops ta (listed.setIfInBounds a true)&&GD gs ns ops tb (listed.setIfInBounds b true)) pre listed
def LT(P:Program)(w0:W0)(S0 S1:St)(gs ns:List Nat)(ops:Array Oper)(K:List DV→St→Prop):Tr→List DV→St→Prop
 | .ord l,fr,S=>LO P w0 S0 S1 gs ns ops K l fr S
 | .br pre a ta b tb,fr,S=>LO P w0 S0 S1 gs ns ops (fun fr S=>LO P w0 S0 S1 gs ns ops (LT P w0 S0 S1 gs ns ops K ta) [a] fr S∧LO P w0 S0 S1 gs ns ops (LT P w0 S0 S1 gs ns ops K tb) [b] fr S) pre fr S
def JE(P:Program)(w0:W0)(S0 S1:St)(gs ns:List Nat)(ops:Array Oper)(K:List DV→St→Prop):Tr→List DV→St→Prop
 | .ord l,fr,S=>jD P w0 S0 S1 gs ns ops K l fr S
 | .br pre a ta b tb,fr,S=>jD P w0 S0 S1 gs ns ops (fun fr S=>jD P w0 S0 S1 gs ns ops (JE P w0 S0 S1 gs ns ops K ta) [a] fr S∧jD P w0 S0 S1 gs ns ops (JE P w0 S0 S1 gs ns ops K tb) [b] fr S) pre fr S
theorem mz{gs ns:List Nat}{K:List DV→St→Prop}(hs:∀(i:Nat) (o:Oper),ops[i]? =some o→eP o.op=true):∀(t:Tr) {fr:List DV} {S:St},JE P w0 S0 S1 gs ns ops K t fr S→LT P w0 S0 S1 gs ns ops K t fr S
 | .ord l,fr,S,h=>cm hs l h
 | .br pre a ta b tb,fr,S,h=>nS (fun fr S h=>⟨nS (fun fr S h=>mz hs ta h) _ (cm hs _ h.1),nS (fun fr S h=>mz hs tb h) _ (cm hs _ h.2)⟩) pre (cm hs pre h)
theorem DR(hSS:∀T,Hm S0 T→Hm S1 T){gs ns:List Nat}{K:List DV→St→Prop}:∀(t:Tr) (listed:Array Bool) (fr:List DV) (S:St),
 (∀l':List Nat,l'.Nodup→(∀k,k∈l'→listed.getD k true=false)→l'.length≤JN t)→
 GD gs ns ops t listed=true→LT P w0 S0 S1 gs ns ops K t fr S→GL P w0 S0 S1 gs ns .any ops K (JN t) listed fr S
 | .ord l,listed,fr,S,hcnt,hB,h=>nG hSS l listed fr S hcnt hB h
 | .br pre a ta b tb,listed,fr,S,hcnt,hB,h=>by
  simp only[GD,We,beq_iff_eq]at hB;obtain⟨he,hB⟩:=hB;refine JW hSS (m:=JN ta+1) (fun listed fr S hF hc hG=>?_) pre listed fr S hcnt hB h;simp only[We]at hF;obtain⟨⟨⟨hr,hne⟩,ha⟩,hb⟩:=hF;refine⟨fun h0=>(by rw[h0]at hne;cases hne),fun i hi=>?_⟩;have hik:i=a∨i=b:=by have:=Ww.1 hr i hi;simpa using this
  have hun:=(mem_ready.1 hi).1;rcases hik with rfl|rfl
  ·have hq:=hG.1;unfold LO at hq;unfold pE
   cases ho:ops[i]? with
   |none=>rw[ho]at hq;exact hq.elim
   |some o=>
    rw[ho]at hq;simp only at hq ⊢;exact cP (fun fr S h=>⟨S,.refl S,DR hSS ta _ fr S (oH hun hc) ha h⟩) hq
  ·have hq:=hG.2;unfold LO at hq;unfold pE
   cases ho:ops[i]? with
   |none=>rw[ho]at hq;exact hq.elim
   |some o=>
    rw[ho]at hq;simp only at hq ⊢;exact cP (fun fr S h=>⟨S,.refl S,by rw[he];exact DR hSS tb _ fr S (fun l' x y=>by have:=oH hun hc l' x y;rw[he]at this;exact this) hb h⟩) hq
def Pu(l:List Oper)(gs ns:List Nat)(t:Tr):Bool:=l.all (fun o=>eP o.op)&&GD gs ns l.toArray t (Array.replicate l.length false)&&(JN t==l.length)
theorem SA(S0 S1:St)(gs ns:List Nat)(t:Tr){id:Nat}{l:List Oper}{fr:List DV}{S:St}{Q:Exit→List DV→St→Prop}(hm:P.follows .mixedOrders=true)(hB:Pu l gs ns t=true)(hSS:∀T,Hm S0 T→Hm S1 T)
 (h:JE P w0 S0 S1 gs ns l.toArray (fun fr S=>gl fr fun fr=>Q .normal fr S) t fr S):fc P w0 (.region id l.toArray true) fr S Q:=by
 simp only[Pu,We,beq_iff_eq]at hB
 have hs:∀(i:Nat) (o:Oper),l.toArray[i]? =some o→eP o.op=true:=fun i o ho=>by
  have:l[i]? =some o:=by simpa using ho
  exact Ww.1 hB.1.1 o (Wc this)
 have h':=mz hs t h;intro g a' w h1 h2 h3;refine dE hm fun ro=>?_;have hR:Rel w0 g S {w with drawn:=w.drawn+1}:=h1.grow (iD w)
 have hcnt:∀l':List Nat,l'.Nodup→(∀k,k∈l'→(Array.replicate l.length false).getD k true=false)→l'.length≤JN t:=by
  intro l' hn hl
  have hsub:∀k,k∈l'→k∈List.range l.length:=fun k hk=>by
   have:=hl k hk;rw[Xh];rcases WN k l.length with h|h
   ·exact h
   ·rw[Wz,Xd (by simpa using h)]at this;cases this
  have:=hn.length_le_of_subset (l₂:=List.range l.length) hsub;rw[hB.2];simpa using this
 have:=DR (P:=P) (w0:=w0) (S0:=S0) (S1:=S1) (ops:=l.toArray) (K:=fun fr S=>Q .normal fr S) hSS t (Array.replicate l.length false) fr S hcnt hB.1.2 ?_
 ·have:=fD (ro:=ro) (g0:=g) (Q:=Q) _ _ fr S g a' _ (.refl g) hR h2 (h3.cb rfl fun _ _ h _=>h) this;rw[hB.2]at this;simpa using this
 ·exact h'
end
section
variable {P:Program} {w0:W0} {S0 S1:St} {gs ns:List Nat} {ops:Array Oper} {fr:List DV} {S:St} {K:List DV→St→Prop}
theorem Pq(l:List Nat):JE P w0 S0 S1 gs ns ops K (.ord l) fr S=jD P w0 S0 S1 gs ns ops K l fr S:=rfl
theorem SM(pre:List Nat)(a:Nat)(ta:Tr)(b:Nat)(tb:Tr):JE P w0 S0 S1 gs ns ops K (.br pre a ta b tb) fr S=jD P w0 S0 S1 gs ns ops (fun fr S=>jD P w0 S0 S1 gs ns ops (JE P w0 S0 S1 gs ns ops K ta) [a] fr S∧jD P w0 S0 S1 gs ns ops (JE P w0 S0 S1 gs ns ops K tb) [b] fr S) pre fr S:=rfl
end
attribute [go_sem ↓] Pq SM
end Aml.Y
namespace Go.Proofs.YtoepfmhnapedoaaGreatDoor
open Aml Go Rn Lat Grs
theorem K1(w0:W0)(l:List (List UInt8))(S:St)(h0:l.length≤1048576):aa Tryz.prog w0 27 [.sl 1 false (az l)] S fun d S'=>d= .sl 1 false (az l)∧S'=S:=by
 refine dY (aa.mono (K:=fun d S'=>∃b:FN S.acc,d= .acc b.n (az l).length∧S'=⟨S.box,(b.n,.arr 1 (az l))::S.acc⟩) ?_ ?_)
 ·refine zH 1 (by omega) ?_;refine jn [] mx Tryz.func27 rfl rfl (by kernel_rfl) ?_;simp(maxDischargeDepth:=12) (maxSteps:=1000000) -implicitDefEqProofs only[Tryz.ntmps27,go_sem,Nat.reduceAdd,Nat.reduceSub,Nat.reduceMul,Nat.reduceLeDiff,Nat.reduceEqDiff,Nat.reduceGT,Nat.reduceBEq,reduceCtorEq,↓reduceIte,Int.reduceToNat,Int.reduceLE,Int.reduceLT,Int.reduceNe,Int.reduceEq];intro b hb;refine⟨fun h1=> .inl ⟨W8 fun hn=>?_,0,rfl⟩,fun h1=>⟨by omega,by unfold maxLen;omega,fun c=> .inr ⟨c,rfl,rfl⟩⟩⟩;rw[hb hn]at h1;cases h1
 ·rintro d S' ⟨b,rfl,rfl⟩;simp(maxDischargeDepth:=12) (maxSteps:=1000000) -implicitDefEqProofs only[go_sem,Nat.reduceAdd,Nat.reduceSub,Nat.reduceMul,Nat.reduceLeDiff,Nat.reduceEqDiff,Nat.reduceGT,Nat.reduceBEq,reduceCtorEq,↓reduceIte,Int.reduceToNat,Int.reduceLE,Int.reduceLT,Int.reduceNe,Int.reduceEq]
theorem Mm(w0:W0)(l:List Nat)(S:St)(h0:l.length≤1048576):aa Tryz.prog w0 28 [.sl 1 false ((l.map fun x:Nat=>dU (x:Int)))] S fun d S'=>d= .sl 1 false ((l.map fun x:Nat=>dU (x:Int)))∧S'=S:=by
 refine dY (aa.mono (K:=fun d S'=>∃b:FN S.acc,d= .acc b.n ((l.map fun x:Nat=>dU (x:Int))).length∧S'=⟨S.box,(b.n,.arr 1 ((l.map fun x:Nat=>dU (x:Int))))::S.acc⟩) ?_ ?_)
 ·refine zH 1 (by omega) ?_;refine jn [] mx Tryz.func28 rfl rfl (by kernel_rfl) ?_;simp(maxDischargeDepth:=12) (maxSteps:=1000000) -implicitDefEqProofs only[Tryz.ntmps28,go_sem,Nat.reduceAdd,Nat.reduceSub,Nat.reduceMul,Nat.reduceLeDiff,Nat.reduceEqDiff,Nat.reduceGT,Nat.reduceBEq,reduceCtorEq,↓reduceIte,Int.reduceToNat,Int.reduceLE,Int.reduceLT,Int.reduceNe,Int.reduceEq];intro b hb;refine⟨fun h1=> .inl ⟨W8 fun hn=>?_,0,rfl⟩,fun h1=>⟨by omega,by unfold maxLen;omega,fun c=> .inr ⟨c,rfl,rfl⟩⟩⟩;rw[hb hn]at h1;cases h1
 ·rintro d S' ⟨b,rfl,rfl⟩;simp(maxDischargeDepth:=12) (maxSteps:=1000000) -implicitDefEqProofs only[go_sem,Nat.reduceAdd,Nat.reduceSub,Nat.reduceMul,Nat.reduceLeDiff,Nat.reduceEqDiff,Nat.reduceGT,Nat.reduceBEq,reduceCtorEq,↓reduceIte,Int.reduceToNat,Int.reduceLE,Int.reduceLT,Int.reduceNe,Int.reduceEq]
theorem L8(w0:W0)(l:List Int)(S:St)(h0:l.length≤1048576):aa Tryz.prog w0 29 [.sl 1 false (l.map dI)] S fun d S'=>d= .sl 1 false (l.map dI)∧S'=S:=by
 refine dY (aa.mono (K:=fun d S'=>∃b:FN S.acc,d= .acc b.n (l.map dI).length∧S'=⟨S.box,(b.n,.arr 1 (l.map dI))::S.acc⟩) ?_ ?_)
 ·refine zH 1 (by omega) ?_;refine jn [] mx Tryz.func29 rfl rfl (by kernel_rfl) ?_;simp(maxDischargeDepth:=12) (maxSteps:=1000000) -implicitDefEqProofs only[Tryz.ntmps29,go_sem,Nat.reduceAdd,Nat.reduceSub,Nat.reduceMul,Nat.reduceLeDiff,Nat.reduceEqDiff,Nat.reduceGT,Nat.reduceBEq,reduceCtorEq,↓reduceIte,Int.reduceToNat,Int.reduceLE,Int.reduceLT,Int.reduceNe,Int.reduceEq];intro b hb;refine⟨fun h1=> .inl ⟨W8 fun hn=>?_,0,rfl⟩,fun h1=>⟨by omega,by unfold maxLen;omega,fun c=> .inr ⟨c,rfl,rfl⟩⟩⟩;rw[hb hn]at h1;cases h1
 ·rintro d S' ⟨b,rfl,rfl⟩;simp(maxDischargeDepth:=12) (maxSteps:=1000000) -implicitDefEqProofs only[go_sem,Nat.reduceAdd,Nat.reduceSub,Nat.reduceMul,Nat.reduceLeDiff,Nat.reduceEqDiff,Nat.reduceGT,Nat.reduceBEq,reduceCtorEq,↓reduceIte,Int.reduceToNat,Int.reduceLE,Int.reduceLT,Int.reduceNe,Int.reduceEq]
theorem Lz(w0:W0)(l:List G)(S:St)(h0:l.length≤1048576):aa Tryz.prog w0 30 [.sl 3 false (l.map gD)] S fun d S'=>d= .sl 3 false (l.map gD)∧S'=S:=by
 refine dY (aa.mono (K:=fun d S'=>∃b:FN S.acc,d= .acc b.n (l.map gD).length∧S'=⟨S.box,(b.n,.arr 3 (l.map gD))::S.acc⟩) ?_ ?_)
 ·refine zH 3 (by omega) ?_;refine jn [] mx Tryz.func30 rfl rfl (by kernel_rfl) ?_;simp(maxDischargeDepth:=12) (maxSteps:=1000000) -implicitDefEqProofs only[Tryz.ntmps30,go_sem,Nat.reduceAdd,Nat.reduceSub,Nat.reduceMul,Nat.reduceLeDiff,Nat.reduceEqDiff,Nat.reduceGT,Nat.reduceBEq,reduceCtorEq,↓reduceIte,Int.reduceToNat,Int.reduceLE,Int.reduceLT,Int.reduceNe,Int.reduceEq];intro b hb;refine⟨fun h1=> .inl ⟨W8 fun hn=>?_,0,rfl⟩,fun h1=>⟨by omega,by unfold maxLen;omega,fun c=> .inr ⟨c,rfl,rfl⟩⟩⟩;rw[hb hn]at h1;cases h1
 ·rintro d S' ⟨b,rfl,rfl⟩;simp(maxDischargeDepth:=12) (maxSteps:=1000000) -implicitDefEqProofs only[go_sem,Nat.reduceAdd,Nat.reduceSub,Nat.reduceMul,Nat.reduceLeDiff,Nat.reduceEqDiff,Nat.reduceGT,Nat.reduceBEq,reduceCtorEq,↓reduceIte,Int.reduceToNat,Int.reduceLE,Int.reduceLT,Int.reduceNe,Int.reduceEq]
def yM(n:Nat):bO:=⟨List.replicate n ⟨fun _=>none,[],0,fun _=>none⟩,[],fun _ _ _=>none⟩
theorem iH{α:Type}(b:Nat)(v:α)(L:List (Nat×α)):lk ((b,v)::L) b=some v:=by simp[lk]
def Uk(S:St)(c:Cf)(T:St)(θ:dQ)(sn m:Nat):Prop:=lk T.box m=some [.sl 1 false (az c.nm),dP c.up,kA c.qu,iM c.gr,.sl 0 true [],bd θ.t,.mp sn]∧TI T θ []∧lk T.acc sn=some (.xo (.mp (.st [.i64,.i64,.i64]) [] 0))∧(∀i v,lk S.box i=some v→lk T.box i=some v)∧(∀i v,lk S.acc i=some v→lk T.acc i=some v)∧
 (∀i,i∈θ.bx→lk S.box i=none)∧(∀i,i∈θ.ax→lk S.acc i=none)∧lk S.box m=none∧lk S.acc sn=none∧m∉θ.bx∧sn∉θ.ax
structure UG(T:St)(c:Cf)(θ:dQ)(sn m lr:Nat)(i:Nat)(B:List (Nat×List DV))(A:List (Nat×Ob))(ls:List Nat)(own:Nat→Ow):Prop where
 mb:lk B m=some [.sl 1 false (az c.nm),dP c.up,kA c.qu,iM c.gr,.acc lr i,bd θ.t,.mp sn]
 row:lk A lr=some (.arr 1 (ls.map bd))
 len:ls.length=i
 IF:∀j v,j≠m→lk T.box j=some v→lk B j=some v
 KD:∀j v,lk T.acc j=some v→lk A j=some v
 el:∀(x:Nat) bx,ls[x]? =some bx→lk T.box bx=none∧∃b r,lk B bx=some [.mp b,.acc r 0,dI 0,.v (.map none)]∧lk A b=some (.xo (.mp .str [] 0))∧lk A r=some (.arr 6 [])∧own b= .b x∧own r= .au x
 nd:ls.Nodup
 ow:∀j,own j≠ .no→lk T.acc j=none∧j≠lr∧lk A j≠none
theorem PH{w0:W0}(hgT:ga w0)(hk:KU w0)(c:Cf)(hc:zo c)(S:St):
 aa Tryz.prog w0 10 [PA c] S (fun d S'=>(¬J8 c∧d= .cE [.v (.pointer none),dI 1]∧S'=S)∨(J8 c∧∃g,d= .cE [bd g.m,dI 0]∧MI S' g 0 c (yM c.up.length)∧(∀i v,lk S.box i=some v→lk S'.box i=some v)∧(∀i v,lk S.acc i=some v→lk S'.acc i=some v)∧(∀i,i∈g.bx→lk S.box i=none)∧∀i,g.own i≠ .no→lk S.acc i=none)):=by
 have h1:=hc.Sn;have h2:=hc.Rl;have h3:=hc.Sd;have h4:=hc.QG;refine lU [4,9] mx Tryz.func10 rfl rfl (by kernel_rfl) ?_;simp(maxDischargeDepth:=12) (maxSteps:=1000000) -implicitDefEqProofs only[Tryz.ntmps10,go_sem,Nat.reduceAdd,Nat.reduceSub,Nat.reduceMul,Nat.reduceLeDiff,Nat.reduceEqDiff,Nat.reduceGT,Nat.reduceBEq,reduceCtorEq,↓reduceIte,Int.reduceToNat,Int.reduceLE,Int.reduceLT,Int.reduceNe,Int.reduceEq];intro b1;refine aw (Lj _ hgT hk c hc _) ?_;by_cases hP:J8 c
 case neg=>
  rw[jz hP];simp(maxDischargeDepth:=12) (maxSteps:=1000000) -implicitDefEqProofs only[go_sem,Nat.reduceAdd,Nat.reduceSub,Nat.reduceMul,Nat.reduceLeDiff,Nat.reduceEqDiff,Nat.reduceGT,Nat.reduceBEq,reduceCtorEq,↓reduceIte,Int.reduceToNat,Int.reduceLE,Int.reduceLT,Int.reduceNe,Int.reduceEq];exact⟨_,_,.refl _,.aP (.refl _),.inl ⟨hP,rfl,rfl⟩⟩
 rw[ij hP];simp(maxDischargeDepth:=12) (maxSteps:=1000000) -implicitDefEqProofs only[go_sem,Nat.reduceAdd,Nat.reduceSub,Nat.reduceMul,Nat.reduceLeDiff,Nat.reduceEqDiff,Nat.reduceGT,Nat.reduceBEq,reduceCtorEq,↓reduceIte,Int.reduceToNat,Int.reduceLE,Int.reduceLT,Int.reduceNe,Int.reduceEq];refine dn (K1 w0 c.nm _ h1) ?_;simp(maxDischargeDepth:=12) (maxSteps:=1000000) -implicitDefEqProofs only[go_sem,Nat.reduceAdd,Nat.reduceSub,Nat.reduceMul,Nat.reduceLeDiff,Nat.reduceEqDiff,Nat.reduceGT,Nat.reduceBEq,reduceCtorEq,↓reduceIte,Int.reduceToNat,Int.reduceLE,Int.reduceLT,Int.reduceNe,Int.reduceEq];refine dn (Mm w0 c.up _ h2) ?_;simp(maxDischargeDepth:=12) (maxSteps:=1000000) -implicitDefEqProofs only[go_sem,Nat.reduceAdd,Nat.reduceSub,Nat.reduceMul,Nat.reduceLeDiff,Nat.reduceEqDiff,Nat.reduceGT,Nat.reduceBEq,reduceCtorEq,↓reduceIte,Int.reduceToNat,Int.reduceLE,Int.reduceLT,Int.reduceNe,Int.reduceEq];refine dn (L8 w0 c.qu _ h3) ?_;simp(maxDischargeDepth:=12) (maxSteps:=1000000) -implicitDefEqProofs only[go_sem,Nat.reduceAdd,Nat.reduceSub,Nat.reduceMul,Nat.reduceLeDiff,Nat.reduceEqDiff,Nat.reduceGT,Nat.reduceBEq,reduceCtorEq,↓reduceIte,Int.reduceToNat,Int.reduceLE,Int.reduceLT,Int.reduceNe,Int.reduceEq];refine dn (Lz w0 c.gr _ h4) ?_;simp(maxDischargeDepth:=12) (maxSteps:=1000000) -implicitDefEqProofs only[go_sem,Nat.reduceAdd,Nat.reduceSub,Nat.reduceMul,Nat.reduceLeDiff,Nat.reduceEqDiff,Nat.reduceGT,Nat.reduceBEq,reduceCtorEq,↓reduceIte,Int.reduceToNat,Int.reduceLE,Int.reduceLT,Int.reduceNe,Int.reduceEq];have hb1:lk ((b1.n,[.sl 1 false (az c.nm),dP c.up,kA c.qu,iM c.gr])::S.box) b1.n=some [.sl 1 false (az c.nm),dP c.up,kA c.qu,iM c.gr]:=by simp[lk]
 refine wi (σ:=St×dQ×Nat×Nat) [4] [1,4] (fun s=>[(4,bd s.2.2.2)]) (fun s=>s.1) (fun s=>Uk ⟨(b1.n,[.sl 1 false (az c.nm),dP c.up,kA c.qu,iM c.gr])::S.box,S.acc⟩ c s.1 s.2.1 s.2.2.1 s.2.2.2) mx (by kernel_rfl) ?_ ?_
 ·refine Y.SA ⟨(b1.n,[.sl 1 false (az c.nm),dP c.up,kA c.qu,iM c.gr])::S.box,S.acc⟩ ⟨[],[]⟩ [1,2,4] [] (.br [0] 1 (.ord [2,3,4,5]) 2 (.ord [1,3,4,5])) mx (by kernel_rfl) (fun T _=>Y.oI T) ?_;simp(maxDischargeDepth:=12) (maxSteps:=1000000) -implicitDefEqProofs only[go_sem,Nat.reduceAdd,Nat.reduceSub,Nat.reduceMul,Nat.reduceLeDiff,Nat.reduceEqDiff,Nat.reduceGT,Nat.reduceBEq,reduceCtorEq,↓reduceIte,Int.reduceToNat,Int.reduceLE,Int.reduceLT,Int.reduceNe,Int.reduceEq];refine⟨?_,fun sn=>?_⟩
  ·refine an (Qf w0 _) ?_;rintro _ T ⟨θ,rfl,hT,hbx,hac,hfb,hfa⟩;simp(maxDischargeDepth:=12) (maxSteps:=1000000) -implicitDefEqProofs only[go_sem,Nat.reduceAdd,Nat.reduceSub,Nat.reduceMul,Nat.reduceLeDiff,Nat.reduceEqDiff,Nat.reduceGT,Nat.reduceBEq,reduceCtorEq,↓reduceIte,Int.reduceToNat,Int.reduceLE,Int.reduceLT,Int.reduceNe,Int.reduceEq];refine⟨⟨hbx,hac⟩,fun sn=>?_⟩;have hsn:=aj sn;refine⟨⟨hbx,fun i v q=>ai hsn (hac i v q)⟩,fun m=>?_⟩;have hm:=aj m
   have hmS:lk ((b1.n,[.sl 1 false (az c.nm),dP c.up,kA c.qu,iM c.gr])::S.box) m.n=none:=by
    cases hx:lk ((b1.n,[.sl 1 false (az c.nm),dP c.up,kA c.qu,iM c.gr])::S.box) m.n with
    |none=>rfl
    |some v=>rw[hbx _ _ hx]at hm;cases hm
   have hsS:lk S.acc sn.n=none:=by
    cases hx:lk S.acc sn.n with
    |none=>rfl
    |some v=>rw[hac _ _ hx]at hsn;cases hsn
   refine⟨⟨fun i v q=>ai hm (hbx i v q),fun i v q=>ai hsn (hac i v q)⟩,(⟨(m.n,[.sl 1 false (az c.nm),dP c.up,kA c.qu,iM c.gr,.sl 0 true [],bd θ.t,.mp sn.n])::T.box,(sn.n,.xo (.mp (.st [.i64,.i64,.i64]) [] 0))::T.acc⟩,θ,sn.n,m.n),⟨iH _ _ _,hT.mono (fun i v _ q=>ai hm q) fun i v _ q=>ai hsn q,by simp[lk],fun i v q=>ai hm (hbx i v q),fun i v q=>ai hsn (hac i v q),hfb,hfa,hmS,hsS,fun q=>hT.lT _ q hm,fun q=>hT.tK _ q hsn⟩,.refl _,.refl _⟩
  ·have hsn:=aj sn;refine an (Qf w0 _) ?_;rintro _ T ⟨θ,rfl,hT,hbx,hac,hfb,hfa⟩;simp(maxDischargeDepth:=12) (maxSteps:=1000000) -implicitDefEqProofs only[go_sem,Nat.reduceAdd,Nat.reduceSub,Nat.reduceMul,Nat.reduceLeDiff,Nat.reduceEqDiff,Nat.reduceGT,Nat.reduceBEq,reduceCtorEq,↓reduceIte,Int.reduceToNat,Int.reduceLE,Int.reduceLT,Int.reduceNe,Int.reduceEq];refine⟨⟨hbx,fun i v q=>hac i v (ai hsn q)⟩,fun m=>?_⟩;have hm:=aj m
   have hmS:lk ((b1.n,[.sl 1 false (az c.nm),dP c.up,kA c.qu,iM c.gr])::S.box) m.n=none:=by
    cases hx:lk ((b1.n,[.sl 1 false (az c.nm),dP c.up,kA c.qu,iM c.gr])::S.box) m.n with
    |none=>rfl
    |some v=>rw[hbx _ _ hx]at hm;cases hm
   have hsT:=hac sn.n (.xo (.mp (.st [.i64,.i64,.i64]) [] 0)) (by simp[lk])
   have hfa':∀i,i∈θ.ax→lk S.acc i=none:=fun i q=>by
    have:=hfa i q
    cases hx:lk S.acc i with
    |none=>rfl
    |some v=>rw[ai hsn hx]at this;cases this
   refine⟨⟨fun i v q=>ai hm (hbx i v q),fun i v q=>hac i v (ai hsn q)⟩,(⟨(m.n,[.sl 1 false (az c.nm),dP c.up,kA c.qu,iM c.gr,.sl 0 true [],bd θ.t,.mp sn.n])::T.box,T.acc⟩,θ,sn.n,m.n),⟨iH _ _ _,hT.mono (fun i v _ q=>ai hm q) fun i v _ q=>q,hsT,fun i v q=>ai hm (hbx i v q),fun i v q=>hac i v (ai hsn q),hfb,hfa',hmS,hsn,fun q=>hT.lT _ q hm,fun q=>by have:=hfa _ q;simp[lk]at this⟩,.refl _,.refl _⟩
 rintro⟨T,θ,sn,m⟩ hN;simp only at hN;obtain⟨hm,hT,hsn,hbx,hac,hfb,hfa,hmS,hsS,hmθ,hsθ⟩:=hN;have t1:=hbx b1.n _ hb1;simp(maxDischargeDepth:=12) (maxSteps:=1000000) -implicitDefEqProofs only[go_sem,Nat.reduceAdd,Nat.reduceSub,Nat.reduceMul,Nat.reduceLeDiff,Nat.reduceEqDiff,Nat.reduceGT,Nat.reduceBEq,reduceCtorEq,↓reduceIte,Int.reduceToNat,Int.reduceLE,Int.reduceLT,Int.reduceNe,Int.reduceEq,t1,hm];refine fw m 4 1 (by omega) (ds:=[.sl 1 false (az c.nm),dP c.up,kA c.qu,iM c.gr,.sl 0 true [],bd θ.t,.mp sn]) hm rfl fun lr=>?_;have hlr:=aj lr;have hlrA:∀j x,lk T.acc j=some x→j≠lr.n:=fun j x h e=>by rw[e,hlr]at h;cases h
 refine dK [8] [4,31,32] (σ:=Nat×List (Nat×List DV)×List (Nat×Ob)×List Nat×(Nat→Ow)) (fun s=>[(4,bd m),(31,dI c.up.length),(32,dI s.1)]) (fun s=>⟨s.2.1,s.2.2.1⟩) (fun s=>s.1≤c.up.length∧UG T c θ sn m lr.n s.1 s.2.1 s.2.2.1 s.2.2.2.1 s.2.2.2.2) (fun s=>c.up.length-s.1) (0,Aml.up T.box m [.sl 1 false (az c.nm),dP c.up,kA c.qu,iM c.gr,.acc lr.n 0,bd θ.t,.mp sn],(lr.n,.arr 1 [])::T.acc,[],fun _=> .no) mx (by kernel_rfl) ⟨⟨W4 _,?_⟩,?_⟩ ?_
 ·exact⟨cp hm,by simp[lk],rfl,fun j v q1 q2=>by rw[ab (Xl q1)];exact q2,fun j v q=>ai hlr q,fun x bx q=>by simp at q,Yv,fun j q=>absurd rfl q⟩
 ·simp(maxDischargeDepth:=12) (maxSteps:=1000000) -implicitDefEqProofs only[go_sem,Nat.reduceAdd,Nat.reduceSub,Nat.reduceMul,Nat.reduceLeDiff,Nat.reduceEqDiff,Nat.reduceGT,Nat.reduceBEq,reduceCtorEq,↓reduceIte,Int.reduceToNat,Int.reduceLE,Int.reduceLT,Int.reduceNe,Int.reduceEq]
 ·rintro⟨i,B,A,ls,own⟩ ⟨hi,hL⟩;simp only at hi hL;have hmb:=hL.mb;have hrow:=hL.row;have hlen:=hL.len;by_cases hil:i<c.up.length
  ·have e1:IntKind.i64.wrap ((i:Int)+1)=((i+1:Nat):Int):=aI (by omega);have hm8:maxLen=9223372036854775807:=rfl;simp(maxDischargeDepth:=12) (maxSteps:=1000000) -implicitDefEqProofs only[go_sem,Nat.reduceAdd,Nat.reduceSub,Nat.reduceMul,Nat.reduceLeDiff,Nat.reduceEqDiff,Nat.reduceGT,Nat.reduceBEq,reduceCtorEq,↓reduceIte,Int.reduceToNat,Int.reduceLE,Int.reduceLT,Int.reduceNe,Int.reduceEq,hmb];refine⟨fun _=>fun bm bx=>?_,fun h=>absurd hil h⟩;have hbmA:=aj bm;have nbl:(bm.n=lr.n)=False:=eq_false fun e=>by rw[e,hrow]at hbmA;cases hbmA
   have hbxB:=aj bx;have hbxm:(bx.n=m)=False:=eq_false fun e=>by rw[e,hmb]at hbxB;cases hbxB
   have hls:(ls.map bd).length=i:=by rw[WT,hlen]
   simp(maxDischargeDepth:=12) (maxSteps:=1000000) -implicitDefEqProofs only[go_sem,Nat.reduceAdd,Nat.reduceSub,Nat.reduceMul,Nat.reduceLeDiff,Nat.reduceEqDiff,Nat.reduceGT,Nat.reduceBEq,reduceCtorEq,↓reduceIte,Int.reduceToNat,Int.reduceLE,Int.reduceLT,Int.reduceNe,Int.reduceEq,nbl,hrow,hlen];refine⟨by omega,by unfold maxLen;omega,?_⟩;refine fw bx.n 1 6 (by omega) (ds:=[.mp bm.n,.sl 0 true [],dI 0,.v (.map none)]) (iH _ _ _) rfl fun r=>LL [] mx (by kernel_rfl) ?_;have hr:=aj r;have hrA:lk ((bm.n,Ob.xo (.mp .str [] 0))::Aml.up A lr.n (.arr 1 ((ls++[bx.n]).map bd))) r.n=none:=by rw[WD];exact hr
   simp(maxDischargeDepth:=12) (maxSteps:=1000000) -implicitDefEqProofs only[go_sem,Nat.reduceAdd,Nat.reduceSub,Nat.reduceMul,Nat.reduceLeDiff,Nat.reduceEqDiff,Nat.reduceGT,Nat.reduceBEq,reduceCtorEq,↓reduceIte,Int.reduceToNat,Int.reduceLE,Int.reduceLT,Int.reduceNe,Int.reduceEq,e1];have hbmU:∀X:Ob,lk (Aml.up A lr.n X) bm.n=none:=fun X=>by rw[ab (fun e=>by rw[←nbl];exact e.symm)];exact hbmA
   have hbxU:∀X,lk (Aml.up B m X) bx.n=none:=fun X=>by rw[ab (fun e=>by rw[←hbxm];exact e.symm)];exact hbxB
   have hrb:bm.n≠r.n:=fun e=>by rw[←e,iH]at hrA;cases hrA
   have hrU:lk (Aml.up A lr.n (.arr 1 ((ls++[bx.n]).map bd))) r.n=none:=by
    simp only[lk]at hrA;rw[if_neg hrb]at hrA;exact hrA
   have hrA0:lk A r.n=none:=lL hrU;have hrl:r.n≠lr.n:=fun e=>by rw[e,hrow]at hrA0;cases hrA0
   have hkeep:∀j v,j≠lr.n→lk A j=some v→lk ((r.n,Ob.arr 6 [])::(bm.n,Ob.xo (.mp .str [] 0))::Aml.up A lr.n (.arr 1 ((ls++[bx.n]).map bd))) j=some v:=fun j v q1 q2=>ai hrA (ai (hbmU _) (by rw[ab (Xl q1)];exact q2));have hkeepB:∀j v,j≠m→lk B j=some v→lk ((bx.n,[DV.mp bm.n,.acc r.n 0,dI 0,.v (.map none)])::Aml.up B m [.sl 1 false (az c.nm),dP c.up,kA c.qu,iM c.gr,.acc lr.n (i+1),bd θ.t,.mp sn]) j=some v:=fun j v q1 q2=>ai (hbxU _) (by rw[ab (Xl q1)];exact q2);have hTm:∀j,lk T.box j=none→j≠m:=fun j q e=>by rw[e,hm]at q;cases q
   refine⟨(i+1,(bx.n,[.mp bm.n,.acc r.n 0,dI 0,.v (.map none)])::Aml.up B m [.sl 1 false (az c.nm),dP c.up,kA c.qu,iM c.gr,.acc lr.n (i+1),bd θ.t,.mp sn],(r.n,.arr 6 [])::(bm.n,.xo (.mp .str [] 0))::Aml.up A lr.n (.arr 1 ((ls++[bx.n]).map bd)),ls++[bx.n],fun j=>if j=bm.n then .b i else if j=r.n then .au i else own j),⟨by simp only;omega,⟨ai (hbxU _) (cp hmb),ai hrA (ai (hbmU _) (cp hrow)),by simp[hlen],fun j v q1 q2=>hkeepB j v q1 (hL.IF j v q1 q2),fun j v q=>hkeep j v (hlrA j v q) (hL.KD j v q),fun x b' hx=>?_,?_,fun j q=>?_⟩⟩,by simp only;omega,rfl,by rw[WD];exact .refl _⟩
   ·rcases WN x ls.length with q3|q3
    ·rw[WE q3]at hx;obtain⟨z0,b,r',z1,z2,z3,z4,z5⟩:=hL.el x b' hx;have zb:=(hL.ow b (by rw[z4];simp)).2.1;have zr:=(hL.ow r' (by rw[z5];simp)).2.1;have n1:b≠bm.n:=fun e=>by rw[e,hbmA]at z2;cases z2
     have n2:b≠r.n:=fun e=>by rw[e,hrA0]at z2;cases z2
     have n3:r'≠bm.n:=fun e=>by rw[e,hbmA]at z3;cases z3
     have n4:r'≠r.n:=fun e=>by rw[e,hrA0]at z3;cases z3
     refine⟨z0,b,r',hkeepB _ _ (hTm _ z0) z1,hkeep _ _ zb z2,hkeep _ _ zr z3,?_,?_⟩
     ·simp only;rw[if_neg n1,if_neg n2];exact z4
     ·simp only;rw[if_neg n3,if_neg n4];exact z5
    ·rw[WC q3]at hx
     have hj:x-ls.length=0:=by
      cases hj:x-ls.length with
      |zero=>rfl
      |succ k=>rw[hj]at hx;simp at hx
     rw[hj]at hx;cases hx;have hxi:x=i:=by omega
     refine⟨?_,bm.n,r.n,iH _ _ _,ai hrA (iH _ _ _),iH _ _ _,?_,?_⟩
     ·cases hz:lk T.box bx.n with
      |none=>rfl
      |some v=>rw[hL.IF bx.n v (by rw[Ne,hbxm];exact id) hz]at hbxB;cases hbxB
     ·simp only[if_true,hxi]
     ·simp only[if_true,hxi];rw[if_neg (Xl hrb)]
   ·refine Xu.2 ⟨hL.nd,by simp,fun a ha b' hb'=>?_⟩;rw[Wl.1 hb'];rintro rfl;obtain⟨x,hx⟩:=WO.1 ha;obtain⟨_,b,r',z1,_⟩:=hL.el x _ hx;rw[hbxB]at z1;cases z1
   ·simp only at q
    have hTA:∀j,lk A j=none→lk T.acc j=none:=fun j q=>by
     cases hz:lk T.acc j with
     |none=>rfl
     |some v=>rw[hL.KD j v hz]at q;cases q
    by_cases e1:j=bm.n
    ·rw[e1];exact⟨hTA _ hbmA,by rw[Ne,nbl];exact id,by rw[ai hrA (iH _ _ _)];simp⟩
    ·rw[if_neg e1]at q;by_cases e2:j=r.n
     ·rw[e2];exact⟨hTA _ hrA0,hrl,by rw[iH];simp⟩
     ·rw[if_neg e2]at q;obtain⟨z1,z2,z3⟩:=hL.ow j q;obtain⟨v,hv⟩:=bu z3;exact⟨z1,z2,by rw[hkeep j v z2 hv];simp⟩
  ·have hie:i=c.up.length:=by omega
   subst hie;simp(maxDischargeDepth:=12) (maxSteps:=1000000) -implicitDefEqProofs only[go_sem,Nat.reduceAdd,Nat.reduceSub,Nat.reduceMul,Nat.reduceLeDiff,Nat.reduceEqDiff,Nat.reduceGT,Nat.reduceBEq,reduceCtorEq,↓reduceIte,Int.reduceToNat,Int.reduceLE,Int.reduceLT,Int.reduceNe,Int.reduceEq];refine⟨fun h=>absurd h hil,fun _=>?_⟩;refine Rv m 4 (xs:=ls.map bd) (ds:=[.sl 1 false (az c.nm),dP c.up,kA c.qu,iM c.gr,.acc lr.n c.up.length,bd θ.t,.mp sn]) hmb (by rw[WT,hlen];rfl) hrow (LL [] mx (by kernel_rfl) ?_);simp(maxDischargeDepth:=12) (maxSteps:=1000000) -implicitDefEqProofs only[go_sem,Nat.reduceAdd,Nat.reduceSub,Nat.reduceMul,Nat.reduceLeDiff,Nat.reduceEqDiff,Nat.reduceGT,Nat.reduceBEq,reduceCtorEq,↓reduceIte,Int.reduceToNat,Int.reduceLE,Int.reduceLT,Int.reduceNe,Int.reduceEq]
   have hE:∃own':Nat→Ow,(∀j,j∈θ.ax→own' j= .tb)∧own' sn= .sm∧(∀j,own j≠ .no→own' j=own j)∧∀j,own' j≠ .no→j∈θ.ax∨j=sn∨own j≠ .no:=by
    classical
    refine⟨fun j=>if j∈θ.ax then .tb else if j=sn then .sm else own j,fun j q=>if_pos q,by simp only;rw[if_neg hsθ];simp,fun j q=>?_,fun j q=>?_⟩
    ·have z:=(hL.ow j q).1;simp only;rw[if_neg (fun q2=>hT.tK j q2 z),if_neg (fun e=>by rw[e,hsn]at z;cases z)]
    ·simp only at q;split at q
     ·rename_i q2;exact .inl q2
     ·split at q
      ·rename_i q2;exact .inr (.inl q2)
      ·exact .inr (.inr q)
   obtain⟨own',o1,o2,o3,o4⟩:=hE;have hlrn:∀j v,lk T.acc j=some v→lk (Aml.up A lr.n (Ob.tl 1 (ls.map bd))) j=some v:=fun j v q=>by rw[ab (Xl (hlrA j v q))];exact hL.KD j v q
   have hmB:∀j v,j≠m→lk B j=some v→lk (Aml.up B m [.sl 1 false (az c.nm),dP c.up,kA c.qu,iM c.gr,.sl 1 false (ls.map bd),bd θ.t,.mp sn]) j=some v:=fun j v q1 q2=>by rw[ab (Xl q1)];exact q2
   have hlsT:∀j,j∈ls→lk T.box j=none:=fun j q=>by
    obtain⟨x,hx⟩:=WO.1 q;exact(hL.el x j hx).1
   have hSX:∀i v,lk S.box i=some v→lk ((b1.n,[DV.sl 1 false (az c.nm),dP c.up,kA c.qu,iM c.gr])::S.box) i=some v:=fun i v q=>ai (aj b1) q
   have hST:∀i,lk T.box i=none→lk S.box i=none:=fun i q=>by
    cases hz:lk S.box i with
    |none=>rfl
    |some v=>rw[hbx i v (hSX i v hz)]at q;cases q
   have hmT:m∉ls:=fun q=>by have:=hlsT m q;rw[hm]at this;cases this
   refine⟨_,_,.refl _,.refl _,.inr ⟨hP,⟨m,ls,θ,sn,own'⟩,rfl,⟨cp hmb,hc.Fp,by simp[yM,hlen],Wv.2 ⟨hmT,hL.nd⟩,fun j q1 q2=>?_,fun x bx l q1 q2=>?_,hT.mono (fun j v q1 q2=>hmB j v (fun e=>hmθ (e▸q1)) (hL.IF j v (fun e=>hmθ (e▸q1)) q2)) (fun j v _ q2=>hlrn j v q2),o1,⟨[],0,hlrn _ _ hsn,fun lv n k=>⟨fun _=>by simp[aJ],fun Fs h=>(by cases h)⟩⟩,o2,fun j q=>?_⟩,fun j v q=>?_,fun j v q=>hlrn j v (hac j v q),fun j q=>?_,fun j q=>?_⟩⟩
   ·rcases Wt.1 q2 with q2|q2
    ·have e:j=m:=q2;exact hmθ (by rw[←e];exact q1)
    ·exact hT.lT j q1 (hlsT j q2)
   ·obtain⟨z0,b,r,z1,z2,z3,z4,z5⟩:=hL.el x bx q1
    have hl:l=⟨fun _=>none,[],0,fun _=>none⟩:=by
     simp only[yM,WW]at q2;split at q2
     ·exact(WQ q2).symm
     ·cases q2
    subst hl;have zb:=(hL.ow b (by rw[z4];simp)).2.1;have zr:=(hL.ow r (by rw[z5];simp)).2.1;refine⟨b,fun _=>none,r,.v (.map none),hmB bx _ (fun e=>hmT (e▸Wc q1)) z1,⟨⟨[],0,by show lk (Aml.up _ _ _) _=_;rw[ab (Xl zb)];exact z2,Wg _,fun n=>by simp[aJ]⟩,fun n=>by simp,fun n i f h=>(by cases h),fun n m i h=>(by cases h),fun n i h=>(by cases h)⟩,⟨(o3 b (by rw[z4];simp)).trans z4,fun n i h=>(by cases h)⟩,.inl (by show lk (Aml.up _ _ _) _=_;rw[ab (Xl zr)];exact z3),(o3 r (by rw[z5];simp)).trans z5,fun h=>absurd rfl h⟩
   ·rcases o4 j q with q2|q2|q2
    ·obtain⟨v,hv⟩:=bu (hT.tK j q2);rw[hlrn j v hv];simp
    ·rw[q2,hlrn _ _ hsn];simp
    ·exact dX (hL.ow j q2).2.2
   ·have z:=hbx j v (hSX j v q)
    have hjm:j≠m:=fun e=>by
     have:=hSX j v q;rw[e]at this;rw[show lk ((b1.n,[DV.sl 1 false (az c.nm),dP c.up,kA c.qu,iM c.gr])::S.box) m=none from hmS]at this;cases this
    exact hmB j v hjm (hL.IF j v hjm z)
   ·unfold MG.bx at q;rcases Wo.1 q with q2|q2
    ·rcases Wt.1 q2 with q3|q3
     ·rw[q3]
      cases hz:lk S.box m with
      |none=>rfl
      |some v=>have:=hSX m v hz;rw[show lk ((b1.n,[DV.sl 1 false (az c.nm),dP c.up,kA c.qu,iM c.gr])::S.box) m=none from hmS]at this;cases this
     ·exact hST j (hlsT j q3)
    ·cases hz:lk S.box j with
     |none=>rfl
     |some v=>have:=hfb j q2;rw[show lk ((b1.n,[DV.sl 1 false (az c.nm),dP c.up,kA c.qu,iM c.gr])::S.box) j=some v from hSX j v hz]at this;cases this
   ·rcases o4 j q with q2|q2|q2
    ·exact hfa j q2
    ·rw[q2];exact hsS
    ·cases hz:lk S.acc j with
     |none=>rfl
     |some v=>have:=(hL.ow j q2).1;rw[hac j v hz]at this;cases this
def kH(r:List RH)(lv n:Int):Option (List Int×Int):=(r[dM r lv n]?).map fun s=>(s.sn,s.last)
theorem Ja{r:List RH}{lv n:Int}(h:¬dM r lv n<r.length):kH r lv n=none:=by
 unfold kH;rw[Wn (by omega)];rfl
theorem OU{r:List RH}(hr:jL r)(l lv n:Int):kH (lS r l).1 lv n=if lv=l∧n=(gA r l:Int)+1 then some ([],0)else kH r lv n:=by
 unfold kH;rw[Kk hr];by_cases h:dM r lv n<r.length
 ·rw[if_pos h];have hne:¬(lv=l∧n=(gA r l:Int)+1):=fun q=>by rw[q.1,q.2,Ft hr]at h;omega
  rw[if_neg hne];show((r++_)[dM r lv n]?).map _=_;rw[WE h]
 ·rw[if_neg h];by_cases q:lv=l∧n=(gA r l:Int)+1
  ·rw[if_pos q,if_pos q];show((r++_)[r.length]?).map _=_;rw[WC (Wg _),Yw];rfl
  ·rw[if_neg q,if_neg q,Wn (l:=r) (by omega)];show((r++_)[r.length+1]?).map _=_;rw[Wn (by simp)]
theorem tR{r:List RH}{l m lv n:Int}(h1:dM r l m<r.length)(h2:dM r lv n<r.length)(hne:¬(lv=l∧n=m)):dM r l m≠dM r lv n:=fun e=>by
 obtain⟨s,hs,_⟩:=kK h1;have q1:=eB hs;rw[e]at hs;have q2:=eB hs;exact hne ⟨q2.1.symm.trans q1.1,q2.2.1.symm.trans q1.2.1⟩
theorem Pw{r:List RH}(hr:jL r)(l m lv n:Int):kH (nr r l m).1 lv n=if lv=l∧n=m then none else kH r lv n:=by
 by_cases h:dM r l m<r.length
 ·have hi:=JU hr h lv n;unfold kH;rw[hi];have e1:(nr r l m).1=r.set (dM r l m) ⟨l,m,[],0,true⟩:=by unfold nr;rw[if_pos h]
  by_cases q:lv=l∧n=m
  ·rw[if_pos q,if_pos q,e1,Wn (by simp)]
   try rfl
  ·rw[if_neg q,if_neg q,e1];by_cases h2:dM r lv n<r.length
   ·rw[Xf (tR h h2 q)]
   ·rw[Wn (by simp;omega),Wn (by omega)]
 ·have e1:(nr r l m).1=r:=by unfold nr;rw[if_neg h]
  rw[e1];by_cases q:lv=l∧n=m
  ·rw[if_pos q,q.1,q.2,Ja h]
  ·rw[if_neg q]
theorem Gv{r:List RH}{l m:Int}{s t:RH}(hs:r[dM r l m]? =some s)(e1:t.lv=s.lv)(e2:t.n=s.n)(e3:t.gone=s.gone)(lv n:Int):kH (r.set (dM r l m) t) lv n=if lv=l∧n=m then some (t.sn,t.last)else kH r lv n:=by
 have h:=(Wd.1 hs).1;unfold kH;rw[yE hs e1 e2 e3];by_cases q:lv=l∧n=m
 ·rw[if_pos q,q.1,q.2,Xg h];rfl
 ·rw[if_neg q];by_cases h2:dM r lv n<r.length
  ·rw[Xf (tR h h2 q)]
  ·rw[Wn (by simp;omega),Wn (by omega)]
theorem PV(r:List RH)(l m lv n:Int):kH (tp r l m).1 lv n=if lv=l∧n=m then(kH r l m).map (fun p=>(p.1++[p.2+1],p.2+1))else kH r lv n:=by
 unfold tp
 cases hs:r[dM r l m]? with
 |some s=>
  simp only;rw[Gv (t:=JI s) hs rfl rfl rfl];have e:kH r l m=some (s.sn,s.last):=by unfold kH;rw[hs];rfl
  rw[e];rfl
 |none=>
  simp only;have e:kH r l m=none:=by unfold kH;rw[hs];rfl
  by_cases q:lv=l∧n=m
  ·rw[if_pos q,q.1,q.2,e];rfl
  ·rw[if_neg q]
theorem Pe(r:List RH)(l m x lv n:Int):kH (tV r l m x).1 lv n=if lv=l∧n=m then(kH r l m).map (fun p=>(GB x p.1,p.2))else kH r lv n:=by
 unfold tV
 cases hs:r[dM r l m]? with
 |some s=>
  simp only;have e:kH r l m=some (s.sn,s.last):=by unfold kH;rw[hs];rfl
  split
  ·rename_i h;have hf:GB x s.sn=s.sn:=List.filter_eq_self.2 (List.length_filter_eq_length_iff.1 h);by_cases q:lv=l∧n=m
   ·rw[if_pos q,q.1,q.2,e];simp only[WI,hf]
   ·rw[if_neg q]
  ·simp only;rw[Gv (t:=⟨s.lv,s.n,GB x s.sn,s.last,s.gone⟩) hs rfl rfl rfl,e];rfl
 |none=>
  simp only;have e:kH r l m=none:=by unfold kH;rw[hs];rfl
  by_cases q:lv=l∧n=m
  ·rw[if_pos q,q.1,q.2,e];rfl
  ·rw[if_neg q]
theorem P4(r:List RH)(l m:Int):(tp r l m).2=((kH r l m).map fun p=>p.2+1).getD 0:=by
 unfold tp kH;cases r[dM r l m]? <;>rfl
theorem ko(r:List RH)(l m:Int):Bv r l m=((kH r l m).map (·.1)).getD []:=by
 unfold Bv kH;cases r[dM r l m]? <;>rfl
end Go.Proofs.YtoepfmhnapedoaaGreatDoor
namespace Go.Proofs.YtoepfmhnapedoaaGreatDoor
open Aml Go Rn Lat Grs
section
variable {N:Nat} {c:Cf} {μ:bO} {o:bI} {full:Bool}
theorem gV.le{M:Nat}(h:gV N c μ)(k:N≤M):gV M c μ:=⟨h.n,h.nl,by have:=h.r;omega,fun s hs=>by have:=h.la s hs;omega,h.JS,h.sp,fun l hl=>by have:=h.au l hl;omega,h.sz⟩
theorem gV.rJ(h:gV N c μ)(i:Nat)(l':xj)(ha:l'.au.length≤N+1)(h1:tn l'.F)(h2:tn l'.D):gV (N+1) c ⟨μ.l.set i l',μ.r,μ.sn⟩:=by
 have h':=h.le (WK N);have hm:∀l,l∈μ.l.set i l'→l∈μ.l∨l=l':=fun l hl=>Xp hl;refine⟨by simpa using h.n,by simpa using h.nl,h'.r,h'.la,h.JS,fun lv n k hk=>?_,fun l hl=>(hm l hl).elim (h'.au l) fun e=>e▸ha,fun l hl=>(hm l hl).elim (h.sz l) fun e=>e▸⟨h1,h2⟩⟩;obtain⟨Fs,q1,q2⟩:=h.sp lv n k hk;exact⟨Fs,q1,by simpa using q2⟩
theorem gV.aH(h:gV N c μ){r':List RH}{sn':Int→Int→Int→Option (List iN)}(h1:r'.length≤N+1)(h2:nF r' ((N+1:Nat):Int))(h3:jL r')(h4:∀lv n k,k∈Bv r' lv n→∃Fs,sn' lv n k=some Fs∧Fs.length=μ.l.length):gV (N+1) c ⟨μ.l,r',sn'⟩:=
 ⟨h.n,h.nl,h1,h2,h3,h4,fun l hl=>by have:=h.au l hl;show _≤N+1;omega,h.sz⟩
theorem tn.none_:tn fun _=>none:=fun n f h=>by cases h
theorem tn.eY{F:iN}(h:tn F){n:List UInt8}{f:List UInt8→Option (List UInt8)}(h1:n.length≤1000)(h2:∀k v,f k=some v→k.length≤1000∧v.length≤1000):tn (eY F n f):=fun m g hg=>by
 unfold Proofs.YtoepfmhnapedoaaGreatDoor.eY at hg;by_cases e:m=n
 ·rw[if_pos e]at hg;cases hg;exact⟨by rw[e];exact h1,h2⟩
 ·rw[if_neg e]at hg;exact h m g hg
theorem tn.xZ{F:iN}(h:tn F)(n:List UInt8):tn (xZ F n):=fun m g hg=>by
 unfold Proofs.YtoepfmhnapedoaaGreatDoor.xZ at hg;by_cases e:m=n
 ·rw[if_pos e]at hg;cases hg
 ·rw[if_neg e]at hg;exact h m g hg
theorem F3{x:Int}(h:0≤x∧x.toNat<μ.l.length):aW μ x∈μ.l:=by
 have hl:μ.l[x.toNat]? =some μ.l[x.toNat]:=Wb h.2;rw[bB hl h.1];exact List.getElem_mem _
theorem jM(h:gV N c μ)(x:Int):tn (aW μ x).F∧tn (aW μ x).D∧(aW μ x).au.length≤N:=by
 by_cases hx:0≤x∧x.toNat<μ.l.length
 ·have hm:=F3 (μ:=μ) hx;exact⟨(h.sz _ hm).1,(h.sz _ hm).2,h.au _ hm⟩
 ·have e:aW μ x=⟨fun _=>none,[],0,fun _=>none⟩:=by
   unfold aW;by_cases h0:0≤x
   ·rw[if_pos h0,Wn (by omega)];rfl
   ·rw[if_neg h0];rfl
  rw[e];exact⟨tn.none_,tn.none_,W4 _⟩
theorem zy{dg:List UInt8→Int}(P:gE→Prop)(p1:o.kind=1→P (pg μ o))(p2:o.kind=2→P (kF μ o))(p3:o.kind=3→P (hY μ o))(p4:o.kind=4→P (eu μ o))(p5:o.kind=5→P (j9 μ o full))(p6:o.kind=6→P (lu μ o full))(p7:o.kind=7→P (qt μ o full))(p8:o.kind=8→P (ey μ o full))(p9:o.kind=9→P (getM c μ o))(p10:o.kind=10→P (nf c μ o))(p11:o.kind=11→P (vO μ o))(p12:o.kind=12→P (iy μ o))(p13:o.kind=13→P (kM c μ o))(p14:o.kind=14→P (jw c μ o))(p15:P (gS dg c μ o full)):P (JA dg c μ o full):=by
 unfold JA;by_cases k1:o.kind=1
 ·rw[if_pos k1];exact p1 k1
 rw[if_neg k1];by_cases k2:o.kind=2
 ·rw[if_pos k2];exact p2 k2
 rw[if_neg k2];by_cases k3:o.kind=3
 ·rw[if_pos k3];exact p3 k3
 rw[if_neg k3];by_cases k4:o.kind=4
 ·rw[if_pos k4];exact p4 k4
 rw[if_neg k4];by_cases k5:o.kind=5
 ·rw[if_pos k5];exact p5 k5
 rw[if_neg k5];by_cases k6:o.kind=6
 ·rw[if_pos k6];exact p6 k6
 rw[if_neg k6];by_cases k7:o.kind=7
 ·rw[if_pos k7];exact p7 k7
 rw[if_neg k7];by_cases k8:o.kind=8
 ·rw[if_pos k8];exact p8 k8
 rw[if_neg k8];by_cases k9:o.kind=9
 ·rw[if_pos k9];exact p9 k9
 rw[if_neg k9];by_cases QP:o.kind=10
 ·rw[if_pos QP];exact p10 QP
 rw[if_neg QP];by_cases QZ:o.kind=11
 ·rw[if_pos QZ];exact p11 QZ
 rw[if_neg QZ];by_cases QV:o.kind=12
 ·rw[if_pos QV];exact p12 QV
 rw[if_neg QV];by_cases Q4:o.kind=13
 ·rw[if_pos Q4];exact p13 Q4
 rw[if_neg Q4];by_cases Qt:o.kind=14
 ·rw[if_pos Qt];exact p14 Qt
 rw[if_neg Qt];exact p15
theorem KZ(h:gV N c μ){r:Jv}{μ':bO}(ho:JA iJ c μ o full= .inr (r,μ')):gV (N+1) c μ':=by
 obtain⟨z1,z2,z3⟩:=jM h o.level;have h':=h.le (WK N);have hN1:((N+1:Nat):Int)=(N:Int)+1:=by omega
 revert ho
 refine zy (P:=fun out=>out= .inr (r,μ')→gV (N+1) c μ') ?_ ?_ ?_ ?_ ?_ ?_ ?_ ?_ ?_ ?_ ?_ ?_ ?_ ?_ ?_
 ·intro _ ho;unfold pg at ho;cases ho;have hs:=h.rJ o.level.toNat {aW μ o.level with has:=if(aW μ o.level).has=o.aH then 0 else(aW μ o.level).has} (by simp only;omega) z1 z2;refine⟨hs.n,hs.nl,by rw[yW];have:=h.r;omega,?_,h.JS.cl _ _,fun lv n k hk=>?_,hs.au,hs.sz⟩
  ·rw[hN1];exact h.la.cl (by omega) _ _
  ·refine hs.sp lv n k ?_;simp only at hk ⊢;rw[ko,Pw h.JS]at hk;rw[ko];split at hk
   ·simp at hk
   ·exact hk
 ·intro _ ho;unfold kF cS at ho;simp only at ho;split at ho
  ·cases ho
  ·cases ho;exact h.rJ _ _ (by simp only;omega) z1 z1
 ·intro _ ho;unfold hY cS at ho;simp only at ho;split at ho
  ·cases ho
  ·cases ho;exact h.rJ _ _ (by simp only;omega) z2 z2
 ·intro _ ho;unfold eu cS at ho;simp only at ho;split at ho
  ·cases ho
  ·cases ho;exact h.rJ _ _ (by simp only;omega) z1 z2
 ·intro _ ho;unfold j9 cS at ho;simp only at ho;split at ho
  ·cases ho
  ·split at ho
   ·cases ho
   ·rename_i q;have q:=Wy.1 q;split at ho
    ·cases ho
    ·split at ho
     ·cases ho
     ·cases ho;exact h.rJ _ _ (by simp only;omega) z1 (z2.eY (by have:=q.2;omega) fun k v e=>by cases e)
 ·intro _ ho;unfold lu cS at ho;simp only at ho;split at ho
  ·cases ho
  ·split at ho
   ·cases ho
   ·split at ho
    ·cases ho
    ·cases ho;exact h.rJ _ _ (by simp only;omega) z1 (z2.xZ _)
 ·intro _ ho;unfold qt cS at ho;simp only at ho;split at ho
  ·cases ho
  ·split at ho
   ·cases ho
   ·rename_i q;have q:=Wy.1 q;split at ho
    ·cases ho
    ·rename_i f hf;split at ho
     ·cases ho
     ·cases ho;refine h.rJ _ _ (by simp only;omega) z1 (z2.eY (z2 _ _ hf).1 fun k v e=>?_);by_cases ek:k=o.key
      ·rw[if_pos ek]at e;cases e;rw[ek];exact⟨by have:=q.1.2;omega,by have:=q.2;omega⟩
      ·rw[if_neg ek]at e;exact(z2 _ _ hf).2 k v e
 ·intro _ ho;unfold ey cS at ho;simp only at ho;split at ho
  ·cases ho
  ·split at ho
   ·cases ho
   ·rename_i f hf;split at ho
    ·cases ho
    ·split at ho
     ·cases ho
     ·cases ho;refine h.rJ _ _ (by simp only;omega) z1 (z2.eY (z2 _ _ hf).1 fun k v e=>?_);unfold xZ at e;by_cases ek:k=o.key
      ·rw[if_pos ek]at e;cases e
      ·rw[if_neg ek]at e;exact(z2 _ _ hf).2 k v e
 ·intro _ ho;unfold getM at ho;simp only at ho
  (repeat' split at ho) <;>cases ho
  exact h'
 ·intro _ ho;unfold nf at ho
  (repeat' split at ho) <;>cases ho
  exact h'
 ·intro _ ho;unfold vO at ho;cases ho;refine h.aH (by rw[Ij];have:=h.r;omega) ?_ (h.JS.sn _ _) fun lv n k hk=>?_
  ·rw[hN1];exact h.la.sn _ _
  ·rw[ko,PV]at hk;unfold Bn;by_cases q:lv=o.level∧n=o.aH
   ·rw[if_pos q]at hk
    cases hv:kH μ.r o.level o.aH with
    |none=>rw[hv]at hk;simp at hk
    |some p=>
     rw[hv]at hk;simp only[WI,XK,Wo,Wl]at hk;rw[P4,hv];simp only[WI,XK];by_cases hk2:k=p.2+1
     ·rw[if_pos ⟨q.1,q.2,hk2⟩];exact⟨_,rfl,by simp⟩
     ·rw[if_neg (fun r=>hk2 r.2.2)];refine h.sp lv n k ?_;rw[ko,q.1,q.2,hv];exact hk.resolve_right hk2
   ·rw[if_neg q]at hk;rw[if_neg (fun r=>q ⟨r.1,r.2.1⟩)];exact h.sp lv n k (by rw[ko];exact hk)
 ·intro _ ho;unfold iy at ho;split at ho
  ·cases ho
  ·cases ho;refine h.aH (by rw[Hp];have:=h.r;omega) ?_ (h.JS.un _ _ _) fun lv n k hk=>?_
   ·rw[hN1];exact h.la.un _ _ _
   ·rw[ko,Pe]at hk;unfold Bn;by_cases q:lv=o.level∧n=o.aH
    ·rw[if_pos q]at hk
     cases hv:kH μ.r o.level o.aH with
     |none=>rw[hv]at hk;simp at hk
     |some p=>
      rw[hv]at hk;simp only[WI,XK,GB,X6,WL,decide_eq_false_iff_not]at hk;rw[if_neg (fun r=>hk.2 r.2.2)];exact h.sp lv n k (by rw[ko,q.1,q.2,hv];exact hk.1)
    ·rw[if_neg q]at hk;rw[if_neg (fun r=>q ⟨r.1,r.2.1⟩)];exact h.sp lv n k (by rw[ko];exact hk)
 ·intro _ ho;unfold kM at ho;split at ho <;>cases ho;exact h'
 ·intro _ ho;unfold jw at ho;split at ho <;>cases ho;exact h'
 ·intro ho;obtain⟨y1,y2,y3⟩:=jM h o.fk;obtain⟨x1,x2,x3⟩:=jM h o.label;unfold gS at ho;simp only at ho;split at ho
  ·cases ho
  ·split at ho
   ·cases ho
   ·split at ho
    ·cases ho
    ·rename_i f hf;split at ho
     ·cases ho
     ·rename_i v hv;split at ho
      ·cases ho
      ·rename_i gg hg;split at ho
       ·cases ho
       ·cases ho;refine h.rJ _ _ (by simp only[Wp,X7];omega) (y1.eY (y1 _ _ hg).1 fun k w e=>?_) y2;by_cases ek:k=o.key
        ·rw[if_pos ek]at e;cases e;rw[ek];exact(x1 _ _ hf).2 _ _ hv
        ·rw[if_neg ek]at e;exact(y1 _ _ hg).2 k w e
theorem oz(h:gV N c μ):gV (N+1) c (jB iJ c μ o full).2:=by
 have h':=h.le (WK N);have hN1:((N+1:Nat):Int)=(N:Int)+1:=by omega
 unfold jB;split
 ·exact h'
 ·split
  ·refine h.aH (by rw[yR];have:=h.r;omega) ?_ (h.JS.op _) fun lv n k hk=>?_
   ·rw[hN1];exact h.la.op (by omega) _
   ·rw[ko,OU h.JS]at hk;split at hk
    ·simp at hk
    ·exact h.sp lv n k (by rw[ko];exact hk)
  ·split
   ·refine⟨by unfold aZ;simpa using h.n,by unfold aZ;simpa using h.nl,W4 _,fun s hs=>(by cases hs),jL.nil,fun lv n k hk=>(by simp[aZ,Bv]at hk),fun l hl=>?_,fun l hl=>?_⟩
    ·unfold aZ at hl;simp only[Ws]at hl;obtain⟨x,_,rfl⟩:=hl;have:=(jM h (x:Int)).2.2;simp only;omega
    ·unfold aZ at hl;simp only[Ws]at hl;obtain⟨x,_,rfl⟩:=hl;obtain⟨a,b,_⟩:=jM h (x:Int);refine⟨?_,b⟩;simp only;split
     ·exact b
     ·exact a
   ·split
    ·exact h'
    ·unfold HF;split
     ·exact h'
     ·rename_i p hp;exact KZ (r:=p.1) (μ':=p.2) h hp
end
theorem Og{c:Cf}(hP:J8 c)(hn:c.up.length≤64):gV 0 c (yM c.up.length):=⟨by simp[yM,hn],by simp[yM],Wg _,fun s hs=>(by simp[yM]at hs),jL.nil,fun lv n k hk=>(by simp[yM,Bv]at hk),fun l hl=>(by
 have:=(List.mem_replicate.1 hl).2;rw[this];exact Wg _),fun l hl=>by
 have:=(List.mem_replicate.1 hl).2;rw[this];exact⟨tn.none_,tn.none_⟩⟩
end Go.Proofs.YtoepfmhnapedoaaGreatDoor
namespace Go.Proofs.YtoepfmhnapedoaaGreatDoor
open Aml Go Rn Lat Grs
theorem Ej{μ:bO}{x:Int}(h:¬(0≤x∧x<μ.l.length)):aW μ x=⟨fun _=>none,[],0,fun _=>none⟩:=by
 unfold aW;by_cases h0:0≤x
 ·rw[if_pos h0,Wn (by omega)];rfl
 ·rw[if_neg h0];rfl
theorem MI.Sr{S:St}{g:MG}{N:Nat}{c:Cf}{μ:bO}(h:MI S g N c μ){x:Int}{b:Nat}(ha:xR g.ls x=some b):(0≤x∧x<μ.l.length)∧Nj S g.own N x.toNat b (aW μ x):=by
 unfold xR at ha;split at ha
 ·rename_i h0;obtain⟨l,h1,h2⟩:=h.qq ha;have h3:=(Wd.1 h1).1;rw[bB h1 h0];exact⟨⟨h0,by omega⟩,h2⟩
 ·cases ha
theorem MI.Sj{S:St}{g:MG}{N:Nat}{c:Cf}{μ:bO}(h:MI S g N c μ){x:Int}(ha:xR g.ls x=none):¬(0≤x∧x<μ.l.length):=fun q=>by
 unfold xR at ha;rw[if_pos q.1,List.getElem?_eq_none_iff]at ha;have:=h.len;omega
theorem JP(w0:W0){S:St}{g:MG}{N:Nat}{c:Cf}{μ:bO}(hI:MI S g N c μ)(x:Int):aa Tryz.prog w0 15 [bd g.m,dI x] S (fun d S'=>d=dI (aW μ x).has∧S'=S):=by
 refine cc [] mx Tryz.func15 rfl rfl (by kernel_rfl) ?_;simp(maxDischargeDepth:=12) (maxSteps:=1000000) -implicitDefEqProofs only[Tryz.ntmps15,go_sem,Nat.reduceAdd,Nat.reduceSub,Nat.reduceMul,Nat.reduceLeDiff,Nat.reduceEqDiff,Nat.reduceGT,Nat.reduceBEq,reduceCtorEq,↓reduceIte,Int.reduceToNat,Int.reduceLE,Int.reduceLT,Int.reduceNe,Int.reduceEq];refine aw (ofM w0 hI.md x) ?_
 cases ha:xR g.ls x with
 |none=>
  rw[Ej (hI.Sj ha)];unfold tY;simp(maxDischargeDepth:=12) (maxSteps:=1000000) -implicitDefEqProofs only[go_sem,Nat.reduceAdd,Nat.reduceSub,Nat.reduceMul,Nat.reduceLeDiff,Nat.reduceEqDiff,Nat.reduceGT,Nat.reduceBEq,reduceCtorEq,↓reduceIte,Int.reduceToNat,Int.reduceLE,Int.reduceLT,Int.reduceNe,Int.reduceEq]
 |some b=>
  obtain⟨_,bb,ids,r,dr,h1,_⟩:=hI.Sr ha;unfold tY;simp(maxDischargeDepth:=12) (maxSteps:=1000000) -implicitDefEqProofs only[go_sem,Nat.reduceAdd,Nat.reduceSub,Nat.reduceMul,Nat.reduceLeDiff,Nat.reduceEqDiff,Nat.reduceGT,Nat.reduceBEq,reduceCtorEq,↓reduceIte,Int.reduceToNat,Int.reduceLE,Int.reduceLT,Int.reduceNe,Int.reduceEq,h1]
theorem pz(w0:W0){S:St}{g:MG}{N:Nat}{c:Cf}{μ:bO}(hI:MI S g N c μ)(hM:gV N c μ)(hN:N≤10000){x:Int}(hx:0≤x∧x<μ.l.length):aa Tryz.prog w0 17 [bd g.m,dI x] S (fun d S'=>d=cI (kp x (aW μ x).F)∧S'=S):=by
 cases ha:xR g.ls x with
 |none=>exact absurd hx (hI.Sj ha)
 |some b=>
  obtain⟨_,bb,ids,r,dr,h1,h2,_⟩:=hI.Sr ha;refine EK w0 hI.md x ha h1 h2 hN fun n f k v q1 q2=>?_;have hz:=(jM hM x).1 n f q1;exact⟨hz.1,(hz.2 k v q2).1⟩
theorem GU{es:List (Value×DV×Nat)}{α:Type}{f:List UInt8→Option α}(h:∀k,aJ es (kT k)=none↔f k=none):(cF f).length≤es.length:=by
 unfold cF;split
 ·rename_i hx;rw[iX];have h1:((hx.choose).map kT).Nodup:=aM (fun x y h=>dA h) hx.choose_spec.1
  have h2:(hx.choose).map kT⊆es.map (·.1):=fun u hu=>by
   obtain⟨v,hv,rfl⟩:=Ws.1 hu;have h3:=(hx.choose_spec.2 v).1 hv;obtain⟨b,hb⟩:=WJ.1 (fun q=>h3 ((h v).1 q));obtain⟨b,hm⟩:=lx hb;exact Ws.2 ⟨_,hm,rfl⟩
  have:=bH h1 h2;simpa using this
 ·simp
theorem CS{S:St}{l N:Nat}{ids:List UInt8→Option Nat}{F:iN}(h:BM S l N ids F)(x:Int):(kp x F).length≤N*N:=by
 obtain⟨es,cl,h1,h2,h3⟩:=h.top
 have hk:∀n,n∈cF F→(gC x n ((F n).getD fun _=>none)).length≤N:=fun n hn=>by
  obtain⟨f,hf⟩:=WJ.1 (nI hn);obtain⟨i,hi⟩:=bu (fun q=>by rw[(h.some_ _).1 q]at hf;cases hf);obtain⟨es,cl,g1,g2,g3⟩:=h.low _ i f hi hf;have:=Dx g3;rw[hf];unfold gC;rw[WT];show(cF f).length≤N;omega
 have hn:(cF F).length≤N:=by
  have:=GU fun k=>(by rw[←h.some_ k,h3 k];cases ids k <;>simp:aJ es (kT k)=none↔F k=none);omega
 have h4:=ru (rows:=(cF F).map fun n=>gC x n ((F n).getD fun _=>none)) (n:=N) fun r hr=>by
  obtain⟨n,q1,rfl⟩:=Ws.1 hr;exact hk n q1
 rw[WT]at h4
 have h5:(kp x F).length=(kW ((cF F).map fun n=>gC x n ((F n).getD fun _=>none))).length:=by
  unfold kp kW;rw[List.flatMap]
 have:=WS N hn;omega
theorem MI.Ue{S:St}{g:MG}{N:Nat}{c:Cf}{μ:bO}(h:MI S g N c μ)(hN:N≤10000)(x:Int)(hx:0≤x∧x<μ.l.length):(kp x (aW μ x).F).length≤100000000:=by
 cases ha:xR g.ls x with
 |none=>exact absurd hx (h.Sj ha)
 |some b=>
  obtain⟨_,bb,ids,r,dr,h1,h2,_⟩:=h.Sr ha;have:=CS h2 x;have:=Nat.mul_le_mul hN hN;omega
def SU(o:bI):Prop:=o.value.length≤500∧o.bucket.length≤60∧o.key.length≤60∧o.cb.length≤20
def UJ(l:List bI):Prop:=(∀o,o∈l→SU o)∧l.length≤120
@[go_sem] def IS (l:List bI):DV:= .sl 11 false (l.map IV)
theorem Me(w0:W0)(l:List bI)(h0:l.length≤4611686018427387904)(S:St):aa Tryz.prog w0 9 [IS l] S (fun d S'=>d=dB (pB (UJ l))∧S'=S):=by
 refine cc [] mx Tryz.func9 rfl rfl (by kernel_rfl) ?_;simp(maxDischargeDepth:=12) (maxSteps:=1000000) -implicitDefEqProofs only[Tryz.ntmps9,go_sem,Nat.reduceAdd,Nat.reduceSub,Nat.reduceMul,Nat.reduceLeDiff,Nat.reduceEqDiff,Nat.reduceGT,Nat.reduceBEq,reduceCtorEq,↓reduceIte,Int.reduceToNat,Int.reduceLE,Int.reduceLT,Int.reduceNe,Int.reduceEq];refine aY [] l.length [0,3] (fun i=>[(3,dI i)]) (fun i=>S) (fun i=>∀j o,j<i→l[j]? =some o→SU o) mx (by kernel_rfl) ?_ ?_
 ·simp(maxDischargeDepth:=12) (maxSteps:=1000000) -implicitDefEqProofs only[go_sem,Nat.reduceAdd,Nat.reduceSub,Nat.reduceMul,Nat.reduceLeDiff,Nat.reduceEqDiff,Nat.reduceGT,Nat.reduceBEq,reduceCtorEq,↓reduceIte,Int.reduceToNat,Int.reduceLE,Int.reduceLT,Int.reduceNe,Int.reduceEq];intro j o hj;omega
 ·intro i hi hinv;have e1:i<4611686018427387904→IntKind.i64.wrap ((i:Int)+1)=((i+1:Nat):Int):=fun h=>aI (by omega);by_cases hil:i<l.length
  ·have e1:=e1 (by omega);have hx:l[i]? =some l[i]:=Wb hil;generalize l[i]=x at hx;have hm:x∈l:=Wc hx;have s1:(tx x.value).size=x.value.length:=dy _;have s2:(tx x.bucket).size=x.bucket.length:=dy _;have s3:(tx x.key).size=x.key.length:=dy _;simp(maxDischargeDepth:=12) (maxSteps:=1000000) -implicitDefEqProofs only[go_sem,Nat.reduceAdd,Nat.reduceSub,Nat.reduceMul,Nat.reduceLeDiff,Nat.reduceEqDiff,Nat.reduceGT,Nat.reduceBEq,reduceCtorEq,↓reduceIte,Int.reduceToNat,Int.reduceLE,Int.reduceLT,Int.reduceNe,Int.reduceEq,hx,e1];rw[s1,s2,s3];refine⟨fun _=>⟨hil,fun q h=>?_,fun q1=>⟨hil,fun q h=>?_,fun q2=>⟨hil,fun q h=>?_,fun q3=>⟨hil,fun q h=>?_,fun q4=>⟨hil,fun j o hj ho=>?_⟩⟩⟩⟩⟩,fun h=>absurd hil h⟩
   ·have:=(h.1 x hm).1;omega
   ·have:=(h.1 x hm).2.1;omega
   ·have:=(h.1 x hm).2.2.1;omega
   ·have:=(h.1 x hm).2.2.2;omega
   ·by_cases e:j=i
    ·subst e;rw[hx]at ho;cases ho;exact⟨by omega,by omega,by omega,by omega⟩
    ·exact hinv j o (by omega) ho
  ·simp(maxDischargeDepth:=12) (maxSteps:=1000000) -implicitDefEqProofs only[go_sem,Nat.reduceAdd,Nat.reduceSub,Nat.reduceMul,Nat.reduceLeDiff,Nat.reduceEqDiff,Nat.reduceGT,Nat.reduceBEq,reduceCtorEq,↓reduceIte,Int.reduceToNat,Int.reduceLE,Int.reduceLT,Int.reduceNe,Int.reduceEq];refine⟨fun h=>absurd h hil,fun _=>⟨fun h=>⟨fun o ho=>?_,by omega⟩,fun h=>by have:=h.2;omega⟩⟩;obtain⟨j,hj⟩:=WO.1 ho;exact hinv j o (by have:=(Wd.1 hj).1;omega) hj
theorem jJ:∀s:List UInt8,(∀c,c∈s→c.toNat<128)→bg s=s.map fun c=>(c.toNat,[c])
 |[],_=>rA
 |c::s,h=>by
  rw[mR (h c Wm),jJ s fun x hx=>h x (Wj _ hx)];rfl
theorem mJ:∀w:List UInt8,(∀x,x∈w→x.toNat<128)→whole w
 |[],h=>fun r hr=>by rw[rA]at hr;cases hr
 |c::w,h=>by
  intro r hr;rw[mR (h c (by simp))]at hr;rcases Wt.1 hr with rfl|hr
  ·exact fun q=>by have:=h c (by simp);simp at q;omega
  ·exact mJ w (fun x hx=>h x (Wj _ hx)) r hr
theorem JZ{s:List UInt8}(h:∀c,c∈s→o0 c.toNat=true∧c.toNat<128)(h0:s≠[])(h1:s.length≤12):fS s where
 Lt:=fun r hr=>by
  rw[jJ s fun c hc=>(h c hc).2]at hr;obtain⟨c,hc,rfl⟩:=Ws.1 hr;exact(h c hc).1
 whole:=mJ s fun x hx=>(h x hx).2
 pos:=by
  rw[jJ s fun c hc=>(h c hc).2,WT];exact Xv.2 h0
 le:=by
  rw[jJ s fun c hc=>(h c hc).2,WT];omega
def cV:Cf:=⟨[[108,111,119],[104,105,103,104]],[3,2],[40,40],[⟨1,1,0⟩]⟩
theorem P1:qp [3,2]:=by
 refine iu.2 ⟨by decide,by decide,pQ.1 (by decide),fun a ha b hb=>?_⟩;have ha':a<2:=ha;obtain⟨rfl,rfl⟩:a=1∧b=0:=by omega
 refine⟨by decide,⟨1,by decide,by decide,by decide,fun d hd=>?_⟩,⟨0,by decide,by decide,by decide,fun d hd=>?_⟩⟩
 ·have:d<2:=hd;rcases(show d=0∨d=1 by omega)with rfl|rfl <;>decide
 ·have:d<2:=hd;rcases(show d=0∨d=1 by omega)with rfl|rfl <;>decide
theorem OR:J8 cV where
 HL:=rfl
 Nb:=rfl
 QB:=P1
 QE:=⟨by decide,fun g h=>(by rw[Wl.1 h];decide),List.pairwise_singleton _ _⟩
 name:=fun s hs=>by
  simp only[cV,Wt,XD,or_false]at hs;rcases hs with rfl|rfl
  ·exact JZ (by decide) (by decide) (by decide)
  ·exact JZ (by decide) (by decide) (by decide)
 quo:=fun n hn=>by
  simp only[cV,Wt,XD,or_false]at hn;rcases hn with rfl|rfl <;>decide
 uniq:=by decide
theorem Px:zo cV:=⟨by decide,fun s hs=>by
 simp only[cV,Wt,XD,or_false]at hs;rcases hs with rfl|rfl <;>decide,by decide,fun x hx=>by simp only[cV,Wt,XD,or_false]at hx;rcases hx with rfl|rfl <;>decide,by decide,by decide⟩
def Lv:bI:=⟨0,0,0,0,[],[],[],0,0,0,[]⟩
def zW:bI:=⟨2,0,1,0,[],[],[],0,0,0,[]⟩
def Lu:bI:=⟨5,0,1,0,[98],[],[],0,0,0,[]⟩
def Nh:bI:=⟨7,0,1,0,[98],[107],[118],0,0,0,[]⟩
def LI:bI:=⟨3,0,1,0,[],[],[],0,0,0,[]⟩
def NA:bI:=⟨0,1,0,0,[],[],[],0,0,0,[]⟩
def l8:bI:=⟨9,1,1,0,[98],[107],[],0,0,0,[]⟩
def Oj:bI:=⟨15,1,1,0,[],[],[],1,0,0,[]⟩
def Ke:bI:=⟨7,0,1,0,[98],[108],[],0,0,0,[]⟩
def kO:List RH:=[⟨0,1,[],0,false⟩]
def fa:List RH:=[⟨0,1,[],0,false⟩,⟨1,1,[],0,false⟩]
def qh:iN:=fun _=>none
def SS:List UInt8→Option (List UInt8):=fun _=>none
def CC:List UInt8→Option (List UInt8):=fun j=>if j=[107]then some [118]else none
def Ew:iN:=eY qh [98] SS
def aV:iN:=eY Ew [98] CC
def iv(F:iN)(has:Int)(D:iN)(r:List RH):bO:=⟨[⟨F,[],has,D⟩,⟨qh,[],0,qh⟩],r,fun _ _ _=>none⟩
theorem UO:jB iJ cV (yM 2) Lv false=(F4 1,iv qh 0 qh kO):=by kernel_rfl
theorem Uf:jB iJ cV (iv qh 0 qh kO) zW false=(kJ 0,iv qh 1 qh kO):=by kernel_rfl
theorem UL:jB iJ cV (iv qh 1 qh kO) Lu false=(kJ 0,iv qh 1 Ew kO):=by kernel_rfl
theorem UY:jB iJ cV (iv qh 1 Ew kO) Nh false=(kJ 0,iv qh 1 aV kO):=by kernel_rfl
theorem UP:jB iJ cV (iv qh 1 aV kO) LI false=(kJ 0,iv aV 0 aV kO):=by kernel_rfl
theorem UQ:jB iJ cV (iv aV 0 aV kO) NA false=(F4 1,iv aV 0 aV fa):=by kernel_rfl
theorem Rs:cF aV=[[98]]:=by
 rw[sB (V:=[[98]]) (by decide) fun k=>?_]
 ·exact List.mergeSort_singleton _
 ·unfold aV Ew eY qh;by_cases h:k=[98]
  ·simp[h]
  ·simp[h]
theorem OS:cF CC=[[107]]:=by
 rw[sB (V:=[[107]]) (by decide) fun k=>?_]
 ·exact List.mergeSort_singleton _
 ·unfold CC;by_cases h:k=[107]
  ·simp[h]
  ·simp[h]
theorem Rp:bG cV (iv aV 0 aV fa) l8 (fun k=>decide (k=l8.key)) 2=[[⟨[107],0,[118]⟩],[]]:=by
 have h1:iF cV (iv aV 0 aV fa) l8 2=[0,1]:=by decide +kernel
 have h2:gR (iv aV 0 aV fa) l8 0 l8.bucket=some CC:=by kernel_rfl
 have h3:gR (iv aV 0 aV fa) l8 1 l8.bucket=none:=by kernel_rfl
 unfold bG;rw[h1];simp only[WG,List.map_nil,h2,h3,qj,OS];rfl
theorem TP:jB iJ cV (iv aV 0 aV fa) l8 false=(⟨0,0,[⟨[107],0,[118]⟩],[]⟩,iv aV 0 aV fa):=by
 have h1:jB iJ cV (iv aV 0 aV fa) l8 false=HF (iv aV 0 aV fa) (getM cV (iv aV 0 aV fa) l8):=by kernel_rfl
 have h2:¬gx (iv aV 0 aV fa) l8:=by decide +kernel
 have h3:fG cV (iv aV 0 aV fa) l8 2=true:=by kernel_rfl
 have hl:(iv aV 0 aV fa).l.length=2:=rfl;rw[h1];unfold getM;rw[if_neg h2,hl,h3,if_neg (by simp),Rp];rfl
theorem Ti:jB iJ cV (iv aV 0 aV fa) zW false=(kJ 0,iv aV 1 aV fa):=by kernel_rfl
theorem Uw:jB iJ cV (iv aV 1 aV fa) Oj false=(kJ 36,iv aV 1 aV fa):=by kernel_rfl
theorem Se:jB iJ cV (iv aV 1 aV fa) Ke true=(kJ 37,iv aV 1 aV fa):=by kernel_rfl
theorem Ou:kp 0 aV=[⟨[98,47,107],0,[118]⟩]:=by
 have h:aV [98]=some CC:=by kernel_rfl
 unfold kp gC;simp only[Rs,Yq,List.flatMap_nil,h,XK,OS];rfl
structure pr(T:St)(g:MG)(b:Nat)(v:List DV):Prop where
 at_:lk T.box b=some v
 no:b∉g.bx
structure qz(T:St)(g:MG)(b:Nat)(v:Ob):Prop where
 at_:lk T.acc b=some v
 no:g.own b= .no
theorem pr.fr{T T':St}{g g':MG}{b:Nat}{v:List DV}(h:pr T g b v)(k:fX T T' g g'):pr T' g' b v:=⟨k.box _ _ h.no h.at_,fun q=>(k.nb _ q).elim h.no fun e=>by rw[h.at_]at e;cases e⟩
theorem qz.fr{T T':St}{g g':MG}{b:Nat}{v:Ob}(h:qz T g b v)(k:fX T T' g g'):qz T' g' b v:=⟨k.acc _ _ h.no h.at_,W8 fun q=>(k.na _ q).elim (fun e=>e h.no) fun e=>by rw[h.at_]at e;cases e⟩
theorem pr.has{T T':St}{g:MG}{b:Nat}{v:List DV}(h:pr T g b v)(k:Has T T'):pr T' g b v:=⟨k.box _ _ h.at_,h.no⟩
theorem qz.has{T T':St}{g:MG}{b:Nat}{v:Ob}(h:qz T g b v)(k:Has T T'):qz T' g b v:=⟨k.acc _ _ h.at_,h.no⟩
theorem qW{T:St}(b:FN T.box)(v:List DV):Has T ⟨(b.n,v)::T.box,T.acc⟩:=⟨fun _ _ q=>ai (aj b) q,fun _ _ q=>q⟩
theorem Qm{T:St}(b:FN T.acc)(v:Ob):Has T ⟨T.box,(b.n,v)::T.acc⟩:=⟨fun _ _ q=>q,fun _ _ q=>ai (aj b) q⟩
theorem MI.Mv{T:St}{g:MG}{N:Nat}{c:Cf}{μ:bO}(h:MI T g N c μ)(b:FN T.box)(v:List DV):pr ⟨(b.n,v)::T.box,T.acc⟩ g b.n v:=⟨iH _ _ _,fun q=>h.lT q (aj b)⟩
theorem MI.Rk{T:St}{g:MG}{N:Nat}{c:Cf}{μ:bO}(h:MI T g N c μ)(b:FN T.acc)(v:Ob):qz ⟨T.box,(b.n,v)::T.acc⟩ g b.n v:=⟨iH _ _ _,W8 fun q=>h.kU _ q (aj b)⟩
structure vR(S T:St)(g:MG):Prop where
 box:∀i v,lk S.box i=some v→pr T g i v
 acc:∀i v,lk S.acc i=some v→qz T g i v
theorem vR.out{S T:St}{g:MG}(h:vR S T g):Has S T:=⟨fun i v q=>(h.box i v q).at_,fun i v q=>(h.acc i v q).at_⟩
theorem vR.fr{S T T':St}{g g':MG}(h:vR S T g)(k:fX T T' g g'):vR S T' g':=⟨fun i v q=>(h.box i v q).fr k,fun i v q=>(h.acc i v q).fr k⟩
theorem vR.has{S T T':St}{g:MG}(h:vR S T g)(k:Has T T'):vR S T' g:=⟨fun i v q=>(h.box i v q).has k,fun i v q=>(h.acc i v q).has k⟩
theorem vR.sub{S0 S T:St}{g:MG}(h:vR S T g)(k:Has S0 S):vR S0 T g:=⟨fun i v q=>h.box i v (k.box i v q),fun i v q=>h.acc i v (k.acc i v q)⟩
theorem vR.new{S T:St}{g:MG}(k1:∀i v,lk S.box i=some v→lk T.box i=some v)(k2:∀i v,lk S.acc i=some v→lk T.acc i=some v)(k3:∀i,i∈g.bx→lk S.box i=none)(k4:∀i,g.own i≠ .no→lk S.acc i=none):vR S T g:=
 ⟨fun i v q=>⟨k1 i v q,fun e=>by rw[k3 i e]at q;cases q⟩,fun i v q=>⟨k2 i v q,W8 fun e=>by rw[k4 i e]at q;cases q⟩⟩
@[go_sem] def QR (o:bI):DV:= .agg [dI o.kind,dI o.level,dI o.aH,dI o.snap,dS (tx o.bucket),dS (tx o.key),dS (tx o.value),dI o.label,dI o.fk,dI o.n,.sl 0 true []]
theorem Md{o:bI}(h:o.cb=[]):Wk (QR o) (IV o):=by
 unfold QR IV;rw[h];exact .agg ⟨.refl _,.refl _,.refl _,.refl _,.refl _,.refl _,.refl _,.refl _,.refl _,.refl _,.nil _ _ _,trivial⟩
def Um(S:St)(g:MG)(N:Nat)(c:Cf)(q:Jv×bO):DV→St→Prop:=fun d S'=>d=J0 q.1∧∃g',MI S' g' (N+1) c q.2∧fX S S' g g'
theorem J3{w0:W0}{S:St}{g:MG}{N:Nat}{c:Cf}{μ:bO}{o:bI}{full:Bool}{q:Jv×bO}(hgO:mN w0)(hgC:kf w0)(hI:MI S g N c μ)(hM:gV N c μ)(hgr:c.gr.length≤1048576)(hN:N≤10000)(hk:o.cb=[])(he:jB iJ c μ o full=q):
 aa Tryz.prog w0 12 [bd g.m,QR o,dB full] S (Um S g N c q):=
 he▸gP (Tt hgO hgC hI hM hgr hN) ⟨.refl _,Md hk,.refl _,trivial⟩ fun d S' h=>⟨_,.refl _,h⟩
theorem SL(w0:W0)(S:St):aa Tryz.prog w0 25 [] S (fun d S'=>d=PA cV∧S'=S):=by
 refine cc [] mx Tryz.func25 rfl rfl (by kernel_rfl) ?_;simp(maxDischargeDepth:=12) (maxSteps:=1000000) -implicitDefEqProofs only[Tryz.ntmps25,go_sem,Nat.reduceAdd,Nat.reduceSub,Nat.reduceMul,Nat.reduceLeDiff,Nat.reduceEqDiff,Nat.reduceGT,Nat.reduceBEq,reduceCtorEq,↓reduceIte,Int.reduceToNat,Int.reduceLE,Int.reduceLT,Int.reduceNe,Int.reduceEq];intro b;exact .agg ⟨Wk.full _ _ _,Wk.full _ _ _,Wk.full _ _ _,Wk.full _ _ _,trivial⟩
def NQ:List bI:=[Lv,zW,Lu,Nh,LI,NA]
def Q1(i:Nat):bO:=[yM 2,iv qh 0 qh kO,iv qh 1 qh kO,iv qh 1 Ew kO,iv qh 1 aV kO,iv aV 0 aV kO].getD i (iv aV 0 aV fa)
theorem IC{i:Nat}{o:bI}(h:NQ[i]? =some o):o.cb=[]∧∃r,r.e=0∧jB iJ cV (Q1 i) o false=(r,Q1 (i+1)):=by
 have hi:i<6:=(Wd.1 h).1;obtain rfl|rfl|rfl|rfl|rfl|rfl:i=0∨i=1∨i=2∨i=3∨i=4∨i=5:=by omega
 all_goals cases h
 ·exact⟨rfl,_,rfl,UO⟩
 ·exact⟨rfl,_,rfl,Uf⟩
 ·exact⟨rfl,_,rfl,UL⟩
 ·exact⟨rfl,_,rfl,UY⟩
 ·exact⟨rfl,_,rfl,UP⟩
 ·exact⟨rfl,_,rfl,UQ⟩
theorem Mu{w0:W0}(hgT:ga w0)(hk:KU w0)(hgO:mN w0)(hgC:kf w0)(S:St):aa Tryz.prog w0 8 [] S (fun d S'=>d=dB true∧Has S S'):=by
 have hgr:cV.gr.length≤1048576:=by decide
 refine jn [] mx Tryz.func8 rfl rfl (by kernel_rfl) ?_;simp(maxDischargeDepth:=12) (maxSteps:=1000000) -implicitDefEqProofs only[Tryz.ntmps8,go_sem,Nat.reduceAdd,Nat.reduceSub,Nat.reduceMul,Nat.reduceLeDiff,Nat.reduceEqDiff,Nat.reduceGT,Nat.reduceBEq,reduceCtorEq,↓reduceIte,Int.reduceToNat,Int.reduceLE,Int.reduceLT,Int.reduceNe,Int.reduceEq];refine aw (SL _ _) ?_;simp(maxDischargeDepth:=12) (maxSteps:=1000000) -implicitDefEqProofs only[go_sem,Nat.reduceAdd,Nat.reduceSub,Nat.reduceMul,Nat.reduceLeDiff,Nat.reduceEqDiff,Nat.reduceGT,Nat.reduceBEq,reduceCtorEq,↓reduceIte,Int.reduceToNat,Int.reduceLE,Int.reduceLT,Int.reduceNe,Int.reduceEq];refine an (PH hgT hk cV Px _) ?_;rintro _ T0 (⟨h,_⟩|⟨_,g0,rfl,hI0,k1,k2,k3,k4⟩)
 ·exact absurd OR h
 have hM0:gV 0 cV (yM 2):=Og OR (by decide);have hI0:MI T0 g0 0 cV (yM 2):=hI0;simp(maxDischargeDepth:=12) (maxSteps:=1000000) -implicitDefEqProofs only[go_sem,Nat.reduceAdd,Nat.reduceSub,Nat.reduceMul,Nat.reduceLeDiff,Nat.reduceEqDiff,Nat.reduceGT,Nat.reduceBEq,reduceCtorEq,↓reduceIte,Int.reduceToNat,Int.reduceLE,Int.reduceLT,Int.reduceNe,Int.reduceEq];obtain⟨L,hL⟩:∃L,L=NQ:=⟨_,rfl⟩;have hl6:L.length=6:=by rw[hL];rfl
 have hA0:vR S T0 g0:= .new k1 k2 k3 k4;refine dK [] [1,3,4] (σ:=Nat×St×MG) (fun s=>[(1,bd g0.m),(3,.sl 11 true (L.map QR)),(4,dI s.1)]) (fun s=>s.2.1) (fun s=>s.1≤6∧s.2.2.m=g0.m∧MI s.2.1 s.2.2 s.1 cV (Q1 s.1)∧gV s.1 cV (Q1 s.1)∧vR S s.2.1 s.2.2) (fun s=>6-s.1) (0,T0,g0) mx (by kernel_rfl) ⟨⟨W4 _,rfl,hI0,hM0,hA0⟩,?_⟩ ?_
 ·rw[hL];simp(maxDischargeDepth:=12) (maxSteps:=1000000) -implicitDefEqProofs only[go_sem,Nat.reduceAdd,Nat.reduceSub,Nat.reduceMul,Nat.reduceLeDiff,Nat.reduceEqDiff,Nat.reduceGT,Nat.reduceBEq,reduceCtorEq,↓reduceIte,Int.reduceToNat,Int.reduceLE,Int.reduceLT,Int.reduceNe,Int.reduceEq,NQ,Lv,zW,Lu,Nh,LI,NA,tx];exact .refl _
 ·rintro⟨i,T,g⟩ ⟨hi,hm,hI,hM,hA⟩;simp only at hi hm hI hM hA;have e1:IntKind.i64.wrap ((i:Int)+1)=((i+1:Nat):Int):=aI (by omega);by_cases hi6:i<6
  ·have hxo:NQ[i]? =some NQ[i]:=Wb hi6;generalize NQ[i]=o at hxo;have hx:L[i]? =some o:=by rw[hL,hxo]
   obtain⟨hko,r,hr,hq⟩:=IC hxo;simp(maxDischargeDepth:=12) (maxSteps:=1000000) -implicitDefEqProofs only[go_sem,Nat.reduceAdd,Nat.reduceSub,Nat.reduceMul,Nat.reduceLeDiff,Nat.reduceEqDiff,Nat.reduceGT,Nat.reduceBEq,reduceCtorEq,↓reduceIte,Int.reduceToNat,Int.reduceLE,Int.reduceLT,Int.reduceNe,Int.reduceEq,hx,e1,hl6];refine⟨fun _=>⟨by omega,?_⟩,fun h=>absurd (by omega) h⟩;rw[←hm];refine an (J3 hgO hgC hI hM hgr (by omega) hko hq) ?_;rintro _ T' ⟨rfl,g',j1,j2⟩;simp(maxDischargeDepth:=12) (maxSteps:=1000000) -implicitDefEqProofs only[go_sem,Nat.reduceAdd,Nat.reduceSub,Nat.reduceMul,Nat.reduceLeDiff,Nat.reduceEqDiff,Nat.reduceGT,Nat.reduceBEq,reduceCtorEq,↓reduceIte,Int.reduceToNat,Int.reduceLE,Int.reduceLT,Int.reduceNe,Int.reduceEq,hr,e1];intro b;have hb:=qW b [dI 0,dI r.n,.sl 3 false (r.rows.map qo),dI 0,dI 0,dI 0,dI 0,.sl 6 false (r.LW.map ur)];refine⟨(i+1,T',g'),⟨by show i+1≤6;omega,j2.m,j1,?_,hA.fr j2⟩,by show 6-(i+1)<6-i;omega,rfl,?_⟩
   ·have:=oz (o:=o) (full:=false) hM;rw[hq]at this;exact this
   ·simp(maxDischargeDepth:=12) (maxSteps:=1000000) -implicitDefEqProofs only[go_sem,Nat.reduceAdd,Nat.reduceSub,Nat.reduceMul,Nat.reduceLeDiff,Nat.reduceEqDiff,Nat.reduceGT,Nat.reduceBEq,reduceCtorEq,↓reduceIte,Int.reduceToNat,Int.reduceLE,Int.reduceLT,Int.reduceNe,Int.reduceEq]
  ·obtain rfl:i=6:=by omega
   simp(maxDischargeDepth:=12) (maxSteps:=1000000) -implicitDefEqProofs only[go_sem,Nat.reduceAdd,Nat.reduceSub,Nat.reduceMul,Nat.reduceLeDiff,Nat.reduceEqDiff,Nat.reduceGT,Nat.reduceBEq,reduceCtorEq,↓reduceIte,Int.reduceToNat,Int.reduceLE,Int.reduceLT,Int.reduceNe,Int.reduceEq,hl6];rw[←hm];refine an (J3 (o:=l8) hgO hgC hI hM hgr (by omega) rfl TP) ?_;rintro _ T1 ⟨rfl,g1,j1,j2⟩;simp(maxDischargeDepth:=12) (maxSteps:=1000000) -implicitDefEqProofs only[go_sem,Nat.reduceAdd,Nat.reduceSub,Nat.reduceMul,Nat.reduceLeDiff,Nat.reduceEqDiff,Nat.reduceGT,Nat.reduceBEq,reduceCtorEq,↓reduceIte,Int.reduceToNat,Int.reduceLE,Int.reduceLT,Int.reduceNe,Int.reduceEq];intro b6;have o6:=j1.Mv b6 [dI 0,dI 0,.sl 3 false (([⟨[107],0,[118]⟩]:List gv).map qo),dI 0,dI 0,dI 0,dI 0,.sl 6 false []];have x1:=j1.has (qW b6 [dI 0,dI 0,.sl 3 false (([⟨[107],0,[118]⟩]:List gv).map qo),dI 0,dI 0,dI 0,dI 0,.sl 6 false []]);have a1:=(hA.fr j2).has (qW b6 [dI 0,dI 0,.sl 3 false (([⟨[107],0,[118]⟩]:List gv).map qo),dI 0,dI 0,dI 0,dI 0,.sl 6 false []]);have M1:gV 7 cV (iv aV 0 aV fa):=hM.le (WK 6);rw[←j2.m];refine an (J3 (o:=zW) hgO hgC x1 M1 hgr (by omega) rfl Ti) ?_;rintro _ T2 ⟨rfl,g2,j3,j4⟩;simp(maxDischargeDepth:=12) (maxSteps:=1000000) -implicitDefEqProofs only[go_sem,Nat.reduceAdd,Nat.reduceSub,Nat.reduceMul,Nat.reduceLeDiff,Nat.reduceEqDiff,Nat.reduceGT,Nat.reduceBEq,reduceCtorEq,↓reduceIte,Int.reduceToNat,Int.reduceLE,Int.reduceLT,Int.reduceNe,Int.reduceEq];intro b7;have p6:=(o6.fr j4);have o7:=j3.Mv b7 [dI 0,dI 0,.sl 3 false [],dI 0,dI 0,dI 0,dI 0,.sl 6 false []];have hT2:=qW b7 [dI 0,dI 0,.sl 3 false [],dI 0,dI 0,dI 0,dI 0,.sl 6 false []];have p6:=p6.has hT2;have a2:=(a1.fr j4).has hT2;have x2:=j3.has hT2
   have M2:gV 8 cV (iv aV 1 aV fa):=by
    have:=oz (o:=zW) (full:=false) M1;rw[Ti]at this;exact this
   rw[←j4.m];refine an (J3 (o:=Oj) hgO hgC x2 M2 hgr (by omega) rfl Uw) ?_;rintro _ T3 ⟨rfl,g3,j5,j6⟩;simp(maxDischargeDepth:=12) (maxSteps:=1000000) -implicitDefEqProofs only[go_sem,Nat.reduceAdd,Nat.reduceSub,Nat.reduceMul,Nat.reduceLeDiff,Nat.reduceEqDiff,Nat.reduceGT,Nat.reduceBEq,reduceCtorEq,↓reduceIte,Int.reduceToNat,Int.reduceLE,Int.reduceLT,Int.reduceNe,Int.reduceEq];intro b8;have p7:=o7.fr j6;have p6:=p6.fr j6;have o8:=j5.Mv b8 [dI 36,dI 0,.sl 3 false [],dI 0,dI 0,dI 0,dI 0,.sl 6 false []];have hT3:=qW b8 [dI 36,dI 0,.sl 3 false [],dI 0,dI 0,dI 0,dI 0,.sl 6 false []];have p6:=p6.has hT3;have p7:=p7.has hT3;have a3:=(a2.fr j6).has hT3;have x3:=j5.has hT3;rw[←j6.m];refine an (J3 (o:=Ke) (full:=true) hgO hgC x3 (M2.le (WK 8)) hgr (by omega) rfl Se) ?_;rintro _ T4 ⟨rfl,g4,j7,j8⟩;simp(maxDischargeDepth:=12) (maxSteps:=1000000) -implicitDefEqProofs only[go_sem,Nat.reduceAdd,Nat.reduceSub,Nat.reduceMul,Nat.reduceLeDiff,Nat.reduceEqDiff,Nat.reduceGT,Nat.reduceBEq,reduceCtorEq,↓reduceIte,Int.reduceToNat,Int.reduceLE,Int.reduceLT,Int.reduceNe,Int.reduceEq];intro b9;have p6:=p6.fr j8;have p7:=p7.fr j8;have p8:=o8.fr j8;have hT4:=qW b9 [dI 37,dI 0,.sl 3 false [],dI 0,dI 0,dI 0,dI 0,.sl 6 false []];have a4:=(a3.fr j8).has hT4;have x4:=j7.has hT4;have n6:=aG b9 b6.n (by rw[p6.at_];rfl);have n7:=aG b9 b7.n (by rw[p7.at_];rfl);have n8:=aG b9 b8.n (by rw[p8.at_];rfl);have q6:=p6.at_;have q7:=p7.at_;have q8:=p8.at_;have M4:=(M2.le (WK 8)).le (WK 9);rw[←j8.m];refine aw (pz _ x4 M4 (by omega) (x:=0) ⟨by omega,by decide⟩) ?_;rw[show(aW (iv aV 1 aV fa) 0).F=aV from rfl,Ou];simp(maxDischargeDepth:=12) (maxSteps:=1000000) -implicitDefEqProofs only[go_sem,Nat.reduceAdd,Nat.reduceSub,Nat.reduceMul,Nat.reduceLeDiff,Nat.reduceEqDiff,Nat.reduceGT,Nat.reduceBEq,reduceCtorEq,↓reduceIte,Int.reduceToNat,Int.reduceLE,Int.reduceLT,Int.reduceNe,Int.reduceEq,n6,n7,n8,q6,q7,q8];refine⟨fun _=>?_,fun h=>absurd rfl h⟩;refine aw (JP _ x4 0) ?_;rw[show(aW (iv aV 1 aV fa) 0).has=1 from rfl];simp(maxDischargeDepth:=12) (maxSteps:=1000000) -implicitDefEqProofs only[go_sem,Nat.reduceAdd,Nat.reduceSub,Nat.reduceMul,Nat.reduceLeDiff,Nat.reduceEqDiff,Nat.reduceGT,Nat.reduceBEq,reduceCtorEq,↓reduceIte,Int.reduceToNat,Int.reduceLE,Int.reduceLT,Int.reduceNe,Int.reduceEq,tx];exact a4.out
def B9(k lv n s:Int):bI:=⟨k,lv,n,s,[],[],[],0,0,0,[]⟩
theorem tM(dg:List UInt8→Int)(c:Cf)(μ:bO){o:bI}(full:Bool)(h:o.kind=16):jB dg c μ o full=(kJ 0,aZ μ o full):=by
 have h1:tm μ.l.length o=true:=decide_eq_true ⟨by omega,.inl h⟩;unfold jB;rw[if_neg (by rw[h1];simp),if_neg (by omega),if_pos h]
theorem Ht(dg:List UInt8→Int)(c:Cf)(μ:bO){o:bI}(full:Bool)(h:o.kind=0)(h0:0≤o.level)(h1:o.level<μ.l.length):jB dg c μ o full=(F4 (lS μ.r o.level).2,⟨μ.l,(lS μ.r o.level).1,μ.sn⟩):=by
 have h1:tm μ.l.length o=true:=decide_eq_true ⟨by omega,.inr ⟨h0,h1⟩⟩;unfold jB;rw[if_neg (by rw[h1];simp),if_pos h]
theorem HO(dg:List UInt8→Int)(c:Cf)(μ:bO){o:bI}(full:Bool)(hk:1≤o.kind∧o.kind≤15)(h0:0≤o.level)(h1:o.level<μ.l.length)(h:¬dM μ.r o.level o.aH<μ.r.length):jB dg c μ o full=(kJ 30,μ):=by
 have h1:tm μ.l.length o=true:=decide_eq_true ⟨by omega,.inr ⟨h0,h1⟩⟩;unfold jB;rw[if_neg (by rw[h1];simp),if_neg (by omega),if_neg (by omega),if_pos h]
theorem Mn(μ:bO)(o:bI)(full:Bool):(aZ μ o full).l.length=μ.l.length:=by simp[aZ]
theorem x9{μ:bO}{o:bI}{full:Bool}{x:Int}(h0:0≤x)(h1:x<μ.l.length):aW (aZ μ o full) x={aW μ x with has:=0,F:=if x=o.level∧0<o.aH∧(aW μ x).has=o.aH∧full=false then(aW μ x).D else(aW μ x).F}:=by
 have e:((x.toNat:Nat):Int)=x:=Int.toNat_of_nonneg h0
 have h2:(aZ μ o full).l[x.toNat]? =some {aW μ x with has:=0,F:=if x=o.level∧0<o.aH∧(aW μ x).has=o.aH∧full=false then(aW μ x).D else(aW μ x).F}:=by
  unfold aZ;simp only[Wi];rw[W9 (by omega)];simp only[WI,e]
 exact bB h2 h0
theorem Oq{r:List RH}{lv n:Int}(h:∀s,s∈r→s.lv≠lv):¬dM r lv n<r.length:=fun q=>by
 obtain⟨s,hs,_⟩:=kK q;exact h s (Wc hs) (eB hs).1
theorem Of{r:List RH}{lv:Int}(h:∀s,s∈r→s.lv≠lv):gA r lv=0:=by
 unfold gA;rw[List.countP_eq_zero];intro s hs;simp[h s hs]
theorem OM{r:List RH}{lv:Int}(h:∀s,s∈r→s.lv<lv):(lS r lv).2=1∧∀s,s∈(lS r lv).1→s.lv<lv+1:=by
 unfold lS;refine⟨by rw[Of fun s hs=>by have:=h s hs;omega];rfl,fun s hs=>?_⟩;rcases Wo.1 hs with q|q
 ·have:=h s q;omega
 ·rw[Wl.1 q];show lv<lv+1;omega
noncomputable def nu(μ:bO)(n:Nat):List (List gv):=(List.range n).map fun k:Nat=>kp k (aW μ k).F
theorem zR(μ:bO)(n:Nat):nu μ (n+1)=nu μ n++[kp n (aW μ n).F]:=by unfold nu;rw[X8,WD];rfl
theorem Ih{μ:bO}{n k:Nat}(h:k<n):(nu μ n)[k]? =some (kp k (aW μ k).F):=by unfold nu;rw[Wi,W9 h];rfl
theorem uc(μ:bO)(n:Nat):(nu μ n).length=n:=by simp[nu]
theorem CQ{w0:W0}(hgT:ga w0)(hk:KU w0)(hgO:mN w0)(hgC:kf w0)(c:Cf)(hc:zo c)(l:List bI)(hl:l.length≤1048576)(S:St):aa Tryz.prog w0 7 [PA c,IS l] S (fun d S'=>d=dB true):=by
 have hgr:=hc.QG;refine jn [] mx Tryz.func7 rfl rfl (by kernel_rfl) ?_;simp(maxDischargeDepth:=12) (maxSteps:=1000000) -implicitDefEqProofs only[Tryz.ntmps7,go_sem,Nat.reduceAdd,Nat.reduceSub,Nat.reduceMul,Nat.reduceLeDiff,Nat.reduceEqDiff,Nat.reduceGT,Nat.reduceBEq,reduceCtorEq,↓reduceIte,Int.reduceToNat,Int.reduceLE,Int.reduceLT,Int.reduceNe,Int.reduceEq];intro b;refine an (Mu hgT hk hgO hgC _) ?_;rintro _ T ⟨rfl,hT⟩;have hbx:=hT.box b.n _ (iH _ _ _);simp(maxDischargeDepth:=12) (maxSteps:=1000000) -implicitDefEqProofs only[go_sem,Nat.reduceAdd,Nat.reduceSub,Nat.reduceMul,Nat.reduceLeDiff,Nat.reduceEqDiff,Nat.reduceGT,Nat.reduceBEq,reduceCtorEq,↓reduceIte,Int.reduceToNat,Int.reduceLE,Int.reduceLT,Int.reduceNe,Int.reduceEq,hbx];refine aw (Me w0 l (by omega) _) ?_;simp(maxDischargeDepth:=12) (maxSteps:=1000000) -implicitDefEqProofs only[go_sem,Nat.reduceAdd,Nat.reduceSub,Nat.reduceMul,Nat.reduceLeDiff,Nat.reduceEqDiff,Nat.reduceGT,Nat.reduceBEq,reduceCtorEq,↓reduceIte,Int.reduceToNat,Int.reduceLE,Int.reduceLT,Int.reduceNe,Int.reduceEq,hbx];refine aw (KC _ c hc _) ?_;simp(maxDischargeDepth:=12) (maxSteps:=1000000) -implicitDefEqProofs only[go_sem,Nat.reduceAdd,Nat.reduceSub,Nat.reduceMul,Nat.reduceLeDiff,Nat.reduceEqDiff,Nat.reduceGT,Nat.reduceBEq,reduceCtorEq,↓reduceIte,Int.reduceToNat,Int.reduceLE,Int.reduceLT,Int.reduceNe,Int.reduceEq,hbx];intro hsm hcp hup;have hsm:=Wy.1 hsm;have hP:=Wy.1 hcp;have hl120:=hsm.2;refine an (PH hgT hk c hc _) ?_;rintro _ T0 (⟨h,_⟩|⟨_,g0,rfl,hI0,k1,k2,k3,k4⟩)
 ·exact absurd hP h
 have hM0:gV 0 c (yM c.up.length):=Og hP (by omega);have hA0:vR T T0 g0:= .new k1 k2 k3 k4;have hB0:=hA0.box _ _ hbx;simp(maxDischargeDepth:=12) (maxSteps:=1000000) -implicitDefEqProofs only[go_sem,Nat.reduceAdd,Nat.reduceSub,Nat.reduceMul,Nat.reduceLeDiff,Nat.reduceEqDiff,Nat.reduceGT,Nat.reduceBEq,reduceCtorEq,↓reduceIte,Int.reduceToNat,Int.reduceLE,Int.reduceLT,Int.reduceNe,Int.reduceEq];refine dK [] [1,2,8,10] (σ:=Nat×St×MG×bO) (fun s=>[(1,IS l),(2,.v (.pointer (some ⟨b.n,0,none⟩))),(8,bd g0.m),(10,dI s.1)]) (fun s=>s.2.1) (fun s=>s.1≤l.length∧s.2.2.1.m=g0.m∧MI s.2.1 s.2.2.1 s.1 c s.2.2.2∧gV s.1 c s.2.2.2∧pr s.2.1 s.2.2.1 b.n [.sl 1 false (az c.nm),dP c.up,kA c.qu,iM c.gr]) (fun s=>l.length-s.1) (0,T0,g0,yM c.up.length) mx (by kernel_rfl) ⟨⟨W4 _,rfl,hI0,hM0,hB0⟩,?_⟩ ?_
 ·simp(maxDischargeDepth:=12) (maxSteps:=1000000) -implicitDefEqProofs only[go_sem,Nat.reduceAdd,Nat.reduceSub,Nat.reduceMul,Nat.reduceLeDiff,Nat.reduceEqDiff,Nat.reduceGT,Nat.reduceBEq,reduceCtorEq,↓reduceIte,Int.reduceToNat,Int.reduceLE,Int.reduceLT,Int.reduceNe,Int.reduceEq]
 rintro⟨i,T1,g,μ⟩ ⟨hi,hm,hI,hM,hB⟩;simp only at hi hm hI hM hB;have e1:IntKind.i64.wrap ((i:Int)+1)=((i+1:Nat):Int):=aI (by omega);by_cases hil:i<l.length
 ·have hx:l[i]? =some l[i]:=Wb hil;generalize l[i]=o at hx;simp(maxDischargeDepth:=12) (maxSteps:=1000000) -implicitDefEqProofs only[go_sem,Nat.reduceAdd,Nat.reduceSub,Nat.reduceMul,Nat.reduceLeDiff,Nat.reduceEqDiff,Nat.reduceGT,Nat.reduceBEq,reduceCtorEq,↓reduceIte,Int.reduceToNat,Int.reduceLE,Int.reduceLT,Int.reduceNe,Int.reduceEq,hx,e1];refine⟨fun _=>⟨hil,?_⟩,fun h=>absurd hil h⟩;rw[←hm];refine an (Tt hgO hgC hI hM hgr (by omega)) ?_;rintro _ T2 ⟨rfl,g',j1,j2⟩;simp(maxDischargeDepth:=12) (maxSteps:=1000000) -implicitDefEqProofs only[go_sem,Nat.reduceAdd,Nat.reduceSub,Nat.reduceMul,Nat.reduceLeDiff,Nat.reduceEqDiff,Nat.reduceGT,Nat.reduceBEq,reduceCtorEq,↓reduceIte,Int.reduceToNat,Int.reduceLE,Int.reduceLT,Int.reduceNe,Int.reduceEq,e1];exact⟨⟨i+1,T2,g',_⟩,⟨hil,j2.m,j1,oz hM,hB.fr j2⟩,by show l.length-(i+1)<l.length-i;omega,rfl,.refl _⟩
 have hnl:=hM.nl;simp(maxDischargeDepth:=12) (maxSteps:=1000000) -implicitDefEqProofs only[go_sem,Nat.reduceAdd,Nat.reduceSub,Nat.reduceMul,Nat.reduceLeDiff,Nat.reduceEqDiff,Nat.reduceGT,Nat.reduceBEq,reduceCtorEq,↓reduceIte,Int.reduceToNat,Int.reduceLE,Int.reduceLT,Int.reduceNe,Int.reduceEq];refine⟨fun h=>absurd h hil,fun _=>?_⟩;refine mU 11 1 rfl (by omega) fun lo=>?_;refine aY [] c.up.length [2,8,11,12] (fun k=>[(2,.v (.pointer (some ⟨b.n,0,none⟩))),(8,bd g0.m),(11,.acc lo.n k),(12,dI k)]) (fun k=>⟨T1.box,(lo.n,.arr 1 ((nu μ k).map cI))::T1.acc⟩) (fun _=>True) mx (by kernel_rfl) ?_ ?_
 ·simp(maxDischargeDepth:=12) (maxSteps:=1000000) -implicitDefEqProofs only[go_sem,Nat.reduceAdd,Nat.reduceSub,Nat.reduceMul,Nat.reduceLeDiff,Nat.reduceEqDiff,Nat.reduceGT,Nat.reduceBEq,reduceCtorEq,↓reduceIte,Int.reduceToNat,Int.reduceLE,Int.reduceLT,Int.reduceNe,Int.reduceEq]
  try exact .refl _
 intro k hk1 _;have hbx1:=hB.at_;have e2:IntKind.i64.wrap ((k:Int)+1)=((k+1:Nat):Int):=aI (by omega);have hwl:=uc μ k;have hU:=Qm lo (.arr 1 ((nu μ k).map cI));by_cases hkl:k<c.up.length
 ·simp(maxDischargeDepth:=12) (maxSteps:=1000000) -implicitDefEqProofs only[go_sem,Nat.reduceAdd,Nat.reduceSub,Nat.reduceMul,Nat.reduceLeDiff,Nat.reduceEqDiff,Nat.reduceGT,Nat.reduceBEq,reduceCtorEq,↓reduceIte,Int.reduceToNat,Int.reduceLE,Int.reduceLT,Int.reduceNe,Int.reduceEq,hbx1,e2];refine⟨fun _=>?_,fun h=>absurd hkl h⟩;rw[←hm];refine aw (pz _ (hI.has hU) hM (by omega) (x:=(k:Int)) (by omega)) ?_;simp(maxDischargeDepth:=12) (maxSteps:=1000000) -implicitDefEqProofs only[go_sem,Nat.reduceAdd,Nat.reduceSub,Nat.reduceMul,Nat.reduceLeDiff,Nat.reduceEqDiff,Nat.reduceGT,Nat.reduceBEq,reduceCtorEq,↓reduceIte,Int.reduceToNat,Int.reduceLE,Int.reduceLT,Int.reduceNe,Int.reduceEq,e2,hwl];rw[zR,WD];exact⟨by omega,by unfold maxLen;omega,hkl,.refl _⟩
 simp(maxDischargeDepth:=12) (maxSteps:=1000000) -implicitDefEqProofs only[go_sem,Nat.reduceAdd,Nat.reduceSub,Nat.reduceMul,Nat.reduceLeDiff,Nat.reduceEqDiff,Nat.reduceGT,Nat.reduceBEq,reduceCtorEq,↓reduceIte,Int.reduceToNat,Int.reduceLE,Int.reduceLT,Int.reduceNe,Int.reduceEq,hbx1];refine⟨fun h=>absurd h hkl,fun _=>?_⟩;rw[←hm];refine an (J3 (o:=B9 16 0 1 0) (full:=true) hgO hgC (hI.has hU) hM hgr (by omega) rfl (tM _ _ _ _ rfl)) ?_;rintro _ T2 ⟨rfl,g2,j1,j2⟩;simp(maxDischargeDepth:=12) (maxSteps:=1000000) -implicitDefEqProofs only[go_sem,Nat.reduceAdd,Nat.reduceSub,Nat.reduceMul,Nat.reduceLeDiff,Nat.reduceEqDiff,Nat.reduceGT,Nat.reduceBEq,reduceCtorEq,↓reduceIte,Int.reduceToNat,Int.reduceLE,Int.reduceLT,Int.reduceNe,Int.reduceEq];have hc0:(aZ μ (B9 16 0 1 0) true).l.length=c.up.length:=by rw[Mn];exact hnl
 have hM2:gV (l.length+1) c (aZ μ (B9 16 0 1 0) true):=by
  have:=oz (o:=B9 16 0 1 0) (full:=true) hM;rw[tM _ _ _ _ rfl]at this;exact this.le (by omega)
 have hlb:∀x:Int,0≤x→x<c.up.length→(aW (aZ μ (B9 16 0 1 0) true) x).has=0∧(aW (aZ μ (B9 16 0 1 0) true) x).F=(aW μ x).F:=fun x q1 q2=>by
  rw[x9 q1 (by omega)];exact⟨rfl,by simp⟩
 generalize hμ2:aZ μ (B9 16 0 1 0) true=μ2 at*;have hr2:μ2.r=[]:=by rw[←hμ2];rfl
 have oA:=(hI.Rk lo (.arr 1 ((nu μ k).map cI))).fr j2;have oB:=(hB.has hU).fr j2;obtain rfl:k=c.up.length:=by omega
 have j1:MI T2 g2 (l.length+1+5*0) c μ2:=j1.le (by omega);have hM2:gV (l.length+1+5*0) c μ2:=hM2;rw[show g.m=g2.m from j2.m.symm];refine dK [28] [2,8,11,13] (σ:=Nat×St×MG×bO) (fun s=>[(2,.v (.pointer (some ⟨b.n,0,none⟩))),(8,bd g2.m),(11,.acc lo.n c.up.length),(13,dI s.1)]) (fun s=>s.2.1) (fun s=>s.1≤c.up.length∧s.2.2.1.m=g2.m∧MI s.2.1 s.2.2.1 (l.length+1+5*s.1) c s.2.2.2∧gV (l.length+1+5*s.1) c s.2.2.2∧pr s.2.1 s.2.2.1 b.n [.sl 1 false (az c.nm),dP c.up,kA c.qu,iM c.gr]∧qz s.2.1 s.2.2.1 lo.n (.arr 1 ((nu μ c.up.length).map cI))∧s.2.2.2.l=μ2.l∧∀x,x∈s.2.2.2.r→x.lv<s.1) (fun s=>c.up.length-s.1) (0,T2,g2,μ2) mx (by kernel_rfl) ⟨⟨W4 _,rfl,j1,hM2,oB,oA,rfl,fun x hx=>by rw[hr2]at hx;cases hx⟩,?_⟩ ?_
 ·simp(maxDischargeDepth:=12) (maxSteps:=1000000) -implicitDefEqProofs only[go_sem,Nat.reduceAdd,Nat.reduceSub,Nat.reduceMul,Nat.reduceLeDiff,Nat.reduceEqDiff,Nat.reduceGT,Nat.reduceBEq,reduceCtorEq,↓reduceIte,Int.reduceToNat,Int.reduceLE,Int.reduceLT,Int.reduceNe,Int.reduceEq]
 rintro⟨k,T3,g3,μ3⟩ ⟨hk3,hm3,hI3,hM3,hB3,hA3,hl3,hr3⟩;simp only at hk3 hm3 hI3 hM3 hB3 hA3 hl3 hr3;have hbx3:=hB3.at_;have e3:IntKind.i64.wrap ((k:Int)+1)=((k+1:Nat):Int):=aI (by omega);by_cases hkl3:k<c.up.length
 case neg=>
  simp(maxDischargeDepth:=12) (maxSteps:=1000000) -implicitDefEqProofs only[go_sem,Nat.reduceAdd,Nat.reduceSub,Nat.reduceMul,Nat.reduceLeDiff,Nat.reduceEqDiff,Nat.reduceGT,Nat.reduceBEq,reduceCtorEq,↓reduceIte,Int.reduceToNat,Int.reduceLE,Int.reduceLT,Int.reduceNe,Int.reduceEq,hbx3];exact fun h=>absurd h hkl3
 simp(maxDischargeDepth:=12) (maxSteps:=1000000) -implicitDefEqProofs only[go_sem,Nat.reduceAdd,Nat.reduceSub,Nat.reduceMul,Nat.reduceLeDiff,Nat.reduceEqDiff,Nat.reduceGT,Nat.reduceBEq,reduceCtorEq,↓reduceIte,Int.reduceToNat,Int.reduceLE,Int.reduceLT,Int.reduceNe,Int.reduceEq,hbx3,e3];intro _;have hnl3:μ3.l.length=c.up.length:=by rw[hl3];exact hc0
 have hgone:∀n,¬dM μ3.r (k:Int) n<μ3.r.length:=fun n=>Oq fun s hs=>by have:=hr3 s hs;omega
 refine dK [] [2,8,11,13,14] (σ:=Nat×St×MG) (fun s=>[(2,.v (.pointer (some ⟨b.n,0,none⟩))),(8,bd g2.m),(11,.acc lo.n c.up.length),(13,dI k),(14,dI s.1)]) (fun s=>s.2.1) (fun s=>s.1≤4∧s.2.2.m=g2.m∧MI s.2.1 s.2.2 (l.length+1+5*k+s.1) c μ3∧gV (l.length+1+5*k+s.1) c μ3∧pr s.2.1 s.2.2 b.n [.sl 1 false (az c.nm),dP c.up,kA c.qu,iM c.gr]∧qz s.2.1 s.2.2 lo.n (.arr 1 ((nu μ c.up.length).map cI))) (fun s=>4-s.1) (0,T3,g3) mx (by kernel_rfl) ⟨⟨W4 _,hm3,hI3,hM3,hB3,hA3⟩,?_⟩ ?_
 ·simp(maxDischargeDepth:=12) (maxSteps:=1000000) -implicitDefEqProofs only[go_sem,Nat.reduceAdd,Nat.reduceSub,Nat.reduceMul,Nat.reduceLeDiff,Nat.reduceEqDiff,Nat.reduceGT,Nat.reduceBEq,reduceCtorEq,↓reduceIte,Int.reduceToNat,Int.reduceLE,Int.reduceLT,Int.reduceNe,Int.reduceEq]
 rintro⟨j,T4,g4⟩ ⟨hj,hm4,hI4,hM4,hB4,hA4⟩;simp only at hj hm4 hI4 hM4 hB4 hA4;have e4:IntKind.i64.wrap ((j:Int)+1)=((j+1:Nat):Int):=aI (by omega);by_cases hj4:j<4
 ·simp(maxDischargeDepth:=12) (maxSteps:=1000000) -implicitDefEqProofs only[go_sem,Nat.reduceAdd,Nat.reduceSub,Nat.reduceMul,Nat.reduceLeDiff,Nat.reduceEqDiff,Nat.reduceGT,Nat.reduceBEq,reduceCtorEq,↓reduceIte,Int.reduceToNat,Int.reduceLE,Int.reduceLT,Int.reduceNe,Int.reduceEq,e4];refine⟨fun _=>?_,fun h=>absurd (by omega) h⟩;rw[←hm4];refine an (J3 (o:=B9 2 k j 0) (full:=false) hgO hgC hI4 hM4 hgr (by omega) rfl (HO _ _ _ _ ⟨show(1:Int)≤2 by omega,show(2:Int)≤15 by omega⟩ (by show(0:Int)≤(k:Int);omega) (by show(k:Int)<_;omega) (hgone _))) ?_;rintro _ T5 ⟨rfl,g5,q1,q2⟩;simp(maxDischargeDepth:=12) (maxSteps:=1000000) -implicitDefEqProofs only[go_sem,Nat.reduceAdd,Nat.reduceSub,Nat.reduceMul,Nat.reduceLeDiff,Nat.reduceEqDiff,Nat.reduceGT,Nat.reduceBEq,reduceCtorEq,↓reduceIte,Int.reduceToNat,Int.reduceLE,Int.reduceLT,Int.reduceNe,Int.reduceEq,e4];intro br;refine⟨fun h=>absurd rfl h,fun _=>⟨(j+1,T5,g5),⟨by show j+1≤4;omega,q2.m,q1,hM4.le (by omega),hB4.fr q2,hA4.fr q2⟩,by show 4-(j+1)<4-j;omega,rfl,?_⟩⟩;simp(maxDischargeDepth:=12) (maxSteps:=1000000) -implicitDefEqProofs only[go_sem,Nat.reduceAdd,Nat.reduceSub,Nat.reduceMul,Nat.reduceLeDiff,Nat.reduceEqDiff,Nat.reduceGT,Nat.reduceBEq,reduceCtorEq,↓reduceIte,Int.reduceToNat,Int.reduceLE,Int.reduceLT,Int.reduceNe,Int.reduceEq]
 simp(maxDischargeDepth:=12) (maxSteps:=1000000) -implicitDefEqProofs only[go_sem,Nat.reduceAdd,Nat.reduceSub,Nat.reduceMul,Nat.reduceLeDiff,Nat.reduceEqDiff,Nat.reduceGT,Nat.reduceBEq,reduceCtorEq,↓reduceIte,Int.reduceToNat,Int.reduceLE,Int.reduceLT,Int.reduceNe,Int.reduceEq];refine⟨fun h=>absurd h (by omega),fun _=>?_⟩;rw[←hm4];have hkx:(0:Int)≤(k:Int)∧(k:Int)<c.up.length:=⟨by omega,by omega⟩;have hlbk:aW μ3 (k:Int)=aW μ2 (k:Int):=by unfold aW;rw[hl3]
 refine Y.gI [] [19] [0,1,2,3,4,5,6,8,9,10,7,11,12,13,14,15,16,17,18,19,20,21,22] mx (by kernel_rfl) ?_;have hwl:=uc μ c.up.length;have hwa:=Ih (μ:=μ) hkl3;have hac:=hA4.at_;simp(maxDischargeDepth:=12) (maxSteps:=1000000) -implicitDefEqProofs only[go_sem,Nat.reduceAdd,Nat.reduceSub,Nat.reduceMul,Nat.reduceLeDiff,Nat.reduceEqDiff,Nat.reduceGT,Nat.reduceBEq,reduceCtorEq,↓reduceIte,Int.reduceToNat,Int.reduceLE,Int.reduceLT,Int.reduceNe,Int.reduceEq,hac,hwl,hwa];refine Y.iL (fun T hT=>JP _ (hI4.has hT) (k:Int)) ?_;rw[hlbk,(hlb k hkx.1 hkx.2).1];simp(maxDischargeDepth:=12) (maxSteps:=1000000) -implicitDefEqProofs only[go_sem,Nat.reduceAdd,Nat.reduceSub,Nat.reduceMul,Nat.reduceLeDiff,Nat.reduceEqDiff,Nat.reduceGT,Nat.reduceBEq,reduceCtorEq,↓reduceIte,Int.reduceToNat,Int.reduceLE,Int.reduceLT,Int.reduceNe,Int.reduceEq,hac,hwl,hwa];refine⟨hkl3,Y.iL (fun T hT=>pz _ (hI4.has hT) hM4 (by omega) (x:=(k:Int)) (by rw[hnl3];exact hkx)) ?_⟩;rw[hlbk,(hlb k hkx.1 hkx.2).2];have hel:=hI4.Ue (by omega) (k:Int) (by rw[hnl3];exact hkx);rw[hlbk,(hlb k hkx.1 hkx.2).2]at hel;simp(maxDischargeDepth:=12) (maxSteps:=1000000) -implicitDefEqProofs only[go_sem,Nat.reduceAdd,Nat.reduceSub,Nat.reduceMul,Nat.reduceLeDiff,Nat.reduceEqDiff,Nat.reduceGT,Nat.reduceBEq,reduceCtorEq,↓reduceIte,Int.reduceToNat,Int.reduceLE,Int.reduceLT,Int.reduceNe,Int.reduceEq,hac,hwl,hwa];refine⟨hkl3,Y.iL (fun T hT=>Ma w0 (kp (k:Int) (aW μ (k:Int)).F) (kp (k:Int) (aW μ (k:Int)).F) (by omega) T) ?_⟩;rw[ij rfl];simp(maxDischargeDepth:=12) (maxSteps:=1000000) -implicitDefEqProofs only[go_sem,Nat.reduceAdd,Nat.reduceSub,Nat.reduceMul,Nat.reduceLeDiff,Nat.reduceEqDiff,Nat.reduceGT,Nat.reduceBEq,reduceCtorEq,↓reduceIte,Int.reduceToNat,Int.reduceLE,Int.reduceLT,Int.reduceNe,Int.reduceEq];obtain rfl:j=4:=by omega
 have hop:=OM (r:=μ3.r) (lv:=(k:Int)) hr3;have hM5:=oz (o:=B9 0 k 0 0) (full:=false) hM4;have hdo:=Ht iJ c μ3 (o:=B9 0 k 0 0) false rfl (show(0:Int)≤(k:Int)by omega) (show(k:Int)<_ by omega);rw[hdo]at hM5;refine an (J3 (o:=B9 0 k 0 0) (full:=false) hgO hgC hI4 hM4 hgr (by omega) rfl hdo) ?_;rintro _ T5 ⟨rfl,g5,q1,q2⟩;have h1:(F4 (lS μ3.r (B9 0 (k:Int) 0 0).level).2).n=1:=hop.1;simp(maxDischargeDepth:=12) (maxSteps:=1000000) -implicitDefEqProofs only[go_sem,Nat.reduceAdd,Nat.reduceSub,Nat.reduceMul,Nat.reduceLeDiff,Nat.reduceEqDiff,Nat.reduceGT,Nat.reduceBEq,reduceCtorEq,↓reduceIte,Int.reduceToNat,Int.reduceLE,Int.reduceLT,Int.reduceNe,Int.reduceEq,h1,e3];refine⟨⟨k+1,T5,g5,_⟩,⟨hkl3,q2.m,q1.le (by omega),hM5.le (by omega),hB4.fr q2,hA4.fr q2,hl3,fun x hx=>?_⟩,by show c.up.length-(k+1)<c.up.length-k;omega,rfl,.refl _⟩;have:=hop.2 x hx;show x.lv<((k+1:Nat):Int);omega
end Go.Proofs.YtoepfmhnapedoaaGreatDoor
namespace Go.Proofs.YtoepfmhnapedoaaGreatDoor
open Aml Go Go.RowKit Go.ChangeShapes
def gW(W:World):Gh:=⟨fun b i=>W.cell? ⟨b,i,none⟩,fun _ _=>none,fun _=>none,[]⟩
theorem wJ{w0:W0}{W:World}(hw:w0.w={W with drawn:=0})(h:w0.gh.sub (gW W)):Rel w0 (gW W) ⟨[],[]⟩ W:=by
 have hh:w0.heap=W.heap:=by unfold W0.heap;rw[hw]
 exact⟨⟨by rw[hh,hw];exact⟨rfl,rfl,rfl,Wg _,fun _ _=>rfl,W4 _⟩,fun _ _ h=>(by cases h),h⟩,fun _ _ _ h=>h,by simp,by simp,fun _ _ _ h=>(by cases h),⟨0,fun _ _ _=>rfl⟩,fun _ _ h=>(by cases h),fun _=>none,fun _ _ h=>(by cases h),fun _ _ h=>(by cases h)⟩
def Rd(P:Program)(W:World)(t:TypeId){α:Type}(en:α→List DV)(sz:α→Nat)(ok:α→Prop):Prop:=
 ∀(H:Type) (enc:TypeId×Value→H) (n:Nat) (cs:List Value) (x:DataW H×List MemPlace),DataW.trod enc P W 0 (fun _=>true) true n t cs=some x→
  ∃a,ok a∧sz a≤Rows.uptoBulk x.1∧ae (gW W) (en a) cs∧∀u,u∈cs→u.oneCell'=true
section
variable {P:Program} {W:World}
theorem Rd.conv{t:TypeId}{α β:Type}{en:α→List DV}{sz:α→Nat}{ok:α→Prop}{en':β→List DV}{sz':β→Nat}{ok':β→Prop}(h:Rd P W t en sz ok)(f:α→β)(he:∀a,en a=en' (f a))(hs:∀a,sz' (f a)≤sz a)(ho:∀a,ok a→ok' (f a)):Rd P W t en' sz' ok':=
 fun H enc n cs x hx=>let⟨a,h1,h2,h3,h4⟩:=h H enc n cs x hx;⟨f a,ho a h1,Xn (hs a) h2,by rw[←he];exact h3,h4⟩
theorem D3{t:TypeId}(k:IntKind)(ht:P.underlying t=some (.int k)):Rd P W t (fun n:Int=>[.v (.int k n)]) (fun _=>1) (fun n=>(Lit.int k n).wf=true):=by
 intro H enc n cs x hx;obtain⟨m,rfl,rfl,hw⟩:=DataW.trod_int ht hx;exact⟨m,hw,by simp[Rows.uptoBulk],ae.cons (.v _ rfl) (ae.nil _),by simp[Value.oneCell']⟩
theorem xk{t:TypeId}(ht:P.underlying t=some (.int .i64)):Rd P W t (fun n:Int=>[dI n]) (fun _=>1) (fun n=> -9223372036854775808≤n∧n≤9223372036854775807):=
 (D3 .i64 ht).conv id (fun _=>rfl) (fun _=>Wg _) fun _ h=>bounds_i64 h
theorem Nf{t:TypeId}(ht:P.underlying t=some (.int .u64)):Rd P W t (fun n:Int=>[dU n]) (fun _=>1) (fun n=>0≤n∧n≤18446744073709551615):=
 (D3 .u64 ht).conv id (fun _=>rfl) (fun _=>Wg _) fun _ h=>bounds_u64 h
theorem E6{t:TypeId}(ht:P.underlying t=some .string):Rd P W t (fun s:ByteArray=>[dS s]) (fun s=>s.size+1) (fun _=>True):=by
 intro H enc n cs x hx;obtain⟨s,rfl,rfl,hs⟩:=DataW.trod_string ht hx;exact⟨s,trivial,(show s.size+1≤s.data.toList.length+1 by rw[W3];exact Wg _),ae.cons (.v _ rfl) (ae.nil _),by simp[Value.oneCell']⟩
theorem rv{α:Type}{Q:Nat→α→Prop}:∀(n:Nat),(∀i,i<n→∃a,Q i a)→∃l:List α,l.length=n∧∀(i:Nat) (a:α),l[i]? =some a→Q i a
 |0,_=>⟨[],rfl,by simp⟩
 |n+1,h=>by
  obtain⟨l,h1,h2⟩:=rv n fun i hi=>h i (by omega);obtain⟨a,ha⟩:=h n (by omega);refine⟨l++[a],by simp[h1],fun i b hb=>?_⟩;by_cases hi:i<n
  ·rw[WE (by omega)]at hb;exact h2 i b hb
  ·have hlt:i<(l++[a]).length:=(Wd.1 hb).1;have:i=n:=by simp at hlt;omega
   subst this;rw[WC (by omega),h1]at hb;simp at hb;subst hb;exact ha
theorem vI{H α:Type}{sz:α→Nat}:∀{l:List α} {es:List (DataW H)},l.length=es.length→(∀(i:Nat) (a:α) (e:DataW H),l[i]? =some a→es[i]? =some e→sz a≤Rows.uptoBulk e)→(l.map sz).sum≤Rows.uptoBulkAll es
 |[],[],_,_=>by simp[Rows.uptoBulkAll]
 |[],_::_,h,_=>by simp at h
 |_::_,[],h,_=>by simp at h
 |a::l,e::es,h,hs=>by
  have h1:=hs 0 a e rfl rfl;have h2:=vI (l:=l) (es:=es) (by simpa using h) fun i a e x y=>hs (i+1) a e (by simpa using x) (by simpa using y);simp only[WG,XF,Rows.uptoBulkAll];omega
theorem kN{a:Addr}{k:Nat}{cs:List Value}(h:W.cells? 0 a k=some cs):cs.length=k∧∀j,j<k→W.cell? (a.add j)=cs[j]? :=by
 unfold World.cells? at h;rw[if_pos (W4 _)]at h;exact⟨by simpa using mapM_some_length h,fun j hj=>mapM_some_get h j j (by simp[hj])⟩
theorem rC{t e:TypeId}{α:Type}{en:α→List DV}{sz:α→Nat}{ok:α→Prop}(h:Rd P W e en sz ok)(ht:P.underlying t=some (.slice e)){k:Nat}(hk:P.cellsOf e=k)(hk0:0<k)(enE:α→DV)(mk:List Value→Value)
 (hmk:∀a cs,ae (gW W) (en a) cs→(∀u,u∈cs→u.oneCell'=true)→cs.length=k→ay (gW W) (enE a) (mk cs)∧(mk cs).cells.toList=cs):
 Rd P W t (fun l:List α=>[.sl k false (l.map enE)]) (fun l=>(l.map sz).sum+1) (fun l=>∀a,a∈l→ok a):=by
 intro H enc n cs x hx;rcases DataW.trod_slice ht hx with⟨rfl,rfl⟩|⟨a,len,cap,elems,rest,n',rfl,rfl,rfl, -,hlc,hcm,hel,hget, -, -⟩
 ·exact⟨[],by simp,by simp[Rows.uptoBulk],ae.cons (.nil _ _ _ _ (by simp)) (ae.nil _),by simp[Value.oneCell']⟩
 ·have hq:∀i,i<len→∃p:α×List Value,ok p.1∧(∀y,elems[i]? =some y→sz p.1≤Rows.uptoBulk y.1)∧W.cells? 0 (a.add (i*k)) k=some p.2∧ae (gW W) (en p.1) p.2∧∀u,u∈p.2→u.oneCell'=true:=by
   intro i hi;have h1:=hget i hi;rw[hk]at h1;have h2:elems[i]? =some elems[i]:=Wb (by omega);rw[h2,Xm]at h1;obtain⟨ci,hc,htr⟩:=h1;obtain⟨b,b1,b2,b3,b4⟩:=h H enc n' ci _ htr;exact⟨(b,ci),b1,fun y hy=>by rw[h2]at hy;cases hy;exact b2,hc,b3,b4⟩
  obtain⟨ps,hpl,hps⟩:=rv len hq;refine⟨ps.map (·.1),fun b hb=>?_,?_,?_,by simp[Value.oneCell']⟩
  ·obtain⟨p,hp,rfl⟩:=Ws.1 hb;obtain⟨i,hi⟩:=List.getElem?_of_mem hp;exact(hps i p hi).1
  ·have:=vI (sz:=sz) (l:=ps.map (·.1)) (es:=elems.map (·.1)) (by simp[hpl,hel]) fun i b e x y=>by
    rw[Wi,Wh]at x y;obtain⟨p,hp,rfl⟩:=x;obtain⟨y,hy,rfl⟩:=y;exact(hps i p hp).2.1 y hy
   simp only[Rows.uptoBulk];omega
  ·refine ae.cons ?_ (ae.nil _);by_cases h0:len=0
   ·subst h0;have:ps=[]:=Wu hpl;subst this;exact .nil _ _ _ _ (by simp)
   ·have hspot:a.spot=none:=by
     obtain⟨p,hp⟩:∃p,ps[0]? =some p:=⟨_,Wb (by omega)⟩;obtain⟨hl,hc⟩:=kN (hps 0 p hp).2.2.1;have:=hc 0 (by omega);rw[Wb (by omega)]at this;simp only[Nat.zero_mul,Addr.add,if_true]at this;unfold World.cell? at this;split at this
     ·split at this
      ·cases this
      ·rename_i hs;simpa using hs
     ·cases this
    obtain⟨b,o,sp⟩:=a;simp only at hspot;subst hspot;have hus:(ps.map fun p=>mk p.2).length=len:=by simp[hpl]
    have hmk':∀(i:Nat) (p:α×List Value),ps[i]? =some p→ay (gW W) (enE p.1) (mk p.2)∧(mk p.2).cells.toList=p.2∧p.2.length=k:=fun i p hp=>by
     have hc:=(kN (hps i p hp).2.2.1).1;have:=hmk p.1 p.2 (hps i p hp).2.2.2.1 (hps i p hp).2.2.2.2 hc;exact⟨this.1,this.2,hc⟩
    have:=ay.sl (g:=gW W) k false ((ps.map (·.1)).map enE) b o cap (ps.map fun p=>mk p.2) (by simp) (by simp) (by rw[hus];exact hlc) hcm
     (fun i d u hd hu=>by
      simp only[List.map_map,Wi,Wh]at hd hu;obtain⟨p,hp,rfl⟩:=hd;obtain⟨q,hq,rfl⟩:=hu;rw[hp]at hq;cases hq;exact(hmk' i p hp).1)
     (fun i u hu=>by
      rw[Wi,Wh]at hu;obtain⟨p,hp,rfl⟩:=hu;have:=hmk' i p hp;rw[←W3,this.2.1,this.2.2])
     (fun u hu x hx=>by
      obtain⟨p,hp,rfl⟩:=Ws.1 hu;obtain⟨i,hi⟩:=List.getElem?_of_mem hp;rw[(hmk' i p hi).2.1]at hx;exact(hps i p hi).2.2.2.2 x hx)
     (fun i u j x hu hx=>by
      rw[Wi,Wh]at hu;obtain⟨p,hp,rfl⟩:=hu;have hm:=hmk' i p hp;have hc:=(kN (hps i p hp).2.2.1).2;rw[←W7,hm.2.1]at hx;have hj:j<k:=by rw[←hm.2.2];exact(Wd.1 hx).1
      have:=hc j hj;rw[hx]at this;show W.cell? ⟨b,o+i*k+j,none⟩=some x
      have e:(Addr.add ⟨b,o,none⟩ (i*k)).add j=⟨b,o+i*k+j,none⟩:=by
       unfold Addr.add;split <;>split <;>simp_all
      rw[←e];exact this)
    rw[hus]at this;exact this
theorem mj{t e:TypeId}{α:Type}{en:α→DV}{sz:α→Nat}{ok:α→Prop}(h:Rd P W e (fun a=>[en a]) sz ok)(ht:P.underlying t=some (.slice e))(hk:P.cellsOf e=1):
 Rd P W t (fun l:List α=>[.sl 1 false (l.map en)]) (fun l=>(l.map sz).sum+1) (fun l=>∀a,a∈l→ok a):=
 rC h ht hk (by omega) en (fun cs=>cs.headD undef) fun a cs hr h1 hl=>by
  obtain⟨u,us,rfl,r1,r2⟩:=hr.cC;have:us=[]:=Wu (by simpa using hl);subst this;have hu:=h1 u Wm;refine⟨r1,?_⟩;cases u <;>simp_all [Value.cells,Value.oneCell']
theorem rf{t e:TypeId}{α:Type}{en:α→List DV}{sz:α→Nat}{ok:α→Prop}(h:Rd P W e en sz ok)(ht:P.underlying t=some (.slice e)){k:Nat}(hk:P.cellsOf e=k)(hk0:0<k):
 Rd P W t (fun l:List α=>[.sl k false (l.map fun a=> .agg (en a))]) (fun l=>(l.map sz).sum+1) (fun l=>∀a,a∈l→ok a):=
 rC h ht hk hk0 (fun a=> .agg (en a)) (fun cs=> .agg cs.toArray) fun a cs hr h1 hl=>⟨.agg _ _ hr.len hr.at_ h1,rfl⟩
def QS(P:Program)(W:World)(total off:Nat)(fs:List Field){α:Type}(en:α→List DV)(sz:α→Nat)(ok:α→Prop):Prop:=
 ∀(H:Type) (enc:TypeId×Value→H) (n:Nat) (cs:List Value) (xs:List (DataW H×List MemPlace)),cs.length=total→xs.length=fs.length→
  (∀(i:Nat) (f:Field),fs[i]? =some f→DataW.trod enc P W 0 (fun _=>true) true n f.type ((cs.drop f.offset).take (P.cellsOf f.type))=xs[i]?)→
  ∃a,ok a∧sz a≤Rows.uptoBulkAll (xs.map (·.1))∧ae (gW W) (en a) (cs.drop off)∧∀u,u∈cs.drop off→u.oneCell'=true
theorem rQ{total:Nat}:QS P W total total [] (fun _:Unit=>[]) (fun _=>0) (fun _=>True):=by
 intro H enc n cs xs hc hx hg;refine⟨(),trivial,W4 _,?_,?_⟩
 ·rw[List.drop_eq_nil_of_le (by omega)];exact ae.nil _
 ·rw[List.drop_eq_nil_of_le (by omega)];simp
theorem bc{total off k:Nat}{f:Field}{fs:List Field}{α β:Type}{en:α→List DV}{sz:α→Nat}{ok:α→Prop}{en':β→List DV}{sz':β→Nat}{ok':β→Prop}(h:Rd P W f.type en sz ok)(hf:f.offset=off)(hk:P.cellsOf f.type=k)(h':QS P W total (off+k) fs en' sz' ok'):
 QS P W total off (f::fs) (fun p:α×β=>en p.1++en' p.2) (fun p=>sz p.1+sz' p.2) (fun p=>ok p.1∧ok' p.2):=by
 intro H enc n cs xs hc hx hg
 cases xs with
 |nil=>simp at hx
 |cons x xs=>
  have h0:=hg 0 f rfl;rw[hf,hk]at h0;obtain⟨a,a1,a2,a3,a4⟩:=h H enc n _ x h0;obtain⟨b,b1,b2,b3,b4⟩:=h' H enc n cs xs hc (by simpa using hx) fun i f hf=>by have:=hg (i+1) f (by simpa using hf);simpa using this
  have e:cs.drop off=(cs.drop off).take k++cs.drop (off+k):=by rw[←Xr,X5]
  refine⟨(a,b),⟨a1,b1⟩,?_,?_,?_⟩
  ·simp only[WG,Rows.uptoBulkAll];omega
  ·rw[e];exact a3.append b3
  ·intro u hu;rw[e,Wo]at hu;exact hu.elim (a4 u) (b4 u)
theorem l7{t:TypeId}{fs:Array Field}{α:Type}{en:α→List DV}{sz:α→Nat}{ok:α→Prop}(ht:P.underlying t=some (.struct fs)){total:Nat}(hc:P.cellsOf t=total){fl:List Field}(hfl:fs.toList=fl)(h:QS P W total 0 fl en sz ok):
 Rd P W t en (fun a=>sz a+1) ok:=by
 intro H enc n cs x hx;subst hfl;obtain⟨xs,n',rfl,rfl,h1,h2,h3⟩:=DataW.trod_struct ht hx;obtain⟨a,a1,a2,a3,a4⟩:=h H enc n' cs xs (by rw[h1,hc]) (by simpa using h2) fun i f hf=>h3 i f (by simpa using hf);exact⟨a,a1,by simp only[Rows.uptoBulk];omega,by simpa using a3,by simpa using a4⟩
def N1(P:Program)(W:World)(ts:List TypeId){α:Type}(en:α→List DV)(sz:α→Nat)(ok:α→Prop):Prop:=
 ∀(H:Type) (enc:TypeId×Value→H) (base:Nat) (vs:List Value) (ds:List (DataW H)) (p:List MemPlace),(∀(j:Nat) t v,ts[j]? =some t→vs[j]? =some v→Value.okWide P W .any base t v)→DataW.TrodAll enc P W 0 (fun _=>true) true ts vs ds p→
  ∃a,ok a∧sz a≤Rows.uptoBulkAll ds∧ae (gW W) (en a) vs
theorem Iu:N1 P W [] (fun _:Unit=>[]) (fun _=>0) (fun _=>True):=by
 intro H enc base vs ds p hv h;obtain⟨rfl,rfl,rfl⟩:=trodAll_nil h;exact⟨(),trivial,W4 _,ae.nil _⟩
def KR(P:Program)(t:TypeId):Bool:=match P.underlying t with
 |some .bool|some .string|some (.int _)|some (.slice _)=>true
 |_=>false
theorem vT{t:TypeId}(ht:KR P t=true){base:Nat}{v:Value}(h:Value.okWide P W .any base t v):v.cells= #[v]∧v.oneCell'=true:=by
 unfold KR at ht;unfold Value.okWide Cell.okWide Cell.ok at h;split at ht
 ·rename_i hu;rw[hu]at h;cases v <;>simp_all [Value.cells,Value.oneCell']
 ·rename_i hu;rw[hu]at h;cases v <;>simp_all [Value.cells,Value.oneCell']
 ·rename_i hu;rw[hu]at h;cases v <;>simp_all [Value.cells,Value.oneCell']
 ·rename_i hu;rw[hu]at h;cases v <;>simp_all [Value.cells,Value.oneCell']
 ·cases ht
theorem Jy{t:TypeId}{ts:List TypeId}{α β:Type}{en:α→DV}{sz:α→Nat}{ok:α→Prop}{en':β→List DV}{sz':β→Nat}{ok':β→Prop}(h:Rd P W t (fun a=>[en a]) sz ok)(ht:KR P t=true)(h':N1 P W ts en' sz' ok'):
 N1 P W (t::ts) (fun p:α×β=>en p.1::en' p.2) (fun p=>sz p.1+sz' p.2) (fun p=>ok p.1∧ok' p.2):=by
 intro H enc base vs ds p hv hA;obtain⟨v,vs',d,ds',p1,q1,rfl,rfl,rfl,h1,h2⟩:=trodAll_cons hA;obtain⟨b,b1,b2,b3⟩:=h' H enc base vs' ds' q1 (fun j t v x y=>hv (j+1) t v (by simpa using x) (by simpa using y)) h2;obtain⟨n,hn⟩:=h1;obtain⟨a,a1,a2,a3,a4⟩:=h H enc n _ _ hn;obtain⟨hc,ho⟩:=vT ht (hv 0 t v rfl rfl);rw[hc]at a3;refine⟨(a,b),⟨a1,b1⟩,by simp only[Rows.uptoBulkAll];simp only at a2;omega,ae.cons ?_ b3⟩;obtain⟨u,us,he,r1,r2⟩:=a3.cC;simp only[X3]at he;rw[he.1];exact r1
theorem Hu{t:TypeId}{ts:List TypeId}{fs:Array Field}{α β:Type}{en:α→List DV}{sz:α→Nat}{ok:α→Prop}{en':β→List DV}{sz':β→Nat}{ok':β→Prop}(h:Rd P W t en sz ok)(ht:P.underlying t=some (.struct fs))(h':N1 P W ts en' sz' ok'):
 N1 P W (t::ts) (fun p:α×β=> .agg (en p.1)::en' p.2) (fun p=>sz p.1+sz' p.2) (fun p=>ok p.1∧ok' p.2):=by
 intro H enc base vs ds p hv hA;obtain⟨v,vs',d,ds',p1,q1,rfl,rfl,rfl,h1,h2⟩:=trodAll_cons hA;obtain⟨b,b1,b2,b3⟩:=h' H enc base vs' ds' q1 (fun j t v x y=>hv (j+1) t v (by simpa using x) (by simpa using y)) h2;obtain⟨n,hn⟩:=h1;obtain⟨a,a1,a2,a3,a4⟩:=h H enc n _ _ hn;have ho:=hv 0 t v rfl rfl;unfold Value.okWide at ho;rw[ht]at ho;obtain⟨cs,rfl,_,_⟩:=ho;refine⟨(a,b),⟨a1,b1⟩,by simp only[Rows.uptoBulkAll];simp only at a2;omega,ae.cons ?_ b3⟩;have:(Value.agg cs)= .agg cs.toList.toArray:=by simp
 rw[this];exact .agg _ _ (by simpa[Value.cells]using a3.len) (by simpa[Value.cells]using a3.at_) (by simpa[Value.cells]using a4)
theorem kc{H:Type}{enc:TypeId×Value→H}(hl:laidOutB P=true){W':World}(hb:Below W.heap.size W W'){sp:Nat→Bool}:∀{ts:List TypeId} {vs:List Value} {ds:List (DataW H)} {ps:List MemPlace},(∀t,t∈ts→P.readableRec t=true∧t<P.types.size)→
 DataW.TrodAll enc P W 0 (fun _=>true) true ts vs ds ps→(∀p,p∈ps→p.block<W.heap.size∧sp p.block=true)→DataW.TrodAll enc P W' 0 sp true ts vs ds ps
 |[],vs,ds,ps,_,h,_=>by
  obtain⟨rfl,rfl,rfl⟩:=trodAll_nil h;exact rfl
 |t::ts,vs,ds,ps,ht,h,hp=>by
  obtain⟨v,vs',d,ds',p1,q1,rfl,rfl,rfl,h1,h2⟩:=trodAll_cons h
  exact⟨p1,q1,WideElems.Trod_stays hl (ht t Wm).1 (ht t Wm).2 h1 (fun x hx=>hb.same (hp x (WY _ hx)).1) (fun x hx=>(hp x (WY _ hx)).2),
   kc hl hb (fun t' ht'=>ht t' (Wj _ ht')) h2 fun x hx=>hp x (XA _ hx),rfl⟩
theorem ql{w0:W0}(hw0:w0.w={W with drawn:=0})(hg0:w0.gh.sub (gW W)){H:Type}(enc:TypeId×Value→H){f:FuncId}{fn:Func}{s:ChangeSpec}{ts:List TypeId}{α:Type}{en:α→List DV}{sz:α→Nat}{ok:α→Prop}{tb:TypeId}(hr:N1 P W ts en sz ok)(hts:fn.params=ts.toArray)(hres:fn.resultTypes= #[tb])(htb:P.underlying tb=some .bool)(hvars:s.vars=[])
 (hl:laidOutB P=true) (hT:∀t,t∈ts→P.readableRec t=true∧t<P.types.size) (hspec:∀ds:List (DataW H),ds.length=ts.length→s.fn H ds={results:=[.lit (.bool true)],args:=ds})
 (hcall:∀a,ok a→sz a≤1048576→aa P w0 f (en a) ⟨[],[]⟩ fun d _=>d=dB true)
 (base:Nat) (args:Array Value) (ds gs:List (DataW H)) (before:List MemPlace) (hval:∀(j:Nat) t v,fn.params[j]? =some t→args[j]? =some v→Value.okWide P W .any base t v)
 (hW:DataW.Whole enc P fn.params.toList s.vars false W args.toList ds gs before) (hk:Rows.uptoBulkAll (ds++gs)≤1048576) (hpq:∀d S,¬w0.pq d S:=by exact fun _ _ h=>h):
 Calls P f args W fun e W'=>∃v,e= .returned v∧s.post enc P fn false true false false W args v W':=by
 have hW':=hW;obtain⟨p,q,hA,hV,rfl,hfz,hnd⟩:=hW;rw[hvars]at hV
 have hgs:gs=[]∧q=[]:=by
  cases gs with
  |nil=>exact⟨rfl,hV⟩
  |cons g gs=>exact hV.elim
 obtain⟨rfl,rfl⟩:=hgs;rw[hts]at hA;simp only[Xw]at hk;obtain⟨a,a1,a2,a3⟩:=hr H enc base args.toList ds p (fun j t v x y=>hval j t v (by rw[hts];simpa using x) (by simpa using y)) (by simpa using hA);have hc:=hcall a a1 (Xn a2 hk) (gW W) args W (wJ hw0 hg0) a3;refine hc.mono ?_;rintro e W' (⟨r,g',d,S',rfl,hle,hR,hd,rfl⟩|⟨_,_,_,_,_,_,_,_,hF⟩)
 rotate_left
 ·exact(hpq _ _ hF).elim
 have hb0:=hR.below.base;unfold W0.heap at hb0;rw[hw0]at hb0;have hb:Below W.heap.size W W':=⟨hb0.os,hb0.tape,hb0.output,hb0.size,hb0.block⟩;have hrv:r= .bool true:=iW hd;subst hrv
 have hlen:ds.length=ts.length:=by
  have:∀{ts:List TypeId} {vs:List Value} {ds:List (DataW H)} {ps:List MemPlace},DataW.TrodAll enc P W 0 (fun _=>true) true ts vs ds ps→ds.length=ts.length:=by
   intro ts
   induction ts with
   |nil=>intro vs ds ps h;obtain⟨rfl,rfl,rfl⟩:=trodAll_nil h;rfl
   |cons t ts ih=>
    intro vs ds ps h;obtain⟨v,vs',d,ds',p1,q1,rfl,rfl,rfl,h1,h2⟩:=trodAll_cons h;simp[ih h2]
  exact this (by simpa using hA)
 have hsp:=hspec ds hlen;have hold:∀x,x∈p→x.block<W.heap.size:=fun x hx=>hW'.lt x (by simpa using hx)
 have hres':∀(b:Nat) (sp:Nat→Bool) (hd:Bool),DataW.TrodAll enc P W' b sp hd fn.resultTypes.toList ((Value.bool true).resultList fn.resultTypes.size) (s.fn H (ds++[])).results []:=by
  intro b sp hd;rw[Xw,hsp,hres];exact trodAll_cons_mk (shut_bool htb _) trodAll_mk0
 have hargs':∀sp:Nat→Bool,(∀x,x∈p→sp x.block=true)→DataW.TrodAll enc P W' 0 sp true fn.params.toList args.toList (s.fn H (ds++[])).args p:=by
  intro sp hs;rw[Xw,hsp,hts];exact kc hl hb hT (by simpa using hA) fun x hx=>⟨hold x hx,hs x hx⟩
 have hvars':∀sp:Nat→Bool,DataW.TrodVars enc P W' sp s.vars (s.fn H (ds++[])).vars []:=by
  intro sp;rw[Xw,hsp,hvars];exact rfl
 refine⟨.bool true,rfl,ds,[],p++[],[],p,[],hW',hres' _ _ _,hargs' _ (fun x hx=>by simpa using hold x hx),hvars' _,World.keptBut_mono (fun x hx=>⟨hx,.inr (by simpa using hx)⟩) (hb.frame _),fun _=>?_⟩;refine⟨?_,_,_,([]++p)++[],⟨[]++p,[],trodAll_append (hargs' _ (fun _ _=>rfl)) (hres' _ _ _),hvars' _,rfl,?_,?_⟩,?_⟩
 ·exact ok_one hres rfl (okWide_bool_mk htb _)
 ·intro b off hp;have hp:MemPlace.cell b off∈p:=by simpa using hp
  rw[hb.frozen (hold _ hp)];exact hfz b off (by simpa using hp)
 ·intro ha;cases ha
 ·intro x hx _;simpa using hx
end
end Go.Proofs.YtoepfmhnapedoaaGreatDoor
namespace Go.Proofs.YtoepfmhnapedoaaGreatDoor
open Aml Go Go.RowKit Go.ChangeShapes Lat Grs Rn
def gH:List (String×DataW Unit):=[("math/bits.deBruijn64tab",Rows.laid_math_bits_deBruijn64tab),("unicode/utf8.acceptRanges",Rows.laid_unicode_utf8_acceptRanges),("jalousie/crc.half",Rows.laid_jalousie_crc_half),("jalousie/op.names",Rows.laid_jalousie_op_names),("unicode/utf8.first",Rows.laid_unicode_utf8_first)]
theorem FE:Rows.laid_unicode_utf8_first=Lib.firstData:=by kernel_rfl
theorem As:(Rows.laid_unicode_utf8_acceptRanges:DataW Unit)=Lib.acceptData:=by kernel_rfl
theorem On:(Rows.laid_math_bits_deBruijn64tab:DataW Unit)=Lib.tabData .u8 NX:=by kernel_rfl
theorem Vb:Tryz.prog.globalNamed "math/bits.deBruijn64tab" =some 4:=by kernel_rfl
abbrev NC(W:World):W0:=⟨{W with drawn:=0},gW W,fun _ _=>False⟩
theorem EJ{W:World}(h:laidMetH Tryz.prog gH W):ga (NC W):=by
 have hL:laidMet Tryz.prog gH W:=h
 have hT:Lib.TabIs Tryz.prog W "math/bits.deBruijn64tab" .u8 NX:=
  Lib.tabIs_of_head (rest:=gH.drop 1) (g:=4) (t:=245) (by kernel_rfl) (by kernel_rfl) Tryz.underlying245 Tryz.underlying5 (by kernel_rfl) (by kernel_rfl) (On▸hL)
 refine⟨fun j=>?_,fun u hu=>?_⟩
 ·show W.cell? ⟨4,j,none⟩=NG[j]?;rw[World.var?_cell Vb hT j,List.getElem?_toArray];rfl
 ·obtain⟨z,_,rfl⟩:=Ws.1 hu;rfl
theorem PL{W:World}(h:laidMetH Tryz.prog gH W):KU (NC W):=by
 have hL:laidMet Tryz.prog gH W:=h
 have hU:Lib.Utf8Tabs 1 2 W:=
  utf8Tabs_of_readsT (U8Types.of196 Tryz.zh) ⟨by kernel_rfl,by kernel_rfl,by kernel_rfl,by kernel_rfl,by kernel_rfl,by kernel_rfl,by kernel_rfl⟩
   (FE▸Lib.laidMet.reads hL (by simp[gH])) (As▸Lib.laidMet.reads hL (by simp[gH]))
 have hU:Lib.Utf8Tabs 1 2 {W with drawn:=0}:=hU;refine⟨rfl,fun w hw=>?_⟩;exact Utf8Tabs_below hU hw
theorem qx{H:Type}{enc:TypeId×Value→H}{P:Program}{w:World}{base:Nat}{sp:Nat→Bool}{held:Bool}{fuel:Nat}{t e:TypeId}{n:Nat}{cs:List Value}{zs:List (List UInt8)}{p:List MemPlace}
 (ht:P.underlying t=some (.array n e)) (he:P.underlying e=some .string) (hce:P.cellsOf e=1) (hct:P.cellsOf t=n)
 (h:DataW.trod enc P w base sp held fuel t cs=some (.agg (zs.map fun z=> .lit (.string z)),p)):cs=zs.map fun z=>Value.string (tx z):=by
 cases fuel with
 |zero=>simp[DataW.trod]at h
 |succ fuel=>
  simp only[DataW.trod,ht,hce,hct,XV]at h;split at h
  ·rename_i hl;obtain⟨xs,hm,hx⟩:=Wh.1 h
   have hxs:xs.map (·.1)=zs.map fun z=>(DataW.lit (.string z):DataW H):=by
    have:=congrArg Prod.fst hx;simpa using this
   have hxl:xs.length=n:=by simpa using Lib.mapM_length hm
   have hzl:zs.length=n:=by
    have:=congrArg List.length hxs;simp at this;omega
   apply Xe;intro i;by_cases hi:i<n
   ·obtain⟨b,hb,hf⟩:=Lib.mapM_at hm i i (by simp[hi]);obtain⟨z,hc,rfl,_⟩:=DataW.trod_string he hf
    have h1:cs[i]? =some (.string z):=by
     have:=congrArg (·[0]?) hc;simpa[WZ,W2]using this
    have h2:(xs.map (·.1))[i]? =some (DataW.lit (.string z.data.toList):DataW H):=by simp[hb]
    rw[hxs]at h2;simp only[Wi,Wh,DataW.lit.injEq,Lit.string.injEq]at h2;obtain⟨z',hz',e2⟩:=h2;rw[h1,Wi,hz',WI,e2,r8]
   ·rw[Wn (by omega),Wn (by simp;omega)]
  ·cases h
theorem EZ:(Rows.laid_jalousie_op_names:DataW Unit)= .agg (FD.map fun z=> .lit (.string z)):=by kernel_rfl
theorem Fk:Tryz.prog.globalNamed "jalousie/op.names" =some 0:=by kernel_rfl
theorem Jw:(Tryz.prog.globals[0]?).map (·.type)=some 162:=by kernel_rfl
theorem Fx{W:World}(h:laidMetH Tryz.prog gH W):mN (NC W):=by
 have hL:laidMet Tryz.prog gH W:=h;obtain⟨g,t,cs,fuel,p,hg,hty,hvar,hd⟩:=Lib.laidMet.reads hL (n:= "jalousie/op.names") (d:=Rows.laid_jalousie_op_names) (by simp[gH]);obtain rfl:=WQ (Fk.symm.trans hg);obtain rfl:=WQ (Jw.symm.trans hty);rw[EZ]at hd;have hcs:=qx Tryz.underlying162 Tryz.underlying9 (by kernel_rfl) (by kernel_rfl) hd;refine⟨fun j=>?_,fun u hu=>?_⟩
 ·show W.cell? ⟨0,j,none⟩=tF[j]?;rw[World.var?_cell Fk hvar j,←W7,hcs];rfl
 ·obtain⟨z,_,rfl⟩:=Ws.1 hu;rfl
theorem I9:(Rows.laid_jalousie_crc_half:DataW Unit)=Lib.tabData .u32 mZ:=by kernel_rfl
theorem JQ:Tryz.prog.globalNamed "jalousie/crc.half" =some 3:=by kernel_rfl
theorem Kv:(Tryz.prog.globals[3]?).map (·.type)=some 241:=by kernel_rfl
theorem E4{W:World}(h:laidMetH Tryz.prog gH W):kf (NC W):=by
 have hL:laidMet Tryz.prog gH W:=h;have hT:Lib.TabIs Tryz.prog W "jalousie/crc.half" .u32 mZ:=Lib.tabIs_of_head (rest:=gH.drop 3) JQ Kv Tryz.underlying241 Tryz.underlying148 (by kernel_rfl) (by kernel_rfl) (I9▸hL.tail.tail);refine⟨fun j=>?_,fun u hu=>?_⟩
 ·show W.cell? ⟨3,j,none⟩=jW[j]?;rw[World.var?_cell JQ hT j,List.getElem?_toArray];rfl
 ·obtain⟨z,_,rfl⟩:=Ws.1 hu;rfl
noncomputable def mu(os:Os):World:=
 let w0:=World.holding Tryz.prog os ⟨#[], #[],[]⟩
 let put (h:Array Obj) (g:Nat) (cs:Array Value):Array Obj:=h.modify g fun
  | .cells _ t frozen=> .cells cs t frozen
  |o=>o
 let h1:=put w0.heap 1 (Lib.firstTab.map fun z=>Value.int .u8 z).toArray
 let h2:=put h1 2 ((List.range 16).flatMap fun i=>[Value.int .u8 (Lib.accLo i),Value.int .u8 (Lib.accHi i)]).toArray
 let h3:=put h2 4 NG.toArray
 let h4:=put h3 3 jW.toArray
 let h5:=put h4 0 tF.toArray
 {w0 with heap:=h5}
theorem N6{P:Program}{W:World}{t:TypeId}{α β:Type}{en:α→List DV}{sz:α→Nat}{ok:α→Prop}{en':β→List DV}{sz':β→Nat}{ok':β→Prop}(h:Rd P W t en sz ok)(f:α→β)(he:∀a,ok a→en a=en' (f a))(hs:∀a,sz' (f a)≤sz a)(ho:∀a,ok a→ok' (f a)):Rd P W t en' sz' ok':=
 fun H enc n cs x hx=>let⟨a,h1,h2,h3,h4⟩:=h H enc n cs x hx;⟨f a,ho a h1,Xn (hs a) h2,by rw[←he a h1];exact h3,h4⟩
theorem Dh(l:List Nat)(x:Nat)(hx:x∈l):x≤l.sum:=by
 induction l with
 |nil=>cases hx
 |cons y l ih=>
  rw[XF];rcases Wt.1 hx with rfl|hx
  ·omega
  ·have:=ih hx;omega
theorem sD{α:Type}(l:List α):(l.map fun _=>1).sum=l.length:=by
 induction l with
 |nil=>rfl
 |cons a l ih=>simp only[WG,XF,Wq,ih];omega
def JD(l:List (List UInt8)):Nat:=(l.map fun s=>s.length+1).sum
theorem IN(l:List (List UInt8)):l.length≤JD l:=by
 unfold JD
 induction l with
 |nil=>exact Wg _
 |cons a l ih=>simp only[WG,XF,Wq];omega
theorem Ia{l:List (List UInt8)}{s:List UInt8}(h:s∈l):s.length≤JD l:=by
 have:=Dh _ _ (WH (f:=fun s:List UInt8=>s.length+1) h);unfold JD;omega
theorem Qa{W:World}:Rd Tryz.prog W 22 (fun l:List (List UInt8)=>[.sl 1 false (az l)]) JD (fun l=>True):=
 (mj (E6 Tryz.underlying9) Tryz.underlying22 (by kernel_rfl)).conv (fun l=>l.map fun s=>s.data.toList) (fun l=>by
  unfold az;rw[List.map_map];rfl) (fun l=>by
  unfold JD;rw[List.map_map];have e:((fun s:List UInt8=>s.length+1)∘fun s:ByteArray=>s.data.toList)=fun s=>s.size+1:=funext fun s=>by simp[fp]
  rw[e];omega) fun _ _=>trivial
theorem Sy{W:World}:Rd Tryz.prog W 23 (fun l:List Nat=>[dP l]) (fun l=>l.length) df:=
 N6 (mj (Nf Tryz.underlying75) Tryz.underlying23 (by kernel_rfl)) (fun l=>l.map Int.toNat) (fun l h=>by
  unfold dP;rw[List.map_map];refine congrArg (fun z=>[DV.sl 1 false z]) (List.map_congr_left fun x hx=>?_);show dU x=dU ((x.toNat:Nat):Int);rw[Int.toNat_of_nonneg (h x hx).1]) (fun l=>by rw[sD,WT];omega) fun l h x hx=>by
  obtain⟨y,hy,rfl⟩:=Ws.1 hx;have:=h y hy;omega
theorem RK{W:World}:Rd Tryz.prog W 24 (fun l:List Int=>[kA l]) (fun l=>l.length) (fun _=>True):=
 (mj (xk Tryz.underlying3) Tryz.underlying24 (by kernel_rfl)).conv id (fun _=>rfl) (fun l=>by simp only[id,sD];omega) fun _ _=>trivial
theorem RS{W:World}:Rd Tryz.prog W 25 (fun l:List G=>[iM l]) (fun l=>l.length) (fun _=>True):=by
 have rI:=fun{W:World}=>xk (P:=Tryz.prog) (W:=W) Tryz.underlying3
 have h:Rd Tryz.prog W 79 (fun g:G=>[dI g.a,dI g.f,dI g.t]) (fun _=>1) (fun _=>True):=
  (l7 (W:=W) Tryz.underlying79 (total:=3) (by kernel_rfl) rfl (bc (k:=1) rI rfl (by kernel_rfl) (bc (k:=1) rI rfl (by kernel_rfl) (bc (k:=1) rI rfl (by kernel_rfl) rQ)))).conv (fun a=>⟨a.1,a.2.1,a.2.2.1⟩) (fun _=>rfl) (fun a=>by omega) fun _ _=>trivial
 exact(rf h Tryz.underlying25 (k:=3) (by kernel_rfl) (by omega)).conv id (fun _=>rfl) (fun l=>by simp only[id,sD];omega) fun _ _=>trivial
def QJ(c:Cf):Nat:=JD c.nm+c.up.length+c.qu.length+c.gr.length
theorem SP{W:World}:Rd Tryz.prog W 27 (fun c:Cf=>[.sl 1 false (az c.nm),dP c.up,kA c.qu,iM c.gr]) QJ (fun c=>df c.up):=
 (l7 (W:=W) Tryz.underlying27 (total:=4) (by kernel_rfl) rfl (bc (k:=1) Qa rfl (by kernel_rfl) (bc (k:=1) Sy rfl (by kernel_rfl) (bc (k:=1) RK rfl (by kernel_rfl) (bc (k:=1) RS rfl (by kernel_rfl) rQ))))).conv (fun a=>⟨a.1,a.2.1,a.2.2.1,a.2.2.2.1⟩) (fun _=>rfl) (fun a=>by unfold QJ;dsimp only;omega) fun a h=>h.2.1
theorem OQ{c:Cf}(h:df c.up)(hs:QJ c≤1048576):zo c:=by
 unfold QJ at hs;have:=IN c.nm;exact⟨by omega,fun s hm=>by have:=Ia hm;omega,by omega,h,by omega,by omega⟩
def PT(o:bI):Nat:=o.bucket.length+o.key.length+o.value.length+JD o.cb+1
theorem Sa{W:World}:Rd Tryz.prog W 47 bI.ds PT (fun _=>True):=by
 have rI:=fun{W:World}=>xk (P:=Tryz.prog) (W:=W) Tryz.underlying3;have rS:=fun{W:World}=>E6 (P:=Tryz.prog) (W:=W) Tryz.underlying9
 have h:=l7 (W:=W) Tryz.underlying47 (total:=11) (by kernel_rfl) rfl
  (bc (k:=1) rI rfl (by kernel_rfl) (bc (k:=1) rI rfl (by kernel_rfl) (bc (k:=1) rI rfl (by kernel_rfl) (bc (k:=1) rI rfl (by kernel_rfl)
  (bc (k:=1) rS rfl (by kernel_rfl) (bc (k:=1) rS rfl (by kernel_rfl) (bc (k:=1) rS rfl (by kernel_rfl)
  (bc (k:=1) rI rfl (by kernel_rfl) (bc (k:=1) rI rfl (by kernel_rfl) (bc (k:=1) rI rfl (by kernel_rfl) (bc (k:=1) Qa rfl (by kernel_rfl) rQ)))))))))))
 exact h.conv (fun a=>⟨a.1,a.2.1,a.2.2.1,a.2.2.2.1,a.2.2.2.2.1.data.toList,a.2.2.2.2.2.1.data.toList,a.2.2.2.2.2.2.1.data.toList,a.2.2.2.2.2.2.2.1,a.2.2.2.2.2.2.2.2.1,a.2.2.2.2.2.2.2.2.2.1,a.2.2.2.2.2.2.2.2.2.2.1⟩) (fun a=>rfl) (fun a=>by
  unfold PT;simp only[fp];omega) fun _ _=>trivial
theorem OW{W:World}:Rd Tryz.prog W 28 (fun l:List bI=>[IS l]) (fun l=>(l.map PT).sum) (fun _=>True):=
 (rf Sa Tryz.underlying28 (k:=11) (by kernel_rfl) (by omega)).conv id (fun _=>rfl) (fun l=>by simp only[id];omega) fun _ _=>trivial
theorem Ib(l:List bI):l.length≤(l.map PT).sum:=by
 induction l with
 |nil=>exact Wg _
 |cons a l ih=>simp only[WG,XF,Wq];unfold PT at *;omega
end Go.Proofs.YtoepfmhnapedoaaGreatDoor
namespace Go.Proofs.YtoepfmhnapedoaaGreatDoor
open Aml Go Go.RowKit Go.ChangeShapes Go.WideShapes Go.ChangeAt Lat Grs Rn
theorem mw:ownKnob Tryz.prog.godebug=none:=by kernel_rfl
theorem iI(H:Type)(enc:TypeId×Value→H)(W:World)(base:Nat)(args:Array Value)(ds gs:List (DataW H))(before:List MemPlace)
 (hval:∀(j:Nat) t v,Tryz.f7.params[j]? =some t→args[j]? =some v→Value.okWide Tryz.prog W .any base t v)
 (hW:DataW.Whole enc Tryz.prog Tryz.f7.params.toList Rows.modelForgetsSpec.vars false W args.toList ds gs before) (hk:Rows.uptoBulkAll (ds++gs)≤1048576) (hL:laidMetH Tryz.prog Rows.modelForgetsUptoRow.laid W) (hsh:W.ShapedOpen Tryz.prog):
 Calls Tryz.prog 7 args W fun e W'=>∃v,e= .returned v∧Rows.modelForgetsSpec.post enc Tryz.prog Tryz.f7 false true false false W args v W':=
 ql (w0:=NC W) rfl (.refl _) enc (ts:=[27,28]) (tb:=4) (Hu SP Tryz.underlying27 (Jy OW (by kernel_rfl) Iu)) Tryz.params7 rfl Tryz.underlying4 rfl (by kernel_rfl) (by intro t ht;revert t;decide +kernel) (fun ds hd=>by
  first
  |(match ds,hd with|[_],_=>rfl)
  |(match ds,hd with|[_,_],_=>rfl)
  |(match ds,hd with|[_,_,_],_=>rfl)
  |(match ds,hd with|[_,_,_,_],_=>rfl)) (fun a ha hs=>(CQ (w0:=NC W) (EJ hL) (PL hL) (Fx hL) (E4 hL) a.1 (OQ ha.1 (by omega)) a.2.1 (by have:=Ib a.2.1;omega) ⟨[],[]⟩).mono fun d S' h=>h) base args ds gs before hval hW hk
theorem ma(os:Os):laidMet Tryz.prog Rows.modelForgetsUptoRow.laid ((mu os).forCall (fun _ _=>0) ⟨#[], #[.agg #[.slice none 0 0,.slice none 0 0,.slice none 0 0,.slice none 0 0],.slice none 0 0],[]⟩).memory:=
 laidMet_of_run' 8 (by kernel_rfl) (by kernel_rfl)
theorem kB(os:Os){H:Type}(enc:TypeId×Value→H):∃places,DataW.whole enc Tryz.prog ((mu os).forCall (fun _ _=>0) ⟨#[], #[.agg #[.slice none 0 0,.slice none 0 0,.slice none 0 0,.slice none 0 0],.slice none 0 0],[]⟩).memory Tryz.f7.params.toList Rows.modelForgetsSpec.vars false (#[.agg #[.slice none 0 0,.slice none 0 0,.slice none 0 0,.slice none 0 0],.slice none 0 0]:Array Value).toList 8=some ([.agg [.nil,.nil,.nil,.nil],.nil],[],places):=
 ⟨[],by kernel_rfl⟩
theorem jO(os:Os)(started:os.Started)(H:Type)(enc:TypeId×Value→H)(F:Stop.Interp):
 ReturnsInHanded {} Tryz.checked os 7 .any ((Rows.OpenSpec.upto Rows.modelForgetsSpec).preRow enc Tryz.prog Tryz.f7 Rows.modelForgetsUptoRow.domain false Rows.modelForgetsUptoRow.laid) (((Rows.OpenSpec.upto Rows.modelForgetsSpec).at F).post enc Tryz.prog Tryz.f7 false true false false):=by
 obtain⟨places,hx⟩:=kB os enc
 refine returnsInHanded_of_row (C:=Tryz.checked) (s:=Rows.OpenSpec.upto Rows.modelForgetsSpec) mw started (by kernel_rfl) Tryz.func7
  (witness_row_at (enc:=enc) (C:=Tryz.checked) false (mu os) #[.agg #[.slice none 0 0,.slice none 0 0,.slice none 0 0,.slice none 0 0],.slice none 0 0] rfl (by kernel_rfl) (by kernel_rfl) (by kernel_rfl)
   (OpenSpec.preRow_of_cond 8 hx (by kernel_rfl) (fun k hk=>by cases hk;kernel_rfl) (by kernel_rfl) (ma os))) ?_
 intro W base args ds gs before hval hW _ hc _ hL hsh _;exact iI H enc W base args ds gs before hval hW (of_decide_eq_true (hc _ rfl)) hL hsh
theorem lE:Rows.ModelForgetsUptoSaid:=
 OpenClaim.holds_of_cond 7 Tryz.f7 rfl rfl rfl rfl rfl rfl rfl ⟨rfl,rfl,rfl,rfl,rfl⟩ rfl rfl rfl rfl rfl (by kernel_rfl) Tryz.func7 (by kernel_rfl)
  (of_decide_eq_true (by kernel_rfl)) (by unfold Func.isWrapper;first|(rw[if_pos (by decide +kernel)];kernel_rfl)|(rw[if_neg (by decide +kernel)];exact⟨rfl,rfl⟩))
  (fun os started H enc _ F=>by rw[OpenClaim.pre_eq_preRow];exact jO os started H enc F)
theorem ku(f:FuncId)(fn:Func)(hf:Tryz.pinned.checked.prog.funcNamed Rows.modelForgetsUptoRow.func=some f)(hfn:Tryz.pinned.checked.prog.funcs[f]? =some fn):
 true=Tryz.pinned.checked.prog.looks []∧∀(j:Nat) t,fn.params[j]? =some t→Tryz.pinned.checked.prog.wantsStandIn t=false:=by
 obtain rfl:f=7:=WQ ((show Tryz.prog.funcNamed Rows.modelForgetsUptoRow.func=some 7 by kernel_rfl).symm.trans hf) |>.symm;obtain rfl:fn=Tryz.f7:=(WQ (Tryz.func7.symm.trans hfn)).symm;refine⟨by kernel_rfl,fun j t ht=>?_⟩;rw[Tryz.params7]at ht;have hm:t∈([27,28]:List TypeId):=by simpa using Array.mem_of_getElem? ht
 exact(show∀t,t∈([27,28]:List TypeId)→Tryz.prog.wantsStandIn t=false by decide +kernel) t hm
theorem modelForgets_holds:Rows.ModelForgetsUptoCardSaid:=
 Claim7.holds_tied_plain_at .later [] _ _ _ _ lE (fun _ h=>by cases h) (by kernel_rfl) (fun _ h=>by cases h) modelForgetsUpto_row_tie rfl ⟨rfl,rfl⟩ (by kernel_rfl) rfl ku (by kernel_rfl)
end Go.Proofs.YtoepfmhnapedoaaGreatDoor
