/-
  Part 5 of the proof that the last text ends: from 'Statements whose order is open, once more: what reads no store may come at any time, and so may what makes a box that nothing ahead looks at' to 'A row of bytes that is written out, and turned to its own type: the run-time marks it'. By an AI agent.
-/
import Derived.Test.YtoepfmhnapedoaaGreatDoorMD4
import Derived.Test.YtoepfmhnapedoaaGreatDoorMD3
import Derived.Lib.Bytealg
import Derived.Lib.Overlaps
import Derived.Shelf.Unicode.ValidAny
import Derived.Shelf.Small.Bits
import Derived.Shelf.Sort.Plain
import Derived.Shelf.Slices.In.SortNone
import Derived.Test.YtoepfmhnapedoaaGreatDoorProg
import Derived.Sort.Grow
import Derived.Shelf.SlGeneric
import Derived.Shelf.SlMaps.Clone
import Derived.Ground.SlmcProg
import Derived.Lib.SlBytesConst
set_option linter.unusedVariables false
set_option linter.unusedSimpArgs false
set_option maxRecDepth 100000
set_option maxHeartbeats 16000000
namespace Aml
open Go Go.RowKit
def kX:Op→Nat
 | .load ..=>1
 | .alloc _=>2
 | .call c=>match c.callee with
  | .value _=>1
  | .builtin .len=>0
  | .builtin .cap=>0
  | .builtin .min=>0
  | .builtin .max=>0
  |_=>3
 | .move _=>0
 | .assign _=>0
 | .pick ..=>0
 | .fieldAddr ..=>0
 | .indexAddr ..=>0
 | .index ..=>0
 | .field ..=>0
 | .extract ..=>0
 | .nilCheck _=>0
 | .binOp ..=>0
 | .unOp ..=>0
 | .convert ..=>0
 | .makeInterface ..=>0
 | .makeFunc ..=>0
 | .slice ..=>0
 | .build ..=>0
 | .buildSlice ..=>0
 |_=>3
def Fr(S:St)(B:List (Nat×List DV)):Prop:=∀x,x∈B→jT S.box x.1
def dV(P:Program)(w0:W0)(o:Oper)(fr:List DV)(S:St)(K:List DV→St→Prop):Prop:=
 (kX o.op=0∧∃d,(∀S',QY P w0 S' o fr d)∧K (pt fr o.dst d) S)∨
 (kX o.op=1∧∃d,(∀B,Fr S B→QY P w0 ⟨B++S.box,S.acc⟩ o fr d)∧K (pt fr o.dst d) S)∨
 (kX o.op=2∧∃t,o.op= .alloc t∧eW (zD P t)=true∧∀b,jT S.box b→K (pt fr o.dst (.v (.pointer (some ⟨b,0,none⟩)))) ⟨(b,cd (zD P t))::S.box,S.acc⟩)∨
 (kX o.op=3∧ak P w0 o (ev fr) S fun d S'=>K (pt fr o.dst d) S')
def eB(P:Program)(w0:W0)(ops:Array Oper)(o:Oper)(fr:List DV)(S:St)(K:List DV→St→Prop):Prop:=
 (cQ ops fr o.guard=some true∧dV P w0 o fr S K)∨(cQ ops fr o.guard=some false∧K (pt fr o.dst ud) S)
def qU(a b:Nat):Bool:=a==0||(a==1&&decide (b<3))
section
variable {P:Program} {w0:W0} {ops:Array Oper} {md:Region.Mode}
theorem ja{o:Oper}{fr:List DV}{S:St}{K K':List DV→St→Prop}(h:∀fr S,K fr S→K' fr S)(b:dV P w0 o fr S K):dV P w0 o fr S K':=by
 rcases b with⟨c,d,q,k⟩|⟨c,d,q,k⟩|⟨c,t,ht,hz,k⟩|⟨c,q⟩
 ·exact .inl ⟨c,d,q,h _ _ k⟩
 ·exact .inr (.inl ⟨c,d,q,h _ _ k⟩)
 ·exact .inr (.inr (.inl ⟨c,t,ht,hz,fun b hb=>h _ _ (k b hb)⟩))
 ·exact .inr (.inr (.inr ⟨c,aD (fun d S hk=>h _ _ hk) q⟩))
theorem gG{o:Oper}{fr:List DV}{S:St}{K K':List DV→St→Prop}(h:∀fr S,K fr S→K' fr S)(b:eB P w0 ops o fr S K):eB P w0 ops o fr S K':=
 b.imp (fun⟨a,b⟩=>⟨a,ja h b⟩) fun⟨a,b⟩=>⟨a,h _ _ b⟩
theorem qG{o:Oper}{fr:List DV}{S:St}{K:List DV→St→Prop}{dst:Option Tmp}{e:DV}(h1:∀t,dst=some t→t∉o.looksAt ops)(h2:∀t,dst=some t→o.dst≠some t):
 dV P w0 o (pt fr dst e) S K↔dV P w0 o fr S fun fr' S'=>K (pt fr' dst e) S':=by
 have hq:∀S d,QY P w0 S o (pt fr dst e) d↔QY P w0 S o fr d:=fun S d=>
  ⟨aL (fun x hx=>ec (ops:=ops) h1 x hx),aL (fun x hx=>(ec (ops:=ops) h1 x hx).symm)⟩
 have hc:∀d,pt (pt fr dst e) o.dst d=pt (pt fr o.dst d) dst e:=fun d=>jl fr e d h2
 have hy:∀K,ak P w0 o (ev (pt fr dst e)) S K↔ak P w0 o (ev fr) S K:=fun K=>
  ⟨aL (fun x hx=>ec (ops:=ops) h1 x hx),aL (fun x hx=>(ec (ops:=ops) h1 x hx).symm)⟩
 unfold dV;simp only[hq,hc,hy]
theorem jb{o:Oper}{fr:List DV}{S:St}{K:List DV→St→Prop}{dst:Option Tmp}{e:DV}(h1:∀t,dst=some t→t∉o.looksAt ops)(h2:∀t,dst=some t→o.dst≠some t):
 eB P w0 ops o (pt fr dst e) S K↔eB P w0 ops o fr S fun fr' S'=>K (pt fr' dst e) S':=by
 unfold eB;rw[gQ h1,qG h1 h2,jl fr e ud h2]
theorem lU{o:Oper}{fr:List DV}{S:St}{K K':List DV→St→Prop}(h:∀e S,K (pt fr o.dst e) S→K' (pt fr o.dst e) S)(b:dV P w0 o fr S K):dV P w0 o fr S K':=by
 rcases b with⟨c,d,q,k⟩|⟨c,d,q,k⟩|⟨c,t,ht,hz,k⟩|⟨c,q⟩
 ·exact .inl ⟨c,d,q,h _ _ k⟩
 ·exact .inr (.inl ⟨c,d,q,h _ _ k⟩)
 ·exact .inr (.inr (.inl ⟨c,t,ht,hz,fun b hb=>h _ _ (k b hb)⟩))
 ·exact .inr (.inr (.inr ⟨c,aD (fun d S hk=>h _ _ hk) q⟩))
theorem je{o:Oper}{fr:List DV}{S:St}{K K':List DV→St→Prop}(h:∀e S,K (pt fr o.dst e) S→K' (pt fr o.dst e) S)(b:eB P w0 ops o fr S K):eB P w0 ops o fr S K':=
 b.imp (fun⟨a,b⟩=>⟨a,lU h b⟩) fun⟨a,b⟩=>⟨a,h _ _ b⟩
theorem qx{x y:Oper}(hap:x.apart ops y=true)(hk:qU (kX x.op) (kX y.op)=true){fr:List DV}{S:St}{K:List DV→St→Prop}(h:eB P w0 ops x fr S fun fr S=>eB P w0 ops y fr S K):
 eB P w0 ops y fr S fun fr S=>eB P w0 ops x fr S K:=by
 obtain⟨b1,b2,b3⟩:=Oper.apart_spec hap;have hw:∀e,cQ ops (pt fr y.dst e) x.guard=cQ ops fr x.guard:=fun e=>gQ b3;have hq:∀{S d e},QY P w0 S x fr d→QY P w0 S x (pt fr y.dst e) d:=fun{S d e} q=>aL (fun z hz=>(ec (ops:=ops) b3 z hz).symm) q;rcases h with⟨hg,hb⟩|⟨hg,hb⟩
 ·rcases hb with⟨c,d,q,k⟩|⟨c,d,q,k⟩|⟨c, -⟩|⟨c, -⟩
  ·rw[jb b1 b2]at k;exact je (fun e S' hk=> .inl ⟨by rw[hw];exact hg,.inl ⟨c,d,fun S''=>hq (q S''),hk⟩⟩) k
  ·rw[jb b1 b2]at k;rcases k with⟨g2,k⟩|⟨g2,k⟩
   ·rcases k with⟨c2,d2,q2,k⟩|⟨c2,d2,q2,k⟩|⟨c2,t,ht,hz,k⟩|⟨c2, -⟩
    ·exact .inl ⟨g2,.inl ⟨c2,d2,q2,.inl ⟨by rw[hw];exact hg,.inr (.inl ⟨c,d,fun B hB=>hq (q B hB),k⟩)⟩⟩⟩
    ·exact .inl ⟨g2,.inr (.inl ⟨c2,d2,q2,.inl ⟨by rw[hw];exact hg,.inr (.inl ⟨c,d,fun B hB=>hq (q B hB),k⟩)⟩⟩)⟩
    ·refine .inl ⟨g2,.inr (.inr (.inl ⟨c2,t,ht,hz,fun b hb=> .inl ⟨by rw[hw];exact hg,.inr (.inl ⟨c,d,fun B hB=>hq ?_,k b hb⟩)⟩⟩))⟩
     have:=q (B++[(b,cd (zD P t))]) fun z hz'=>by
      rcases aaD.1 hz' with h|h
      ·exact(hB z h).2.2
      ·simp only[aau]at h;subst h;exact hb
     rw[acu]at this;exact this
    ·rw[c,c2]at hk;exact absurd hk (by decide)
   ·exact .inr ⟨g2,.inl ⟨by rw[hw];exact hg,.inr (.inl ⟨c,d,fun B hB=>hq (q B hB),k⟩)⟩⟩
  ·rw[c]at hk;simp[qU]at hk
  ·rw[c]at hk;simp[qU]at hk
 ·rw[jb b1 b2]at hb;exact je (fun e S' hk=> .inr ⟨by rw[hw];exact hg,hk⟩) hb
def eP(P:Program)(w0:W0)(ops:Array Oper)(i:Nat)(fr:List DV)(S:St)(K:List DV→St→Prop):Prop:=match ops[i]? with
 |none=>K fr S
 |some o=>eB P w0 ops o fr S K
def FC(P:Program)(w0:W0)(md:Region.Mode)(ops:Array Oper)(K:List DV→St→Prop):Nat→Array Bool→List DV→St→Prop
 |0,listed,fr,S=>Region.ready md ops listed=[]∧K fr S
 |fuel+1,listed,fr,S=>(Region.ready md ops listed=[]→K fr S)∧∀i∈Region.ready md ops listed,eP P w0 ops i fr S (FC P w0 md ops K fuel (listed.setIfInBounds i true))
theorem pI{K:List DV→St→Prop}{i:Nat}{oi:Oper}(hi:ops[i]? =some oi):
 ∀(fuel:Nat) (listed:Array Bool) (fr:List DV) (S:St),
  (∀j oj,ops[j]? =some oj→j≠i→listed.getD j true=false→(∀e∈oj.after,Region.binds md e=true→e.on≠i)→oi.apart ops oj=true∧qU (kX oi.op) (kX oj.op)=true)→
  (∀l:List Nat,l.Nodup→(∀k,k∈l→listed.getD k true=false)→l.length≤fuel+1)→
  i∈Region.ready md ops listed→eB P w0 ops oi fr S (FC P w0 md ops K fuel (listed.setIfInBounds i true))→FC P w0 md ops K (fuel+1) listed fr S:=by
 intro fuel
 induction fuel with
 |zero=>
  intro listed fr S _ hcnt hr H;refine⟨fun h=>(by rw[h]at hr;cases hr),fun j hj=>?_⟩;by_cases hji:j=i
  ·subst hji;unfold eP;simp only[hi];exact H
  ·exfalso
   have:=hcnt [i,j] (by simp[abx hji]) fun k hk=>by
    simp only[aaJ,aca,or_false]at hk;rcases hk with rfl|rfl
    ·exact(mem_ready.1 hr).1
    ·exact(mem_ready.1 hj).1
   simp at this
 |succ fuel ih=>
  intro listed fr S hfree hcnt hr H;refine⟨fun h=>(by rw[h]at hr;cases hr),fun j hj=>?_⟩;by_cases hji:j=i
  ·subst hji;unfold eP;simp only[hi];exact H
  ·obtain⟨hjun,oj,hoj,hall⟩:=mem_ready.1 hj
   have hnot:∀e∈oj.after,Region.binds md e=true→e.on≠i:=fun e he hb heq=>by
    have h1:=hall e he hb;have h0:=(mem_ready.1 hr).1;rw[heq]at h1;rcases abz i listed.size with h'|h'
    ·simp[h']at h0 h1;rw[h0]at h1;cases h1
    ·simp[abG h']at h1
   have h1:eB P w0 ops oi fr S fun fr S=>eB P w0 ops oj fr S (FC P w0 md ops K fuel ((listed.setIfInBounds i true).setIfInBounds j true)):=
    gG (fun fr S h=>by
     have:=h.2 j (ready_mono hj hji);unfold eP at this;simp only[hoj]at this;exact this) H
   have hc:=hfree j oj hoj hji hjun hnot;have h2:=qx hc.1 hc.2 h1
   have hfree':∀k ok,ops[k]? =some ok→k≠i→(listed.setIfInBounds j true).getD k true=false→
    (∀e∈ok.after,Region.binds md e=true→e.on≠i)→oi.apart ops ok=true∧qU (kX oi.op) (kX ok.op)=true:=fun k ok hk hki hun hno=>by
    refine hfree k ok hk hki ?_ hno;by_cases hjk:j=k
    ·subst hjk;exact hjun
    ·rw[getD_set_ne true hjk]at hun;exact hun
   unfold eP;simp only[hoj]
   have hcnt':∀l:List Nat,l.Nodup→(∀k,k∈l→(listed.setIfInBounds j true).getD k true=false)→l.length≤fuel+1:=by
    intro l hn hl
    have hjs:j<listed.size:=by
     rcases abz j listed.size with h|h
     ·exact h
     ·rw[aaI,abG h]at hjun;cases hjun
    have hjl:j∉l:=fun hj=>by
     have:=hl j hj;rw[aaI,aa9]at this;simp[hjs]at this
    have:=hcnt (j::l) (aaV.2 ⟨hjl,hn⟩) fun k hk=>by
     rcases aaJ.1 hk with rfl|hk
     ·exact hjun
     ·have:=hl k hk;rw[getD_set_ne true (show j≠k from fun e=>hjl (e▸hk))]at this;exact this
    simp at this;omega
   refine gG (fun fr S h=>ih (listed.setIfInBounds j true) fr S hfree' hcnt' (ready_mono hr (abx hji)) ?_) h2;rw[adI _ _ hji];exact h
def yx(md:Region.Mode)(ops:Array Oper)(listed:Array Bool)(i:Nat):Bool:=(List.range ops.size).all fun j=>match ops[i]?,ops[j]? with
 |some oi,some oj=>j==i||listed.getD j true||oj.after.any (fun e=>Region.binds md e&&e.on==i)||(oi.apart ops oj&&qU (kX oi.op) (kX oj.op))
 |_,_=>false
def qw(md:Region.Mode)(ops:Array Oper):Nat→Nat→Array Bool→Bool
 |0,_,listed=>(Region.ready md ops listed).isEmpty
 |n+1,k,listed=>(Region.ready md ops listed).contains k&&yx md ops listed k&&qw md ops n (k+1) (listed.setIfInBounds k true)
theorem oe{listed:Array Bool}{i:Nat}{oi:Oper}(hi:ops[i]? =some oi)(h:yx md ops listed i=true):∀j oj,ops[j]? =some oj→j≠i→listed.getD j true=false→(∀e∈oj.after,Region.binds md e=true→e.on≠i)→oi.apart ops oj=true∧qU (kX oi.op) (kX oj.op)=true:=by
 intro j oj hj hji hun hno;have hlt:j<ops.size:=(aaq.1 hj).1;have:=aa8.1 h j (ace.2 hlt);simp only[hi,hj,hun,Bool.or_false,acx,beq_iff_eq,aak]at this;rcases this with(h|h)|h
 ·exact absurd h hji
 ·exfalso
  obtain⟨e,he,h⟩:=adR.1 h;simp only[aak,beq_iff_eq]at h;exact hno e he h.1 h.2
 ·exact h
def LX(P:Program)(w0:W0)(ops:Array Oper)(K:List DV→St→Prop):List Oper→List DV→St→Prop
 |[],fr,S=>K fr S
 |o::rest,fr,S=>eB P w0 ops o fr S (LX P w0 ops K rest)
theorem o9{K:List DV→St→Prop}:∀(l:List Oper) (k:Nat) (listed:Array Bool) (fr:List DV) (S:St),(∀j,l[j]? =ops[k+j]?)→
 (∀l':List Nat,l'.Nodup→(∀k,k∈l'→listed.getD k true=false)→l'.length≤l.length)→
 qw md ops l.length k listed=true→LX P w0 ops K l fr S→FC P w0 md ops K l.length listed fr S
 |[],_,_,_,_,_,_,hB,h=>⟨by simpa[qw]using hB,h⟩
 |o::l,k,listed,fr,S,hl,hcnt,hB,h=>by
  have h0:ops[k]? =some o:=by simpa using(hl 0).symm
  simp only[aaW,qw,aak]at hB;obtain⟨⟨hr,hf⟩,hB'⟩:=hB;have hr':k∈Region.ready md ops listed:=by simpa using hr
  have hun:=(mem_ready.1 hr').1;refine pI h0 l.length listed fr S (oe h0 hf) (by simpa using hcnt) hr' ?_;refine gG (fun fr S h=>o9 l (k+1) _ fr S (fun j=>by have:=hl (j+1);simpa[acw,ac2 1 j]using this) ?_ hB' h) h;intro l' hn hl'
  have hks:k<listed.size:=by
   rcases abz k listed.size with h|h
   ·exact h
   ·rw[aaI,abG h]at hun;cases hun
  have hkl:k∉l':=fun hk=>by
   have:=hl' k hk;rw[aaI,aa9]at this;simp[hks]at this
  have:=hcnt (k::l') (aaV.2 ⟨hkl,hn⟩) fun m hm=>by
   rcases aaJ.1 hm with rfl|hm
   ·exact hun
   ·have:=hl' m hm;rw[getD_set_ne true (show k≠m from fun e=>hkl (e▸hm))]at this;exact this
  simp at this;omega
theorem kU{o:Oper}{fr:List DV}{S:St}{K:List DV→St→Prop}(h:dV P w0 o fr S K):ak P w0 o (ev fr) S fun d S'=>K (pt fr o.dst d) S':=by
 rcases h with⟨c,d,q,k⟩|⟨c,d,q,k⟩|⟨c,t,ht,hz,k⟩|⟨c,q⟩
 ·exact aD (fun d' S' h=>by rw[h.1,h.2];exact k) (q S)
 ·have:=q [] (fun x hx=>by cases hx);exact aD (fun d' S' h=>by rw[h.1,h.2];exact k) this
 ·exact rN ht ⟨hz,k⟩
 ·exact q
theorem dz{ro:Option Nat}{g0:Gh}{Q:Exit→List DV→St→Prop}:∀(fuel:Nat) (listed:Array Bool) (fr:List DV) (S:St) (g:Gh) (a:Act) (w:World),g0.le g→Rel w0 g S w→af g fr a.tmps.toList→Dk w0 g a w→
 FC P w0 md ops (fun fr S=>Q .normal fr S) fuel listed fr S→wpAnyIn (fz ro) 0 P md ops (Good w0 g0 Q) fuel listed a w
 |0,listed,fr,S,g,a,w,k,h1,h2,h3,h=>⟨h.1,k.kd h3,g,fr,S,k,h1,h2,h.2⟩
 |fuel+1,listed,fr,S,g,a,w,k,h1,h2,h3,h=>by
  refine⟨fun h0=>⟨k.kd h3,g,fr,S,k,h1,h2,h.1 h0⟩,fun i hi=>?_⟩;have hq:=h.2 i hi;unfold eP at hq;unfold wpOpIn;split
  ·rename_i ho;simp only[ho]at hq;exact dz fuel _ fr S g a w k h1 h2 h3 hq
  ·rename_i o ho;simp only[ho]at hq;rcases hq with⟨hw,hb⟩|⟨hw,hk⟩
   ·have hw':=cq (o:=o) h2 hw;rw[if_pos hw'];refine de (kU hb) h1 (fun x _=>eA h2 x) h3 k h2 fun g' d' u S' w' k1 k2 k3 k4 k5=>?_;exact dz fuel _ _ _ g' _ _ (k.trans k1) k2 (bu (h2.mono k1) _ k3) (k1.dk k5) k4
   ·have hw':=cq (o:=o) h2 hw;rw[if_neg (by simp[hw'])];exact⟨fun _ _=>trivial,dz fuel _ _ _ g _ _ k h1 (bu h2 _ (gu g)) (h3.cC (put_defers _ _ _) fun _ _ h _=>h) hk⟩
theorem qI{id:Nat}{l:List Oper}{fr:List DV}{S:St}{Q:Exit→List DV→St→Prop}(hm:P.follows .mixedOrders=true)(hB:qw .any l.toArray l.length 0 (Array.replicate l.length false)=true)(h:LX P w0 l.toArray (fun fr S=>Q .normal fr S) l fr S):fV P w0 (.region id l.toArray true) fr S Q:=by
 intro g a w h1 h2 h3;refine cD hm fun ro=>?_;have hR:Rel w0 g S {w with drawn:=w.drawn+1}:=h1.grow (eK w)
 have hcnt:∀l':List Nat,l'.Nodup→(∀k,k∈l'→(Array.replicate l.length false).getD k true=false)→l'.length≤l.length:=by
  intro l' hn hl
  have hsub:∀k,k∈l'→k∈List.range l.length:=fun k hk=>by
   have:=hl k hk;rw[ace];rcases abz k l.length with h|h
   ·exact h
   ·rw[aaI,abG (by simpa using h)]at this;cases this
  have:=hn.length_le_of_subset (l₂:=List.range l.length) hsub;simpa using this
 have:=o9 (P:=P) (w0:=w0) (md:= .any) (ops:=l.toArray) l 0 (Array.replicate l.length false) fr S (by simp) hcnt hB h;have:=dz (ro:=ro) (g0:=g) (Q:=Q) _ _ fr S g a _ (.refl g) hR h2 (h3.cC rfl fun _ _ h _=>h) this;simpa using this
theorem pj{op:Op}(hk:kX op=0){fr:List DV}{S:St}{K:DV→Prop}(h:aS P w0 op fr S K):∃d,(∀S',aS P w0 op fr S' (·=d))∧K d:=by
 cases op with
 |move x=>exact⟨_,fun _=>rfl,h⟩
 |assign x=>exact⟨_,fun _=>rfl,h⟩
 |pick c a b=>obtain⟨d,q1,q2⟩:=sL h;exact⟨d,fun _=>q1,q2⟩
 |fieldAddr t x f=>obtain⟨d,q1,q2⟩:=pQ h;exact⟨d,fun _=>q1,q2⟩
 |indexAddr t x i=>obtain⟨d,q1,q2⟩:=DQ h;exact⟨d,fun _=>q1,q2⟩
 |index t x i=>obtain⟨d,q1,q2⟩:=pN h;exact⟨d,fun _=>q1,q2⟩
 |field t x f=>obtain⟨d,q1,q2⟩:=oq h;exact⟨d,fun _=>q1,q2⟩
 |extract x i=>obtain⟨d,q1,q2⟩:=mD h;exact⟨d,fun _=>q1,q2⟩
 |nilCheck x=>exact⟨_,fun _=>⟨h.1,rfl⟩,h.2⟩
 |binOp b t x y t'=>obtain⟨d,q1,q2⟩:=tu h.2;exact⟨d,fun _=>⟨h.1,q1⟩,q2⟩
 |unOp b t x=>obtain⟨d,q1,q2⟩:=C2 h;exact⟨d,fun _=>q1,q2⟩
 |convert s d x=>obtain⟨d,q1,q2⟩:=sr h;exact⟨d,fun _=>q1,q2⟩
 |makeInterface t x=>exact⟨_,fun _=>⟨h.1,h.2.1,rfl⟩,h.2.2⟩
 |makeFunc fn a b=>obtain⟨d,q1,q2⟩:=tK h;exact⟨d,fun _=>q1,q2⟩
 |slice t x lo hi mx=>obtain⟨d,q1,q2⟩:=qf h.2.2;exact⟨d,fun _=>⟨h.1,h.2.1,q1⟩,q2⟩
 |build t parts=>obtain⟨d,q1,q2⟩:=pS h.2;exact⟨d,fun _=>⟨h.1,q1⟩,q2⟩
 |buildSlice t len parts=>obtain⟨d,q1,q2⟩:=iW h.2;exact⟨d,fun _=>⟨h.1,q1⟩,q2⟩
 |call c=>
  obtain⟨callee,args,ts⟩:=c;simp only[aS]at h ⊢;split at h
  ·split at h
   ·obtain⟨d,q1,q2⟩:=wE h;exact⟨d,fun _=>by simpa using q1,q2⟩
   ·exact h.elim
  ·split at h
   ·obtain⟨d,q1,q2⟩:=xH h;exact⟨d,fun _=>by simpa using q1,q2⟩
   ·exact h.elim
  ·split at h
   ·obtain⟨d,q1,q2⟩:=xC h;exact⟨d,fun _=>by simpa using q1,q2⟩
   ·exact h.elim
  ·split at h
   ·obtain⟨d,q1,q2⟩:=wI h;exact⟨d,fun _=>by simpa using q1,q2⟩
   ·exact h.elim
  ·cases hk
  ·cases hk
  ·exact h.elim
 |_=>first|exact h.elim|cases hk
theorem B2{S:St}{B:List (Nat×List DV)}(hB:Fr S B){b:Nat}{ds:List DV}(h:lk S.box b=some ds):lk (B++S.box) b=some ds:=by
 induction B with
 |nil=>exact h
 |cons x B ih=>
  have h1:=hB x aaQ;have hne:¬x.1=b:=fun e=>by rw[e]at h1;rw[og h1]at h;cases h
  obtain⟨k,y⟩:=x;show lk ((k,y)::(B++S.box)) b=_;rw[oS hne];exact ih fun z hz=>hB z (aat _ hz)
theorem ug{k:TK}{S:St}{x:DV}{K:DV→Prop}{B:List (Nat×List DV)}(hB:Fr S B)(h:bE k S x K):bE k ⟨B++S.box,S.acc⟩ x K:=by
 unfold bE at*;split at h
 ·split at h
  ·rename_i ds hb;simp only[B2 hB hb];exact h
  ·exact h.elim
 ·exact h
 ·exact h
 ·exact h.elim
end
def QX(P:Program)(w0:W0)(f:FuncId)(ds:List DV)(S:St)[K:Cn (DV→Prop)]:Prop:=∃d,(∀B,Fr S B→ab P w0 f ds ⟨B++S.box,S.acc⟩ fun d' S'=>d'=d∧S'=⟨B++S.box,S.acc⟩)∧K.k d
def gx(P:Program)(w0:W0)(cal:DV)(ds:List DV)(S:St)(K:DV→Prop):Prop:=match cal with
 | .v (.func (.func f) a cap)=>a.size=0∧okF P f=true∧cap.toList.all (fun u=>u.oneCell')=true∧ds.all fk=true∧@QX P w0 f (ds++cap.toList.map .v) S ⟨K⟩
 |_=>False
def wG(P:Program)(w0:W0)(op:Op)(fr:List DV)(S:St)(K:DV→St→Prop):Prop:=match op with
 | .load t x=>bE (tk P t) S (ev fr x) (K · S)
 | .alloc t=>eW (zD P t)=true∧GZ S (zD P t) K
 | .call ⟨.value cal,args,_⟩=>gx P w0 (ev fr cal) (args.toList.map (ev fr)) S (K · S)
 |op=>cF (kX op==0) (aS P w0 op fr S (K · S)) (aH P w0 op fr S K)
def nT(P:Program)(w0:W0)(ops:Array Oper)(K:List DV→St→Prop):List Oper→List DV→St→Prop
 |[],fr,S=>K fr S
 |o::rest,fr,S=>bP ops fr o.guard (fun fr=>wG P w0 o.op fr S fun d S'=>nT P w0 ops K rest (pt fr o.dst d) S') (fun fr=>nT P w0 ops K rest (pt fr o.dst ud) S)
section
variable {P:Program} {w0:W0} {ops:Array Oper} {md:Region.Mode}
theorem qt{o:Oper}{fr:List DV}{S:St}{K:List DV→St→Prop}(hs:eo o.op=true)(h:wG P w0 o.op fr S fun d S'=>K (pt fr o.dst d) S'):dV P w0 o fr S K:=by
 have gen:∀(h:cF (kX o.op==0) (aS P w0 o.op fr S fun d=>K (pt fr o.dst d) S) (aH P w0 o.op fr S fun d S'=>K (pt fr o.dst d) S')),kX o.op=0∨kX o.op=3→dV P w0 o fr S K:=by
  intro h hk;rcases hk with hk|hk
  ·rw[hk]at h;obtain⟨d,q1,q2⟩:=pj hk (show aS P w0 o.op fr S fun d=>K (pt fr o.dst d) S from h)
   exact .inl ⟨hk,d,fun S'=>by
    obtain⟨d',k1,k2⟩:=jA hs (q1 S');subst k2;exact k1,q2⟩
  ·rw[hk]at h;exact .inr (.inr (.inr ⟨hk,bH hs h⟩))
 cases hop:o.op with
 |load t x=>
  rw[hop]at h hs;obtain⟨d,q1,q2⟩:=oT (show bE (tk P t) S (ev fr x) (fun d=>K (pt fr o.dst d) S)from h);refine .inr (.inl ⟨by rw[hop];rfl,d,fun B hB=>?_,q2⟩);exact bH (by rw[hop];exact hs) (by rw[hop];simpa[aH]using ug hB q1)
 |alloc t=>
  rw[hop]at h;exact .inr (.inr (.inl ⟨by rw[hop];rfl,t,hop,h.1,h.2⟩))
 |call c=>
  obtain⟨callee,args,ts⟩:=c
  cases callee with
  |value cal=>
   rw[hop]at h hs;simp only[wG,gx]at h;split at h
   ·rename_i f a cap hcal;obtain⟨h1,h2,h3,h4,d,h5,h6⟩:=h;refine .inr (.inl ⟨by rw[hop];rfl,d,fun B hB=>?_,h6⟩);exact bH (by rw[hop];exact hs) (by rw[hop];simp only[aH,hcal];exact pg h1 h3 (by rw[h2,Kv];exact lT h4 (h5 B hB)))
   ·exact h.elim
  |builtin b=>
   refine gen (by rw[hop]at h ⊢;exact h) ?_;rw[hop];cases b <;>first|exact .inl rfl|exact .inr rfl
  |invoke r m=>
   refine gen (by rw[hop]at h ⊢;exact h) ?_;rw[hop];exact .inr rfl
 |_=>refine gen (by rw[hop]at h ⊢;exact h) ?_;rw[hop];first|exact .inl rfl|exact .inr rfl
theorem eR{K:List DV→St→Prop}:∀(l:List Oper) {fr:List DV} {S:St},l.all (fun o=>eo o.op)=true→nT P w0 ops K l fr S→LX P w0 ops K l fr S
 |[],fr,S,_,h=>h
 |o::rest,fr,S,hs,h=>by
  simp only[ado,aak]at hs;rcases jw h with⟨hw,ha⟩|⟨hw,hb⟩
  ·exact .inl ⟨hw,ja (fun fr S h=>eR rest hs.2 h) (qt hs.1 ha)⟩
  ·exact .inr ⟨hw,eR rest hs.2 hb⟩
def WS(l:List Oper):Bool:=l.all (fun o=>eo o.op)&&qw .any l.toArray l.length 0 (Array.replicate l.length false)
theorem VK{id:Nat}{l:List Oper}{fr:List DV}{S:St}{Q:Exit→List DV→St→Prop}(hm:P.follows .mixedOrders=true)(hB:WS l=true)(h:nT P w0 l.toArray (fun fr S=>iu fr fun fr=>Q .normal fr S) l fr S):fV P w0 (.region id l.toArray true) fr S Q:=by
 simp only[WS,aak]at hB;exact qI hm hB.2 (eR l hB.1 h)
theorem Xj{f:FuncId}{args args':List DV}{S:St}{K:DV→Prop}{r:DV}(h:∀B,Fr S B→ab P w0 f args' ⟨B++S.box,S.acc⟩ (fun d S'=>d=r∧S'=⟨B++S.box,S.acc⟩))(hk:K r)(ha:ej args args':=by exact ej.refl _):@QX P w0 f args S ⟨K⟩:=
 ⟨r,fun B hB=>jY (h B hB) ha ⟨rfl,rfl⟩,hk⟩
end
end Aml
namespace Aml
open Go Go.RowKit
section
variable {P:Program} {w0:W0} {ops:Array Oper} {fr:List DV} {S:St} {rest:List Oper} {dst:Option Tmp} {op:Op} {ty:TypeId} {pos:String} {aft:Array Edge}
section
variable {K:List DV→St→Prop}
theorem Li:nT P w0 ops K [] fr S=K fr S:=rfl
theorem Bu:nT P w0 ops K (⟨dst,op,ty,pos,aft,none⟩::rest) fr S=wG P w0 op fr S fun d S'=>nT P w0 ops K rest (pt fr dst d) S':=rfl
end
variable {K:DV→St→Prop}
theorem CO(t:TypeId)(x:Operand):wG P w0 (.load t x) fr S K=bE (tk P t) S (ev fr x) (K · S):=rfl
theorem B8(cal:Operand)(a:List Operand)(ts:Array TypeId):wG P w0 (.call ⟨.value cal,a.toArray,ts⟩) fr S K=gx P w0 (ev fr cal) (a.map (ev fr)) S (K · S):=rfl
theorem w9(f:FuncId)(a cap:Array Value)(ds:List DV)(K:DV→Prop):gx P w0 (.v (.func (.func f) a cap)) ds S K=(a.size=0∧okF P f=true∧cap.toList.all (fun u=>u.oneCell')=true∧ds.all fk=true∧@QX P w0 f (ds++cap.toList.map .v) S ⟨K⟩):=rfl
@[congr] theorem Hk {cal cal':DV} {ds ds':List DV} {S':St} {K:DV→Prop} (h1:cal=cal') (h2:ds=ds') (h3:S=S'):gx P w0 cal ds S K=gx P w0 cal' ds' S' K:=by cases h1;cases h2;cases h3;rfl
theorem Bn(x:Operand):wG P w0 (.move x) fr S K=aS P w0 (.move x) fr S (K · S):=rfl
theorem tE(x:Operand):wG P w0 (.assign x) fr S K=aS P w0 (.assign x) fr S (K · S):=rfl
theorem mz(t:TypeId)(x:Operand)(f:Nat):wG P w0 (.fieldAddr t x f) fr S K=aS P w0 (.fieldAddr t x f) fr S (K · S):=rfl
end
attribute [go_sem ↓] Li Bu CO B8 w9 Bn tE mz
end Aml
namespace Aml
open Go Go.RowKit
structure Has(X T:St):Prop where
 box:∀b x,lk X.box b=some x→lk T.box b=some x
 acc:∀l o,lk X.acc l=some o→lk T.acc l=some o
structure Kp(X T T':St):Prop where
 box:∀b x,lk X.box b=none→lk T.box b=some x→lk T'.box b=some x
 acc:∀l o,lk X.acc l=none→lk T.acc l=some o→lk T'.acc l=some o
theorem Has.refl(X:St):Has X X:=⟨fun _ _ h=>h,fun _ _ h=>h⟩
theorem Kp.refl(X T:St):Kp X T T:=⟨fun _ _ _ h=>h,fun _ _ _ h=>h⟩
theorem kv{α:Type}{l:List (Nat×α)}(hn:(l.map (·.1)).Nodup){n:Nat}{x:α}(h:(n,x)∈l):lk l n=some x:=by
 induction l with
 |nil=>cases h
 |cons p t ih=>
  obtain⟨k,y⟩:=p;simp only[abB,aaV]at hn;simp only[lk];rcases aaJ.1 h with e|h
  ·cases e;simp
  ·have:k≠n:=by rintro rfl;exact hn.1 (abL (f:=(·.1)) h)
   rw[if_neg this];exact ih hn.2 h
def jB:List Tmp→List DV→List DV→List DV
 |p::ps,d::ds,fr=>jB ps ds (fr.set p d)
 |_,_,fr=>fr
section
variable {P:Program} {w0:W0}
theorem Rel.has{g:Gh}{S T:St}{w:World}(h:Rel w0 g T w)(hs:Has S T)(nb:(S.box.map (·.1)).Nodup)(na:(S.acc.map (·.1)).Nodup):Rel w0 g S w:=by
 obtain⟨ow,o1,o2⟩:=h.own;exact⟨h.below,h.aY,nb,na,h.eU,h.fresh,fun l o hl=>h.top l o (bV (hs.acc _ _ (kv na hl))),ow,fun b ds hb=>o1 b ds (bV (hs.box _ _ (kv nb hb))),fun l o hl=>o2 l o (bV (hs.acc _ _ (kv na hl)))⟩
theorem nK{g:Gh}:∀(ps:List Tmp) (ds:List DV) (vs:List Value) {fr:List DV} {us:Array Value},af g fr us.toList→af g ds vs→
 af g (jB ps ds fr) (((ps.zip vs).foldl (fun t (p,v)=>t.setIfInBounds p v) us).toList)
 |[],ds,vs,fr,us,h,_=>by simpa[jB]using h
 |p::ps,ds,vs,fr,us,h,r=>by
  cases ds with
  |nil=>have:=r.len;simp at this;obtain rfl:vs=[]:=aa0 this.symm;simpa[jB]using h
  |cons d ds=>
   obtain⟨v,vs',rfl,hd,hr⟩:=r.dJ;simp only[jB,List.zip_cons_cons,List.foldl_cons];exact nK ps ds vs' (by simpa using h.set p hd) hr
def UB(P:Program)(w0:W0){α:Type}(l:Nat)(X:List α→St)(enc:α→List DV)(Ok:List α→Prop):Prop:=
 ∀pre x T,Ok (pre++[x])→Has (X pre) T→DU P w0 l (enc x) T fun d T'=>d= .v (.bool true)∧Has (X (pre++[x])) T'∧Kp (X pre) T T'
def W0.np(w0:W0):W0:=⟨w0.w,w0.gh,fun _ _=>False⟩
theorem sT{α:Type}(X:List α→St)(enc:α→List DV)(Ok Fin:List α→Prop){fo:Operand}{ps:Array Tmp}{assign body:Code}{fr:List DV}{S:St}{Q:Exit→List DV→St→Prop}{gf:FuncId}{cap:Array Value}
 (hf:ev fr fo= .v (.func (.func gf) #[] cap)) (hok:okF P gf=true) (hcap:cap.toList.all (fun u=>u.oneCell')=true) (hrf:(ji assign&&ji body)=true)
 (h0:X []=S) (hdb:∀pre,(X pre).box.map (·.1)=(X []).box.map (·.1)) (hda:∀pre,(X pre).acc.map (·.1)=(X []).acc.map (·.1)) (hps:∀x,(enc x).length=ps.size)
 (hbody:∀pre x T,Ok (pre++[x])→Has (X pre) T→fV P w0.np assign (jB ps.toList (enc x) fr) T (iv (fun fr1 T1=>fV P w0.np body fr1 T1 (iv (fun _ T'=>Has (X (pre++[x])) T'∧Kp (X pre) T T') fun _ _ _=>False)) fun _ _ _=>False))
 (hit:∀(l:Nat) (w1:W0),UB P w1 l X enc Ok→∀T,Has (X []) T→ab P w1 gf (.v (.func (.yield l) #[] #[])::cap.toList.map .v) T fun _ T'=>∃V,Fin V∧Has (X V) T')
 (hdone:∀V,Fin V→Q .normal fr (X V)):fV P w0 (.rangeFunc fo ps assign body) fr S Q:=by
 intro g a w h1 h2 h3 ro hro;have hro:ro=none:=hro.resolve_right (by simp[ji]);subst hro;simp only[aak]at hrf;subst h0;refine wpIn_rangeFunc ?_;intro fn hfn;have hfo:=eA h2 fo;rw[hf]at hfo;have hg:a.eval fo= .func (.func gf) #[] cap:=ay hfo;obtain⟨rec,hrec⟩:∃rec:LoopState→Option Code→Loop,rec=fun st pe=>{state:=st,pending:=pe,fn,tmps:=a.tmps,params:=ps,assign,body,defers:=w.heap.size}:=⟨_,rfl⟩;obtain⟨W1,hW1⟩:∃W1,(w.alloc (.deferred (some []))).alloc (.loop (rec .ready none))=W1:=⟨_,rfl⟩
 have hL1:W1.heap[w.heap.size+1]? =some (.loop (rec .ready none)):=by
  rw[←hW1];have:=World.alloc_heap_new (w.alloc (.deferred (some []))) (.loop (rec .ready none));rwa [World.size_alloc]at this
 have hK1:W1.heap[w.heap.size]? =some (.deferred (some [])):=by
  rw[←hW1];exact(Below.heap_alloc _ _ _ (by simp)).trans (World.alloc_heap_new w _)
 have hb1:jh w.heap.size w W1:=by
  rw[←hW1];exact((jh.refl _ w).alloc (aar _) _).alloc (by simp) _
 have hob:∀k o,g.obj k=some o→k<w.heap.size:=fun k o hk=>(aaq.1 (h1.below.obj k o hk).1).1
 have hgl:∀k,w.heap.size≤k→g.obj k=none:=fun k hk=>by
  cases hx:g.obj k with
  |none=>rfl
  |some o=>have:=hob k o hx;omega
 have hwl:∀k,w.heap.size≤k→w0.gh.obj k=none:=fun k hk=>by
  cases hx:w0.gh.obj k with
  |none=>rfl
  |some o=>have:=hob k o (h1.below.fx.obj k o hx);omega
 have hsz:=h1.below.size;have hszn:w0.np.heap.size≤w.heap.size:=hsz;let w1:W0:=⟨w0.w,{g with obj:=fun k=>if k=w.heap.size+1 then some (.loop (rec .ready none))else w0.gh.obj k},fun _ _=>False⟩
 have R1:Rel w1 (g.aj (uZ W1)) (X []) W1:=by
  refine(h1.grow hb1).aj rfl (fun _ _ h=>ur h) ⟨fun _ _ _ h=>h,fun _ _ _ h=>h,fun k o hk=>?_⟩;simp only[w1]at hk;split at hk
  ·rename_i e;subst e;cases hk;exact mu hL1 rfl
  ·have:=(h1.grow hb1).below.obj k o (h1.below.fx.obj k o hk);exact mu this.1 this.2
 have nb:∀pre,((X pre).box.map (·.1)).Nodup:=fun pre=>by rw[hdb];exact h1.nb
 have na:∀pre,((X pre).acc.map (·.1)).Nodup:=fun pre=>by rw[hda];exact h1.na
 have h2k:af (g.aj (uZ W1)) fr a.tmps.toList:=h2.aj
 have hcapR:∀g:Gh,af g (cap.toList.map .v) cap.toList:=fun g=>⟨by simp,fun i d u a1 a2=>by
  simp only[aaE,aay]at a1;obtain⟨u',a1,rfl⟩:=a1;rw[a2]at a1;cases a1;exact .v _ (aa8.1 hcap _ (aaf a2))⟩
 have hYK:UB P w1 (w.heap.size+1) X enc Ok:=by
  intro pre x T hV hT g3 vs w3 r3 hvs;have hl3g:g3.obj (w.heap.size+1)=some (.loop (rec .ready none)):=r3.below.fx.obj _ _ (by simp[w1]);have hl3:=(r3.below.obj _ _ hl3g).1;have hy:=run_yield (P:=P) (args:=vs) hl3 (by rw[hrec];have:=hvs.len;simp at this;rw[←this];exact hps x);rw[hrec]at hy;dsimp only at hy;refine⟨_,_,_,_,hy,fun ro=>roundIn_of_wpIn (F:=fz ro) (n:=0) trivial ?_⟩
  have hsub0:w0.gh.sub g3:=⟨fun _ _ _ h=>r3.below.fx.aY _ _ _ (h1.below.fx.aY _ _ _ h),fun _ _ _ h=>r3.below.fx.acc _ _ _ (h1.below.fx.acc _ _ _ h),fun k o hk=>r3.below.fx.obj k o (by
   simp only[w1];split
   ·rename_i e;subst e;rw[hwl _ (by omega)]at hk;cases hk
   ·exact hk)⟩
  have R3:Rel w0.np (g3.aF []) T w3:=(r3.aj (w0':=w0.np) (ob:=g3.obj) rfl r3.below.obj hsub0).aF [] rfl hsub0;have hfr0:af g3 fr a.tmps.toList:=⟨h2.len,fun i d u a1 a2=>aG.of (g:=g) (fun b i u hu=>r3.below.fx.aY b i u hu) (fun l n u hu=>r3.below.fx.acc l n u hu) (h2.at_ i d u a1 a2)⟩
  have hfr:af g3 (jB ps.toList (enc x) fr) (((ps.zip vs).foldl (fun t (p,v)=>t.setIfInBounds p v) a.tmps).toList):=by
   have:=nK (g:=g3) ps.toList (enc x) vs.toList (fr:=fr) (us:=a.tmps) hfr0 hvs;rw[←Array.toList_zip,Array.foldl_toList]at this;exact this
  refine wpIn_mono (hbody pre x T hV hT (g3.aF []) {tmps:=_,defers:=[]} w3 R3 hfr.aF (.nil rfl) (some (w.heap.size+1)) (.inr hrf.1)) ?_;rintro e a4 w4 ⟨hd4,g4,fr4,T4,k1,k2,k3,k4⟩
  cases e with
  |normal=>
   have hl4g:g4.obj (w.heap.size+1)=some (.loop (rec .ready none)):=by rw[k1.obj];exact hl3g
   have hl4:=(k2.below.obj _ _ hl4g).1;refine⟨_,run_beginRound hl4 (by rw[hrec]),?_⟩;have hlt4:w.heap.size+1<w4.heap.size:=(aaq.1 hl4).1;have hbz:({rec .ready none with state:= .busy}:Loop)=rec .busy none:=by rw[hrec]
   rw[hbz];have hwl0:=hwl (w.heap.size+1) (by omega);have hne0:∀k o,w0.gh.obj k=some o→k≠w.heap.size+1:=by rintro k o hk rfl;rw[hwl0]at hk;cases hk
   have R4x:Rel w0.np (g4.aj fun k=>if k=w.heap.size+1 then none else g4.obj k) T4 w4:=k2.aj rfl (fun k o hk=>by
    split at hk
    ·cases hk
    ·exact k2.below.obj k o hk) ⟨k2.below.fx.aY,k2.below.fx.acc,fun k o hk=>by
     show(if k=w.heap.size+1 then none else g4.obj k)=some o;rw[if_neg (hne0 k o hk)];exact k2.below.fx.obj k o hk⟩
   have hh5:∀k,k≠w.heap.size+1→(w4.putObj (w.heap.size+1) (.loop (rec .busy none))).heap[k]? =w4.heap[k]? :=fun k hk=>World.putObj_heap_other hk;have R4y:=R4x.putObj (o':= .loop (rec .busy none)) hl4 rfl (by show(if _ then none else _)=none;rw[if_pos rfl]) (by omega)
   have R5:Rel w0.np ((g4.aj fun k=>if k=w.heap.size+1 then none else g4.obj k).aj fun k=>if k=w.heap.size+1 then some (.loop (rec .busy none))else g4.obj k) T4 (w4.putObj (w.heap.size+1) (.loop (rec .busy none))):=R4y.aj rfl (fun k o hk=>by
    split at hk
    ·rename_i e;subst e;cases hk;exact⟨World.putObj_heap_same hlt4,rfl⟩
    ·rename_i e;rw[hh5 k e];exact k2.below.obj k o hk) ⟨k2.below.fx.aY,k2.below.fx.acc,fun k o hk=>by
     show(if k=w.heap.size+1 then some (.loop (rec .busy none))else g4.obj k)=some o;rw[if_neg (hne0 k o hk)];exact k2.below.fx.obj k o hk⟩
   have hD5:Dk w0.np ((g4.aj fun k=>if k=w.heap.size+1 then none else g4.obj k).aj fun k=>if k=w.heap.size+1 then some (.loop (rec .busy none))else g4.obj k) a4 (w4.putObj (w.heap.size+1) (.loop (rec .busy none))):=by
    obtain⟨ms,em,hn4,hd4⟩:=hd4;refine⟨ms,by rw[em];show ms++_=ms++g4.nf;rw[k1.nf],hn4,fun d hd=>?_⟩;obtain⟨D,e1,e2,e3,e4⟩:=hd4 d hd;have hne:D≠w.heap.size+1:=by rintro rfl;rw[hl4]at e2;cases e2
    exact⟨D,e1,(hh5 D hne).trans e2,by show(if D=w.heap.size+1 then _ else g4.obj D)=none;rw[if_neg hne,k1.obj];exact e3,e4⟩
   refine wpIn_mono (k4 _ a4 _ R5 k3.aj.aj hD5 (some (w.heap.size+1)) (.inr hrf.2)) ?_;rintro e a6 w6 ⟨_,g6,fr6,T6,q1,q2,q3,q4⟩
   cases e with
   |normal=>
    have hg6:g6.obj=fun k=>if k=w.heap.size+1 then some (.loop (rec .busy none))else g4.obj k:=q1.obj
    have hl6:=(q2.below.obj (w.heap.size+1) (.loop (rec .busy none)) (by rw[hg6];simp)).1;have hlt6:w.heap.size+1<w6.heap.size:=(aaq.1 hl6).1;have hbr:({rec .busy none with state:=if(none:Option Code).isNone then .ready else .done,pending:=none}:Loop)=rec .ready none:=by rw[hrec];rfl
    have he:=run_endRound (P:=P) none hl6;rw[hbr]at he;have he:(Instr.endRound (w.heap.size+1) none).run P w6= .ok (.bool true) (w6.putObj (w.heap.size+1) (.loop (rec .ready none))):=he;have h34:∀k,k≠w.heap.size+1→g6.obj k=g3.obj k:=fun k hk=>by rw[hg6];simp only[if_neg hk];rw[k1.obj];rfl
    have R6x:Rel w0.np (g6.aj fun k=>if k=w.heap.size+1 then none else g3.obj k) T6 w6:=q2.aj rfl (fun k o hk=>by
     split at hk
     ·cases hk
     ·rename_i e;exact q2.below.obj k o (by rw[h34 k e];exact hk)) ⟨q2.below.fx.aY,q2.below.fx.acc,fun k o hk=>by
      show(if k=w.heap.size+1 then none else g3.obj k)=some o;rw[if_neg (hne0 k o hk)];exact hsub0.obj k o hk⟩
    have hh7:∀k,k≠w.heap.size+1→(w6.putObj (w.heap.size+1) (.loop (rec .ready none))).heap[k]? =w6.heap[k]? :=fun k hk=>World.putObj_heap_other hk;have R6y:=R6x.putObj (o':= .loop (rec .ready none)) hl6 rfl (by show(if _ then none else _)=none;rw[if_pos rfl]) (by omega)
    have R7:Rel w1 ((g6.aj fun k=>if k=w.heap.size+1 then none else g3.obj k).aj g3.obj) T6 (w6.putObj (w.heap.size+1) (.loop (rec .ready none))):=R6y.aj rfl (fun k o hk=>by
     by_cases e:k=w.heap.size+1
     ·subst e;rw[hl3g]at hk;cases hk;exact⟨World.putObj_heap_same hlt6,rfl⟩
     ·rw[hh7 k e];exact q2.below.obj k o (by rw[h34 k e];exact hk)) ⟨fun b i u hu=>q1.aY _ _ _ (k1.aY _ _ _ (r3.below.fx.aY _ _ _ hu)),fun l n u hu=>q1.acc _ _ _ (k1.acc _ _ _ (r3.below.fx.acc _ _ _ hu)),r3.below.fx.obj⟩
    exact⟨.bool true,_,he,.inl ⟨.bool true,((g6.aj fun k=>if k=w.heap.size+1 then none else g3.obj k).aj g3.obj).aF g3.nf,.v (.bool true),T6,rfl,⟨fun b i u hu=>q1.aY _ _ _ (k1.aY _ _ _ hu),fun l n u hu=>q1.acc _ _ _ (k1.acc _ _ _ hu),rfl,rfl⟩,R7.aF g3.nf rfl R7.below.fx,.v _ rfl,rfl,q4.1,q4.2⟩⟩
   |exit n=>exact q4.elim
   |goto n=>exact q4.elim
   |ret=>exact q4.elim
   |panic ch=>obtain⟨_,_,_,_,q4⟩:=q4;exact q4.elim
   |outgrown=>exact q4.elim
  |exit n=>exact k4.elim
  |goto n=>exact k4.elim
  |ret=>exact k4.elim
  |panic ch=>obtain⟨_,_,_,_,k4⟩:=k4;exact k4.elim
  |outgrown=>exact k4.elim
 refine⟨w.heap.size+1,[{target:= .collected w.heap.size,args:= #[]}],W1,{target:= .fn (.func gf) cap,args:= #[.func (.yield (w.heap.size+1)) #[] #[]]},W1,gf, #[.func (.yield (w.heap.size+1)) #[] #[]]++cap,W1,?_,?_,fun _ _=>trivial,?_,fun h=>by simp[fz,Fence.wide]at h,?_⟩
 ·rw[←hW1,hrec];exact run_enterLoop_outer _ _ _ _ _
 ·simp only[resolve,hg];simp[go_sem]
 ·unfold okF at hok;split at hok
  ·rename_i fn' hfn';simp only[aak,abU]at hok;obtain⟨hb,hname⟩:=hok;have hbn:¬fn'.body=none:=by intro e;simp[e]at hb
   have hname':¬fn'.name= "runtime.NumGoroutine" :=by simpa using hname
   simp[invoke,callFunc,hfn',hname',hbn]
  ·cases hok
 ·refine gi.2 ((hit _ w1 hYK (X []) (.refl _) (g.aj (uZ W1)) _ W1 R1 ?_).mono ?_)
  ·have:af (g.aj (uZ W1)) ([.v (.func (.yield (w.heap.size+1)) #[] #[])]++cap.toList.map .v) ([.func (.yield (w.heap.size+1)) #[] #[]]++cap.toList):=(af.cons (.v _ rfl) (af.nil _)).append (hcapR _);simpa using this
  ·rintro e w2 (⟨r,g2,d,S2,rfl,k1,k2,k3,V,kV,k4⟩|⟨_,_,_,_,_,_,_,_,hF⟩)
   rotate_left
   ·exact hF.elim
   have hg2:g2.obj=uZ W1:=k1.obj;have hkeep:∀(k:Nat) (o:Obj),W1.heap[k]? =some o→nc o=true→w2.heap[k]? =some o:=fun k o h1 h2=>(k2.below.obj k o (by rw[hg2];exact mu h1 h2)).1;have hl2:=hkeep _ _ hL1 rfl;have hK2:=hkeep _ _ hK1 rfl;have hpend:(rec .ready none).pending=none:=by rw[hrec]
   obtain⟨o',hend⟩:∃o',(Instr.endLoop (w.heap.size+1)).run P w2= .ok none (w2.putObj (w.heap.size+1) o'):=⟨_,by
    have:=run_endLoop (P:=P) hl2 (by rw[hrec];simp);rw[hpend]at this;exact this⟩
   refine⟨none,_,hend,?_⟩;have hoth:∀k,k≠w.heap.size+1→(w2.putObj (w.heap.size+1) o').heap[k]? =w2.heap[k]? :=fun k hk=>World.putObj_heap_other hk;have RV:Rel w1 g2 (X V) w2:=k2.has k4 (nb _) (na _)
   have Rb:Rel w0 (g2.aj g.obj) (X V) w2:=RV.aj rfl (fun k o hk=>by
    obtain⟨p1,p2⟩:=h1.below.obj k o hk;exact⟨hkeep k o ((hb1.block k (aaq.1 p1).1).trans p1) p2,p2⟩) ⟨fun b i u hu=>k1.aY _ _ _ (h1.below.fx.aY _ _ _ hu),fun l n u hu=>k1.acc _ _ _ (h1.below.fx.acc _ _ _ hu),h1.below.fx.obj⟩
   refine⟨?_,g2.aj g.obj,fr,X V,⟨k1.aY,k1.acc,rfl,k1.nf⟩,Rb.putObj hl2 rfl (hgl _ (by omega)) (by omega),?_,hdone V kV⟩
   ·obtain⟨ms,em,h31,h32⟩:=h3;refine⟨{target:= .collected w.heap.size,args:= #[]}::ms,by show _::a.defers=_;rw[em];rfl,?_,?_⟩
    ·rw[aaV];refine⟨fun hm=>?_,h31⟩;obtain⟨D,e1,e2,_⟩:=h32 _ hm;have:w.heap.size=D:=by injection e1 with e1 _;injection e1
     subst this;have:=(aaq.1 e2).1;omega
    ·intro d hd;rcases aaJ.1 hd with rfl|hd
     ·exact⟨_,rfl,(hoth _ (by omega)).trans hK2,hgl _ (aar _),by omega⟩
     ·obtain⟨D,e1,e2,e3,e4⟩:=h32 d hd;have hlt:=(aaq.1 e2).1;exact⟨D,e1,(hoth D (by omega)).trans (hkeep D _ ((hb1.block D hlt).trans e2) rfl),e3,e4⟩
   ·have:af g2 fr a.tmps.toList:=h2k.mono k1;exact this.aj
theorem wF{α:Type}(ss:List Nat:=[])(X:List α→St)(enc:α→List DV)(Ok Fin:List α→Prop){fo:Operand}{ps:Array Tmp}{assign body:Code}{fr:List DV}{S:St}{Q:Exit→List DV→St→Prop}{gf:FuncId}{cap:Array Value}
 (hm:P.follows .mixedOrders=true) (hc:(rT ss assign&&rT ss body&&ji assign&&ji body&&okF P gf)=true) (hf:ev fr fo= .v (.func (.func gf) #[] cap)) (hcap:cap.toList.all (fun u=>u.oneCell')=true)
 (h0:X []=S) (hdb:∀pre,(X pre).box.map (·.1)=(X []).box.map (·.1)) (hda:∀pre,(X pre).acc.map (·.1)=(X []).acc.map (·.1)) (hps:∀x,(enc x).length=ps.size)
 (hit:∀(l:Nat) (w1:W0),UB P w1 l X enc Ok→∀T,Has (X []) T→ab P w1 gf (.v (.func (.yield l) #[] #[])::cap.toList.map .v) T fun _ T'=>∃V,Fin V∧Has (X V) T')
 (hbody:∀pre x T,Ok (pre++[x])→Has (X pre) T→vw P w0.np ss assign (jB ps.toList (enc x) fr) T (iv (fun fr1 T1=>vw P w0.np ss body fr1 T1 (iv (fun _ T'=>Has (X (pre++[x])) T'∧Kp (X pre) T T') fun _ _ _=>False)) fun _ _ _=>False))
 (hdone:∀V,Fin V→Q .normal fr (X V)):fV P w0 (.rangeFunc fo ps assign body) fr S Q:=by
 simp only[aak]at hc;obtain⟨⟨⟨⟨c1,c2⟩,c3⟩,c4⟩,c5⟩:=hc;refine sT X enc Ok Fin hf c5 hcap (by rw[c3,c4];rfl) h0 hdb hda hps (fun pre x T hV hT=>?_) hit hdone;refine(bh hm assign c1 (hbody pre x T hV hT)).mono ?_;intro e fr' S' h;cases e <;>first|exact bh hm body c2 h|exact h
theorem sR{ss:List Nat}{fr:List DV}{S:St}{Q:Exit→List DV→St→Prop}(f:Operand)(ps:Array Tmp)(a b:Code):vw P w0 ss (.rangeFunc f ps a b) fr S Q= @AL P w0 fr S ⟨((.rangeFunc f ps a b),Q)⟩:=rfl
theorem Pp(l:Nat)(ds:List DV)(S:St)(K:DV→St→Prop):oE P w0 (.v (.func (.yield l) #[] #[])) ds S K=gk S ds fun ds S=>@YC P w0 l ds S ⟨K⟩:=by
 simp[oE]
@[congr] theorem abu {l:Nat} {ds ds':List DV} {S S':St} [K:Cn (DV→St→Prop)] (h1:ds=ds') (h2:S=S'):YC P w0 l ds S=YC P w0 l ds' S':=by cases h1;cases h2;rfl
theorem SM{l:Nat}{args args':List DV}{S:St}{K K':DV→St→Prop}(h:DU P w0 l args' S K')(hk:∀d S',K' d S'→K d S')(ha:ej args args':=by exact ej.refl _):@YC P w0 l args S ⟨K⟩:=by
 intro g vs w h1 h2;obtain⟨fn,t,a,b,q1,q2⟩:=h g vs w h1 (ha.spec h2);exact⟨fn,t,a,b,q1,fun ro=>(q2 ro).mono fun e w' k=>k.mono (.refl _) hk⟩
theorem aM{α:Type}(l:List (Nat×α))(b:Nat)(v:α):lk (up l b v) b=(lk l b).map fun _=>v:=by
 induction l with
 |nil=>rfl
 |cons p t ih=>obtain⟨k,x⟩:=p;simp only[up,lk];split <;>simp_all [lk]
theorem ae{α:Type}{b c:Nat}(h:¬b=c)(l:List (Nat×α))(v:α):lk (up l b v) c=lk l c:=by
 induction l with
 |nil=>rfl
 |cons p t ih=>
  obtain⟨k,x⟩:=p;simp only[up];split
  ·rename_i e;subst e;simp[lk,h]
  ·simp only[lk,ih]
theorem Qs{α:Type}(l:List (Nat×α))(b:Nat)(v v':α):up (up l b v) b v'=up l b v':=by
 induction l with
 |nil=>rfl
 |cons p t ih=>obtain⟨k,x⟩:=p;simp only[up];split <;>simp_all [up]
theorem Has.aN{X T:St}(h:Has X T)(b:FN T.box)(ds:List DV){A:List (Nat×Ob)}(hA:A=T.acc):Has X ⟨(b.n,ds)::T.box,A⟩:=⟨fun c x hc=>by
 have:=h.box c x hc;simp only[lk];rw[if_neg (fun e=>by rw[←e,ao b]at this;cases this)];exact this,fun l o hl=>by rw[hA];exact h.acc l o hl⟩
theorem Has.up{b:Nat}{x v:List DV}{R:List (Nat×List DV)}{A:List (Nat×Ob)}{T:St}(h:Has ⟨(b,x)::R,A⟩ T):Has ⟨(b,v)::R,A⟩ ⟨up T.box b v,T.acc⟩:=⟨fun c y hc=>by
 have hb:=h.box b x (by simp[lk]);simp only[lk]at hc;split at hc
 ·rename_i e;subst e;cases hc;rw[aM,hb];rfl
 ·rename_i e;rw[ae e];exact h.box c y (by simp only[lk,if_neg e];exact hc),h.acc⟩
theorem Kp.up{b:Nat}{v:List DV}{X T:St}(h:(lk X.box b).isSome=true):Kp X T ⟨up T.box b v,T.acc⟩:=⟨fun c x hc hx=>by
 have:¬b=c:=by rintro rfl;rw[hc]at h;cases h
 rw[ae this];exact hx,fun _ _ _ h=>h⟩
theorem Kp.trans{X X' T1 T2 T3:St}(h:Kp X T1 T2)(k:Kp X' T2 T3)(hb:∀b,lk X.box b=none→lk X'.box b=none)(ha:∀l,lk X.acc l=none→lk X'.acc l=none):Kp X T1 T3:=
 ⟨fun b x h1 h2=>k.box b x (hb b h1) (h.box b x h1 h2),fun l o h1 h2=>k.acc l o (ha l h1) (h.acc l o h1 h2)⟩
theorem Kp.aN{X T T':St}(h:Kp X T T')(b:FN T'.box)(ds:List DV){A:List (Nat×Ob)}(hA:A=T'.acc):Kp X T ⟨(b.n,ds)::T'.box,A⟩:=⟨fun c x hc hx=>by
 have:=h.box c x hc hx;simp only[lk];rw[if_neg (fun e=>by rw[←e,ao b]at this;cases this)];exact this,fun l o h1 h2=>by rw[hA];exact h.acc l o h1 h2⟩
theorem Fu(k0:IntKind)(b ke kb:TK)(S:St)(x:DV)(K:DV→Prop):jS (.int k0) b ke kb S x K=iY (.int k0) b x K:=rfl
theorem CL(e:Nat)(i:Bool)(ke kb:TK)(S:St)(b:ByteArray)(K:DV→Prop):jS .str (.sl e 1 1 i) ke kb S (.v (.string b)) K=(b.size<281474976710656∧kb= .int .u8∧K (.sl 1 false (b.data.toList.map fun c=> .v (.int .u8 c.toNat)))):=rfl
theorem PA(b j:Nat){c:Code}{fr:List DV}{S:St}{Q:Exit→List DV→St→Prop}{ds:List DV}{l s:Nat}{xs:List DV}(hb:lk S.box b=some ds)(hj:ds[j]? =some (.acc l xs.length))(hl:lk S.acc l=some (.arr s xs))
 (h:fV P w0 c fr ⟨Aml.up S.box b (ds.set j (.sl s false xs)),Aml.up S.acc l (.tl s xs)⟩ Q):fV P w0 c fr S Q:=by
 intro g a w h1 h2 h3;obtain⟨ow,o1,o2⟩:=h1.own;obtain⟨q1,q2,q3,us,e,q4,q5,q6⟩:=o1 _ _ (bV hb);have hlt:j<us.toList.length:=by rw[←q5.len];exact(aad.1 hj).1
 have hr:=q5.at_ j _ _ hj (aac hlt)
 obtain⟨o,c',hu⟩:∃o c',us.toList[j]= .slice o xs.length c'∧g.acc l xs.length=some (.slice o xs.length c'):=by
  generalize us.toList[j]=u at hr
  cases hr with
  |acc _ _ o c h=>exact⟨o,c,rfl,h⟩
 obtain⟨g',hle,hR,hrep⟩:=h1.freeze hl hu.2;have hR':=hR.Am (ds':=ds.set j (.sl s false xs)) (b:=b) hb ?_
 ·exact bg (h g' a w hR' (h2.mono hle) (hle.dk h3)) fun _ _ _ k=>k.of_le hle
 ·intro us' e' hh hr2;rw[hh]at q4;cases q4;exact gF hr2 (aac hlt) (by rw[hu.1];exact hrep)
end
attribute [go_sem ↓] Fu CL sR
attribute [go_sem] Pp aM ae Qs Option.map_some
end Aml
namespace Aml
open Go Go.RowKit
def RZ(d:DV)(S:St)(K:DV→St→Prop):Prop:=match d with
 | .sl s true xs=>∀l,jT S.acc l→K (.acc l xs.length) ⟨S.box,(l,.arr s xs)::S.acc⟩
 |_=>False
section
variable {P:Program} {w0:W0}
def Zu(P:Program)(w0:W0)(op:Op)(fr:List DV)(S:St)(K:DV→St→Prop):Prop:=match op with
 | .buildSlice t len parts=>gk S (parts.toList.map fun p=>ev fr p.2) fun ds S=>aW (tk P t) (zD P (dO P t)) len ((parts.toList.map (·.1)).zip ds) fun d=>RZ d S K
 |op=>aH P w0 op fr S K
def O7(P:Program)(w0:W0)(ops:Array Oper)(K:List DV→St→Prop):List Oper→List DV→St→Prop
 |[],fr,S=>K fr S
 |o::rest,fr,S=>bP ops fr o.guard (fun fr=>Zu P w0 o.op fr S fun d S'=>O7 P w0 ops K rest (pt fr o.dst d) S') (fun fr=>O7 P w0 ops K rest (pt fr o.dst ud) S)
section
variable {ops:Array Oper} {fr:List DV} {S:St} {rest:List Oper} {dst:Option Tmp} {op:Op} {ty:TypeId} {pos:String} {aft:Array Edge} {K:List DV→St→Prop} {K2:DV→St→Prop}
@[congr] theorem aaC {fr':List DV} {S':St} (h1:fr=fr') (h2:S=S'):Zu P w0 op fr S K2=Zu P w0 op fr' S' K2:=by cases h1;cases h2;rfl
@[congr] theorem Zs {l:List Oper} {fr':List DV} {S':St} (h1:fr=fr') (h2:S=S'):O7 P w0 ops K l fr S=O7 P w0 ops K l fr' S':=by cases h1;cases h2;rfl
@[congr] theorem ZK {d d':DV} {S':St} (h1:d=d') (h2:S=S'):RZ d S K2=RZ d' S' K2:=by cases h1;cases h2;rfl
end
end
end Aml
namespace Aml
open Go Go.RowKit
section
variable {P:Program} {w0:W0}
end
end Aml
namespace Aml
open Go Go.RowKit
inductive Tr where
 |leaf|head (t:Tr)|snd (t:Tr)|both (t u:Tr)
def UO(P:Program)(w0:W0)(K:List DV→St→Prop):Tr→List Oper→List DV→St→Prop
 | .leaf,[],fr,S=>K fr S
 | .head t,o::r,fr,S=>aH P w0 o.op fr S fun d S'=>UO P w0 K t r (pt fr o.dst d) S'
 | .snd t,p::o::r,fr,S=>aH P w0 o.op fr S fun d S'=>UO P w0 K t (p::r) (pt fr o.dst d) S'
 | .both t u,p::o::r,fr,S=>(aH P w0 p.op fr S fun d S'=>UO P w0 K t (o::r) (pt fr p.dst d) S')∧aH P w0 o.op fr S fun d S'=>UO P w0 K u (p::r) (pt fr o.dst d) S'
 |_,_,_,_=>False
def Md(ops:Array Oper):Nat→Array Bool→Tr→List Nat→Bool
 |_,L,.leaf,[]=>(Region.ready .any ops L).isEmpty
 |f+1,L,.head t,i::r=>!(Region.ready .any ops L).isEmpty&&(Region.ready .any ops L).all (fun x=>x==i)&&Md ops f (L.setIfInBounds i true) t r
 |f+1,L,.snd t,i::j::r=>!(Region.ready .any ops L).isEmpty&&(Region.ready .any ops L).all (fun x=>x==j)&&Md ops f (L.setIfInBounds j true) t (i::r)
 |f+1,L,.both t u,i::j::r=>!(Region.ready .any ops L).isEmpty&&(Region.ready .any ops L).all (fun x=>x==i||x==j)&&Md ops f (L.setIfInBounds i true) t (j::r)&&Md ops f (L.setIfInBounds j true) u (i::r)
 |_,_,_,_=>false
section
variable {P:Program} {w0:W0}
section
variable {K:List DV→St→Prop} {fr:List DV} {S:St} {t u:Tr} {o p:Oper} {r:List Oper} {dst dst2:Option Tmp} {op op2:Op} {ty ty2:TypeId} {pos pos2:String} {aft aft2:Array Edge}
@[congr] theorem aas {fr':List DV} {S':St} (h1:fr=fr') (h2:S=S'):UO P w0 K t r fr S=UO P w0 K t r fr' S':=by cases h1;cases h2;rfl
end
end
end Aml
namespace Aml
open Go Go.RowKit
section
variable {P:Program} {w0:W0}
theorem Le{o:Oper}{ρD:Operand→DV}{S:St}{r:DV}(h:ak P w0 o ρD S fun d S'=>shr S' d fun d' S''=>d'=r∧Sub S S''):ak P w0 o ρD S fun d S'=>d=r∧S'=S:=by
 intro g w ρ h1 h2 hcst;have:=h g w ρ h1 h2 hcst;split at this
 ·obtain⟨g',d,S',a,b,c,e⟩:=this;obtain⟨g2,d2,S2,q1,q2,q3,q4,q5⟩:=mF b c e;exact⟨g2,d2,S,a.trans q1,q2.forget q5.box q5.acc,q3,q4,rfl⟩
 ·obtain⟨g',S',a,b,e⟩:=this;have e:ud=r∧Sub S S':=e;exact⟨g',S,a,b.forget e.2.box e.2.acc,e.1,rfl⟩
 ·refine this.mono fun e w'' k=>k.imp (.refl _) ?_;rintro r' g' d S' b c x y;obtain⟨g2,d2,S2,q1,q2,q3,q4,q5⟩:=mF c x y;exact⟨g2,d2,S,b.trans q1,q2.forget q5.box q5.acc,q3,q4,rfl⟩
 ·refine fun ro=>(this ro).mono fun e w'' k=>k.imp (.refl _) ?_;rintro r' g' d S' b c x y;obtain⟨g2,d2,S2,q1,q2,q3,q4,q5⟩:=mF c x y;exact⟨g2,d2,S,b.trans q1,q2.forget q5.box q5.acc,q3,q4,rfl⟩
 ·exact this
 ·exact this
def tm(k:TK)(z x y:DV)(K:DV→Prop):Prop:=match k,x,y with
 | .sl _ s by' true,.v (.int _ n),.v (.int _ m)=>eW z=true∧0≤n∧n≤m∧m*by'≤140737488355328∧m≤9223372036854775807∧K (.sl s false (List.replicate n.toNat z))
 |_,_,_=>False
def tD(a b ke:TK)(x:DV)(K:DV→Prop):Prop:=match a,b,x with
 | .sl _ _ _ _,.str,.sl s _ xs=>ke= .int .u8∧s=1∧CN xs=true∧K (.v (.string (strOfNums (Mj xs))))
 |a,b,x=>iY a b x K
def AA(P:Program)(w0:W0)(op:Op)(fr:List DV)(S:St)(K:DV→Prop):Prop:=match op with
 | .makeSlice t x y=>tm (tk P t) (zD P (dO P t)) (ev fr x) (ev fr y) K
 | .convert s d x=>tD (tk P s) (tk P d) (tk P (dO P s)) (ev fr x) K
 |op=>aS P w0 op fr S K
def WI:Op→Bool
 | .makeSlice ..=>true
 |op=>pO op
def LZ(P:Program)(w0:W0)(S:St)(ops:Array Oper)(K:List DV→St→Prop):List Oper→List DV→Prop
 |[],fr=>K fr S
 |o::rest,fr=>cF (WI o.op) (bP ops fr o.guard (fun fr=>AA P w0 o.op fr S fun d=>LZ P w0 S ops K rest (pt fr o.dst d)) (fun fr=>LZ P w0 S ops K rest (pt fr o.dst ud))) (rV P w0 ops K (o::rest) fr S)
theorem vx{o:Oper}{fr:List DV}{S:St}{K:DV→Prop}(hs:eo o.op=true)(h:AA P w0 o.op fr S K):∃d,QY P w0 S o fr d∧K d:=by
 cases hop:o.op with
 |makeSlice t x y=>
  rw[hop]at h;simp only[AA,tm]at h;split at h
  ·rename_i e s by' k1 n k2 m hk hx hy;obtain⟨q1,q2,q3,q4,q5,q6⟩:=h;refine⟨_,Le (l9 hop ?_),q6⟩;rw[hk,hx,hy];refine⟨q1,q2,q3,q4,q5,fun l hl=>?_⟩;show shr _ _ _;unfold shr lZ;simp only[lk,if_true,List.length_replicate,true_and];exact⟨List.Sublist.refl _,by show List.Sublist S.acc (up _ _ _);simp only[up,if_true];exact List.sublist_cons_self _ _⟩
  ·exact h.elim
 |convert s d x=>
  rw[hop]at h hs;simp only[AA,tD]at h;split at h
  ·rename_i e c b i s0 f xs hk hd hx;obtain⟨q1,q2,q3,q4⟩:=h;refine⟨_,Da (K:=fun d S'=>d=_∧S'=S) hop ?_,q4⟩;rw[hk,hd,hx];exact⟨q1,rfl,q2,q3,rfl,rfl⟩
  ·exact jA (by rw[hop];exact hs) (by rw[hop];exact h)
 |_=>rw[hop]at h hs;exact jA (by rw[hop];exact hs) (by rw[hop];exact h)
section
variable {ops:Array Oper} {K:List DV→St→Prop} {K2:DV→Prop} {fr:List DV} {S:St} {r:List Oper} {dst:Option Tmp} {op:Op} {ty:TypeId} {pos:String} {aft:Array Edge}
@[congr] theorem abC {fr':List DV} (h1:fr=fr'):LZ P w0 S ops K r fr=LZ P w0 S ops K r fr':=by cases h1;rfl
@[congr] theorem Z8 {fr':List DV} (h1:fr=fr'):AA P w0 op fr S K2=AA P w0 op fr' S K2:=by cases h1;rfl
@[congr] theorem W4 {k k':TK} {z z' x x' y y':DV} (h1:k=k') (h2:z=z') (h3:x=x') (h4:y=y'):tm k z x y K2=tm k' z' x' y' K2:=by cases h1;cases h2;cases h3;cases h4;rfl
@[congr] theorem VZ {k k' q q' ke ke':TK} {x x':DV} (h1:k=k') (h2:q=q') (h3:ke=ke') (h4:x=x'):tD k q ke x K2=tD k' q' ke' x' K2:=by cases h1;cases h2;cases h3;cases h4;rfl
end
end
attribute [go_sem] WI
end Aml
namespace Aml.Z
open Go Go.RowKit
def kX:Op→Nat
 | .load ..=>1
 | .alloc _=>2
 | .call c=>match c.callee with
  | .value _=>1
  | .builtin .len=>0
  | .builtin .cap=>0
  | .builtin .min=>0
  | .builtin .max=>0
  |_=>3
 | .move _=>0
 | .assign _=>0
 | .pick ..=>0
 | .fieldAddr ..=>0
 | .indexAddr ..=>0
 | .index ..=>0
 | .field ..=>0
 | .extract ..=>0
 | .nilCheck _=>0
 | .binOp ..=>0
 | .unOp ..=>0
 | .convert ..=>0
 | .makeInterface ..=>0
 | .makeFunc ..=>0
 | .slice ..=>0
 | .build ..=>0
 | .buildSlice ..=>0
 | .makeSlice ..=>0
 |_=>3
def Fr(S:St)(B:List (Nat×List DV)):Prop:=∀x,x∈B→jT S.box x.1
def dV(P:Program)(w0:W0)(o:Oper)(fr:List DV)(S:St)(K:List DV→St→Prop):Prop:=
 (kX o.op=0∧∃d,(∀S',QY P w0 S' o fr d)∧K (pt fr o.dst d) S)∨
 (kX o.op=1∧∃d,(∀B,Fr S B→QY P w0 ⟨B++S.box,S.acc⟩ o fr d)∧K (pt fr o.dst d) S)∨
 (kX o.op=2∧∃t,o.op= .alloc t∧eW (zD P t)=true∧∀b,jT S.box b→K (pt fr o.dst (.v (.pointer (some ⟨b,0,none⟩)))) ⟨(b,cd (zD P t))::S.box,S.acc⟩)∨
 (kX o.op=3∧ak P w0 o (ev fr) S fun d S'=>K (pt fr o.dst d) S')
def eB(P:Program)(w0:W0)(ops:Array Oper)(o:Oper)(fr:List DV)(S:St)(K:List DV→St→Prop):Prop:=
 (cQ ops fr o.guard=some true∧dV P w0 o fr S K)∨(cQ ops fr o.guard=some false∧K (pt fr o.dst ud) S)
def qU(a b:Nat):Bool:=a==0||(a==1&&decide (b<3))
section
variable {P:Program} {w0:W0} {ops:Array Oper} {md:Region.Mode}
theorem ja{o:Oper}{fr:List DV}{S:St}{K K':List DV→St→Prop}(h:∀fr S,K fr S→K' fr S)(b:dV P w0 o fr S K):dV P w0 o fr S K':=by
 rcases b with⟨c,d,q,k⟩|⟨c,d,q,k⟩|⟨c,t,ht,hz,k⟩|⟨c,q⟩
 ·exact .inl ⟨c,d,q,h _ _ k⟩
 ·exact .inr (.inl ⟨c,d,q,h _ _ k⟩)
 ·exact .inr (.inr (.inl ⟨c,t,ht,hz,fun b hb=>h _ _ (k b hb)⟩))
 ·exact .inr (.inr (.inr ⟨c,aD (fun d S hk=>h _ _ hk) q⟩))
theorem gG{o:Oper}{fr:List DV}{S:St}{K K':List DV→St→Prop}(h:∀fr S,K fr S→K' fr S)(b:eB P w0 ops o fr S K):eB P w0 ops o fr S K':=
 b.imp (fun⟨a,b⟩=>⟨a,ja h b⟩) fun⟨a,b⟩=>⟨a,h _ _ b⟩
theorem qG{o:Oper}{fr:List DV}{S:St}{K:List DV→St→Prop}{dst:Option Tmp}{e:DV}(h1:∀t,dst=some t→t∉o.looksAt ops)(h2:∀t,dst=some t→o.dst≠some t):
 dV P w0 o (pt fr dst e) S K↔dV P w0 o fr S fun fr' S'=>K (pt fr' dst e) S':=by
 have hq:∀S d,QY P w0 S o (pt fr dst e) d↔QY P w0 S o fr d:=fun S d=>
  ⟨aL (fun x hx=>ec (ops:=ops) h1 x hx),aL (fun x hx=>(ec (ops:=ops) h1 x hx).symm)⟩
 have hc:∀d,pt (pt fr dst e) o.dst d=pt (pt fr o.dst d) dst e:=fun d=>jl fr e d h2
 have hy:∀K,ak P w0 o (ev (pt fr dst e)) S K↔ak P w0 o (ev fr) S K:=fun K=>
  ⟨aL (fun x hx=>ec (ops:=ops) h1 x hx),aL (fun x hx=>(ec (ops:=ops) h1 x hx).symm)⟩
 unfold dV;simp only[hq,hc,hy]
theorem jb{o:Oper}{fr:List DV}{S:St}{K:List DV→St→Prop}{dst:Option Tmp}{e:DV}(h1:∀t,dst=some t→t∉o.looksAt ops)(h2:∀t,dst=some t→o.dst≠some t):
 eB P w0 ops o (pt fr dst e) S K↔eB P w0 ops o fr S fun fr' S'=>K (pt fr' dst e) S':=by
 unfold eB;rw[gQ h1,qG h1 h2,jl fr e ud h2]
theorem lU{o:Oper}{fr:List DV}{S:St}{K K':List DV→St→Prop}(h:∀e S,K (pt fr o.dst e) S→K' (pt fr o.dst e) S)(b:dV P w0 o fr S K):dV P w0 o fr S K':=by
 rcases b with⟨c,d,q,k⟩|⟨c,d,q,k⟩|⟨c,t,ht,hz,k⟩|⟨c,q⟩
 ·exact .inl ⟨c,d,q,h _ _ k⟩
 ·exact .inr (.inl ⟨c,d,q,h _ _ k⟩)
 ·exact .inr (.inr (.inl ⟨c,t,ht,hz,fun b hb=>h _ _ (k b hb)⟩))
 ·exact .inr (.inr (.inr ⟨c,aD (fun d S hk=>h _ _ hk) q⟩))
theorem je{o:Oper}{fr:List DV}{S:St}{K K':List DV→St→Prop}(h:∀e S,K (pt fr o.dst e) S→K' (pt fr o.dst e) S)(b:eB P w0 ops o fr S K):eB P w0 ops o fr S K':=
 b.imp (fun⟨a,b⟩=>⟨a,lU h b⟩) fun⟨a,b⟩=>⟨a,h _ _ b⟩
theorem qx{x y:Oper}(hap:x.apart ops y=true)(hk:qU (kX x.op) (kX y.op)=true){fr:List DV}{S:St}{K:List DV→St→Prop}(h:eB P w0 ops x fr S fun fr S=>eB P w0 ops y fr S K):
 eB P w0 ops y fr S fun fr S=>eB P w0 ops x fr S K:=by
 obtain⟨b1,b2,b3⟩:=Oper.apart_spec hap;have hw:∀e,cQ ops (pt fr y.dst e) x.guard=cQ ops fr x.guard:=fun e=>gQ b3;have hq:∀{S d e},QY P w0 S x fr d→QY P w0 S x (pt fr y.dst e) d:=fun{S d e} q=>aL (fun z hz=>(ec (ops:=ops) b3 z hz).symm) q;rcases h with⟨hg,hb⟩|⟨hg,hb⟩
 ·rcases hb with⟨c,d,q,k⟩|⟨c,d,q,k⟩|⟨c, -⟩|⟨c, -⟩
  ·rw[jb b1 b2]at k;exact je (fun e S' hk=> .inl ⟨by rw[hw];exact hg,.inl ⟨c,d,fun S''=>hq (q S''),hk⟩⟩) k
  ·rw[jb b1 b2]at k;rcases k with⟨g2,k⟩|⟨g2,k⟩
   ·rcases k with⟨c2,d2,q2,k⟩|⟨c2,d2,q2,k⟩|⟨c2,t,ht,hz,k⟩|⟨c2, -⟩
    ·exact .inl ⟨g2,.inl ⟨c2,d2,q2,.inl ⟨by rw[hw];exact hg,.inr (.inl ⟨c,d,fun B hB=>hq (q B hB),k⟩)⟩⟩⟩
    ·exact .inl ⟨g2,.inr (.inl ⟨c2,d2,q2,.inl ⟨by rw[hw];exact hg,.inr (.inl ⟨c,d,fun B hB=>hq (q B hB),k⟩)⟩⟩)⟩
    ·refine .inl ⟨g2,.inr (.inr (.inl ⟨c2,t,ht,hz,fun b hb=> .inl ⟨by rw[hw];exact hg,.inr (.inl ⟨c,d,fun B hB=>hq ?_,k b hb⟩)⟩⟩))⟩
     have:=q (B++[(b,cd (zD P t))]) fun z hz'=>by
      rcases aaD.1 hz' with h|h
      ·exact(hB z h).2.2
      ·simp only[aau]at h;subst h;exact hb
     rw[acu]at this;exact this
    ·rw[c,c2]at hk;exact absurd hk (by decide)
   ·exact .inr ⟨g2,.inl ⟨by rw[hw];exact hg,.inr (.inl ⟨c,d,fun B hB=>hq (q B hB),k⟩)⟩⟩
  ·rw[c]at hk;simp[qU]at hk
  ·rw[c]at hk;simp[qU]at hk
 ·rw[jb b1 b2]at hb;exact je (fun e S' hk=> .inr ⟨by rw[hw];exact hg,hk⟩) hb
def eP(P:Program)(w0:W0)(ops:Array Oper)(i:Nat)(fr:List DV)(S:St)(K:List DV→St→Prop):Prop:=match ops[i]? with
 |none=>K fr S
 |some o=>eB P w0 ops o fr S K
def FC(P:Program)(w0:W0)(md:Region.Mode)(ops:Array Oper)(K:List DV→St→Prop):Nat→Array Bool→List DV→St→Prop
 |0,listed,fr,S=>Region.ready md ops listed=[]∧K fr S
 |fuel+1,listed,fr,S=>(Region.ready md ops listed=[]→K fr S)∧∀i∈Region.ready md ops listed,eP P w0 ops i fr S (FC P w0 md ops K fuel (listed.setIfInBounds i true))
theorem pI{K:List DV→St→Prop}{i:Nat}{oi:Oper}(hi:ops[i]? =some oi):
 ∀(fuel:Nat) (listed:Array Bool) (fr:List DV) (S:St),
  (∀j oj,ops[j]? =some oj→j≠i→listed.getD j true=false→(∀e∈oj.after,Region.binds md e=true→e.on≠i)→oi.apart ops oj=true∧qU (kX oi.op) (kX oj.op)=true)→
  (∀l:List Nat,l.Nodup→(∀k,k∈l→listed.getD k true=false)→l.length≤fuel+1)→
  i∈Region.ready md ops listed→eB P w0 ops oi fr S (FC P w0 md ops K fuel (listed.setIfInBounds i true))→FC P w0 md ops K (fuel+1) listed fr S:=by
 intro fuel
 induction fuel with
 |zero=>
  intro listed fr S _ hcnt hr H;refine⟨fun h=>(by rw[h]at hr;cases hr),fun j hj=>?_⟩;by_cases hji:j=i
  ·subst hji;unfold eP;simp only[hi];exact H
  ·exfalso
   have:=hcnt [i,j] (by simp[abx hji]) fun k hk=>by
    simp only[aaJ,aca,or_false]at hk;rcases hk with rfl|rfl
    ·exact(mem_ready.1 hr).1
    ·exact(mem_ready.1 hj).1
   simp at this
 |succ fuel ih=>
  intro listed fr S hfree hcnt hr H;refine⟨fun h=>(by rw[h]at hr;cases hr),fun j hj=>?_⟩;by_cases hji:j=i
  ·subst hji;unfold eP;simp only[hi];exact H
  ·obtain⟨hjun,oj,hoj,hall⟩:=mem_ready.1 hj
   have hnot:∀e∈oj.after,Region.binds md e=true→e.on≠i:=fun e he hb heq=>by
    have h1:=hall e he hb;have h0:=(mem_ready.1 hr).1;rw[heq]at h1;rcases abz i listed.size with h'|h'
    ·simp[h']at h0 h1;rw[h0]at h1;cases h1
    ·simp[abG h']at h1
   have h1:eB P w0 ops oi fr S fun fr S=>eB P w0 ops oj fr S (FC P w0 md ops K fuel ((listed.setIfInBounds i true).setIfInBounds j true)):=
    gG (fun fr S h=>by
     have:=h.2 j (ready_mono hj hji);unfold eP at this;simp only[hoj]at this;exact this) H
   have hc:=hfree j oj hoj hji hjun hnot;have h2:=qx hc.1 hc.2 h1
   have hfree':∀k ok,ops[k]? =some ok→k≠i→(listed.setIfInBounds j true).getD k true=false→
    (∀e∈ok.after,Region.binds md e=true→e.on≠i)→oi.apart ops ok=true∧qU (kX oi.op) (kX ok.op)=true:=fun k ok hk hki hun hno=>by
    refine hfree k ok hk hki ?_ hno;by_cases hjk:j=k
    ·subst hjk;exact hjun
    ·rw[getD_set_ne true hjk]at hun;exact hun
   unfold eP;simp only[hoj]
   have hcnt':∀l:List Nat,l.Nodup→(∀k,k∈l→(listed.setIfInBounds j true).getD k true=false)→l.length≤fuel+1:=by
    intro l hn hl
    have hjs:j<listed.size:=by
     rcases abz j listed.size with h|h
     ·exact h
     ·rw[aaI,abG h]at hjun;cases hjun
    have hjl:j∉l:=fun hj=>by
     have:=hl j hj;rw[aaI,aa9]at this;simp[hjs]at this
    have:=hcnt (j::l) (aaV.2 ⟨hjl,hn⟩) fun k hk=>by
     rcases aaJ.1 hk with rfl|hk
     ·exact hjun
     ·have:=hl k hk;rw[getD_set_ne true (show j≠k from fun e=>hjl (e▸hk))]at this;exact this
    simp at this;omega
   refine gG (fun fr S h=>ih (listed.setIfInBounds j true) fr S hfree' hcnt' (ready_mono hr (abx hji)) ?_) h2;rw[adI _ _ hji];exact h
def yx(md:Region.Mode)(ops:Array Oper)(listed:Array Bool)(i:Nat):Bool:=(List.range ops.size).all fun j=>match ops[i]?,ops[j]? with
 |some oi,some oj=>j==i||listed.getD j true||oj.after.any (fun e=>Region.binds md e&&e.on==i)||(oi.apart ops oj&&qU (kX oi.op) (kX oj.op))
 |_,_=>false
def qw(md:Region.Mode)(ops:Array Oper):Nat→Nat→Array Bool→Bool
 |0,_,listed=>(Region.ready md ops listed).isEmpty
 |n+1,k,listed=>(Region.ready md ops listed).contains k&&yx md ops listed k&&qw md ops n (k+1) (listed.setIfInBounds k true)
theorem oe{listed:Array Bool}{i:Nat}{oi:Oper}(hi:ops[i]? =some oi)(h:yx md ops listed i=true):∀j oj,ops[j]? =some oj→j≠i→listed.getD j true=false→(∀e∈oj.after,Region.binds md e=true→e.on≠i)→oi.apart ops oj=true∧qU (kX oi.op) (kX oj.op)=true:=by
 intro j oj hj hji hun hno;have hlt:j<ops.size:=(aaq.1 hj).1;have:=aa8.1 h j (ace.2 hlt);simp only[hi,hj,hun,Bool.or_false,acx,beq_iff_eq,aak]at this;rcases this with(h|h)|h
 ·exact absurd h hji
 ·exfalso
  obtain⟨e,he,h⟩:=adR.1 h;simp only[aak,beq_iff_eq]at h;exact hno e he h.1 h.2
 ·exact h
def LX(P:Program)(w0:W0)(ops:Array Oper)(K:List DV→St→Prop):List Oper→List DV→St→Prop
 |[],fr,S=>K fr S
 |o::rest,fr,S=>eB P w0 ops o fr S (LX P w0 ops K rest)
theorem o9{K:List DV→St→Prop}:∀(l:List Oper) (k:Nat) (listed:Array Bool) (fr:List DV) (S:St),(∀j,l[j]? =ops[k+j]?)→
 (∀l':List Nat,l'.Nodup→(∀k,k∈l'→listed.getD k true=false)→l'.length≤l.length)→
 qw md ops l.length k listed=true→LX P w0 ops K l fr S→FC P w0 md ops K l.length listed fr S
 |[],_,_,_,_,_,_,hB,h=>⟨by simpa[qw]using hB,h⟩
 |o::l,k,listed,fr,S,hl,hcnt,hB,h=>by
  have h0:ops[k]? =some o:=by simpa using(hl 0).symm
  simp only[aaW,qw,aak]at hB;obtain⟨⟨hr,hf⟩,hB'⟩:=hB;have hr':k∈Region.ready md ops listed:=by simpa using hr
  have hun:=(mem_ready.1 hr').1;refine pI h0 l.length listed fr S (oe h0 hf) (by simpa using hcnt) hr' ?_;refine gG (fun fr S h=>o9 l (k+1) _ fr S (fun j=>by have:=hl (j+1);simpa[acw,ac2 1 j]using this) ?_ hB' h) h;intro l' hn hl'
  have hks:k<listed.size:=by
   rcases abz k listed.size with h|h
   ·exact h
   ·rw[aaI,abG h]at hun;cases hun
  have hkl:k∉l':=fun hk=>by
   have:=hl' k hk;rw[aaI,aa9]at this;simp[hks]at this
  have:=hcnt (k::l') (aaV.2 ⟨hkl,hn⟩) fun m hm=>by
   rcases aaJ.1 hm with rfl|hm
   ·exact hun
   ·have:=hl' m hm;rw[getD_set_ne true (show k≠m from fun e=>hkl (e▸hm))]at this;exact this
  simp at this;omega
theorem kU{o:Oper}{fr:List DV}{S:St}{K:List DV→St→Prop}(h:dV P w0 o fr S K):ak P w0 o (ev fr) S fun d S'=>K (pt fr o.dst d) S':=by
 rcases h with⟨c,d,q,k⟩|⟨c,d,q,k⟩|⟨c,t,ht,hz,k⟩|⟨c,q⟩
 ·exact aD (fun d' S' h=>by rw[h.1,h.2];exact k) (q S)
 ·have:=q [] (fun x hx=>by cases hx);exact aD (fun d' S' h=>by rw[h.1,h.2];exact k) this
 ·exact rN ht ⟨hz,k⟩
 ·exact q
theorem dz{ro:Option Nat}{g0:Gh}{Q:Exit→List DV→St→Prop}:∀(fuel:Nat) (listed:Array Bool) (fr:List DV) (S:St) (g:Gh) (a:Act) (w:World),g0.le g→Rel w0 g S w→af g fr a.tmps.toList→Dk w0 g a w→
 FC P w0 md ops (fun fr S=>Q .normal fr S) fuel listed fr S→wpAnyIn (fz ro) 0 P md ops (Good w0 g0 Q) fuel listed a w
 |0,listed,fr,S,g,a,w,k,h1,h2,h3,h=>⟨h.1,k.kd h3,g,fr,S,k,h1,h2,h.2⟩
 |fuel+1,listed,fr,S,g,a,w,k,h1,h2,h3,h=>by
  refine⟨fun h0=>⟨k.kd h3,g,fr,S,k,h1,h2,h.1 h0⟩,fun i hi=>?_⟩;have hq:=h.2 i hi;unfold eP at hq;unfold wpOpIn;split
  ·rename_i ho;simp only[ho]at hq;exact dz fuel _ fr S g a w k h1 h2 h3 hq
  ·rename_i o ho;simp only[ho]at hq;rcases hq with⟨hw,hb⟩|⟨hw,hk⟩
   ·have hw':=cq (o:=o) h2 hw;rw[if_pos hw'];refine de (kU hb) h1 (fun x _=>eA h2 x) h3 k h2 fun g' d' u S' w' k1 k2 k3 k4 k5=>?_;exact dz fuel _ _ _ g' _ _ (k.trans k1) k2 (bu (h2.mono k1) _ k3) (k1.dk k5) k4
   ·have hw':=cq (o:=o) h2 hw;rw[if_neg (by simp[hw'])];exact⟨fun _ _=>trivial,dz fuel _ _ _ g _ _ k h1 (bu h2 _ (gu g)) (h3.cC (put_defers _ _ _) fun _ _ h _=>h) hk⟩
theorem qI{id:Nat}{l:List Oper}{fr:List DV}{S:St}{Q:Exit→List DV→St→Prop}(hm:P.follows .mixedOrders=true)(hB:qw .any l.toArray l.length 0 (Array.replicate l.length false)=true)(h:LX P w0 l.toArray (fun fr S=>Q .normal fr S) l fr S):fV P w0 (.region id l.toArray true) fr S Q:=by
 intro g a w h1 h2 h3;refine cD hm fun ro=>?_;have hR:Rel w0 g S {w with drawn:=w.drawn+1}:=h1.grow (eK w)
 have hcnt:∀l':List Nat,l'.Nodup→(∀k,k∈l'→(Array.replicate l.length false).getD k true=false)→l'.length≤l.length:=by
  intro l' hn hl
  have hsub:∀k,k∈l'→k∈List.range l.length:=fun k hk=>by
   have:=hl k hk;rw[ace];rcases abz k l.length with h|h
   ·exact h
   ·rw[aaI,abG (by simpa using h)]at this;cases this
  have:=hn.length_le_of_subset (l₂:=List.range l.length) hsub;simpa using this
 have:=o9 (P:=P) (w0:=w0) (md:= .any) (ops:=l.toArray) l 0 (Array.replicate l.length false) fr S (by simp) hcnt hB h;have:=dz (ro:=ro) (g0:=g) (Q:=Q) _ _ fr S g a _ (.refl g) hR h2 (h3.cC rfl fun _ _ h _=>h) this;simpa using this
theorem pj{op:Op}(hk:kX op=0){fr:List DV}{S:St}{K:DV→Prop}(h:aS P w0 op fr S K):∃d,(∀S',aS P w0 op fr S' (·=d))∧K d:=by
 cases op with
 |move x=>exact⟨_,fun _=>rfl,h⟩
 |assign x=>exact⟨_,fun _=>rfl,h⟩
 |pick c a b=>obtain⟨d,q1,q2⟩:=sL h;exact⟨d,fun _=>q1,q2⟩
 |fieldAddr t x f=>obtain⟨d,q1,q2⟩:=pQ h;exact⟨d,fun _=>q1,q2⟩
 |indexAddr t x i=>obtain⟨d,q1,q2⟩:=DQ h;exact⟨d,fun _=>q1,q2⟩
 |index t x i=>obtain⟨d,q1,q2⟩:=pN h;exact⟨d,fun _=>q1,q2⟩
 |field t x f=>obtain⟨d,q1,q2⟩:=oq h;exact⟨d,fun _=>q1,q2⟩
 |extract x i=>obtain⟨d,q1,q2⟩:=mD h;exact⟨d,fun _=>q1,q2⟩
 |nilCheck x=>exact⟨_,fun _=>⟨h.1,rfl⟩,h.2⟩
 |binOp b t x y t'=>obtain⟨d,q1,q2⟩:=tu h.2;exact⟨d,fun _=>⟨h.1,q1⟩,q2⟩
 |unOp b t x=>obtain⟨d,q1,q2⟩:=C2 h;exact⟨d,fun _=>q1,q2⟩
 |convert s d x=>obtain⟨d,q1,q2⟩:=sr h;exact⟨d,fun _=>q1,q2⟩
 |makeInterface t x=>exact⟨_,fun _=>⟨h.1,h.2.1,rfl⟩,h.2.2⟩
 |makeFunc fn a b=>obtain⟨d,q1,q2⟩:=tK h;exact⟨d,fun _=>q1,q2⟩
 |slice t x lo hi mx=>obtain⟨d,q1,q2⟩:=qf h.2.2;exact⟨d,fun _=>⟨h.1,h.2.1,q1⟩,q2⟩
 |build t parts=>obtain⟨d,q1,q2⟩:=pS h.2;exact⟨d,fun _=>⟨h.1,q1⟩,q2⟩
 |buildSlice t len parts=>obtain⟨d,q1,q2⟩:=iW h.2;exact⟨d,fun _=>⟨h.1,q1⟩,q2⟩
 |call c=>
  obtain⟨callee,args,ts⟩:=c;simp only[aS]at h ⊢;split at h
  ·split at h
   ·obtain⟨d,q1,q2⟩:=wE h;exact⟨d,fun _=>by simpa using q1,q2⟩
   ·exact h.elim
  ·split at h
   ·obtain⟨d,q1,q2⟩:=xH h;exact⟨d,fun _=>by simpa using q1,q2⟩
   ·exact h.elim
  ·split at h
   ·obtain⟨d,q1,q2⟩:=xC h;exact⟨d,fun _=>by simpa using q1,q2⟩
   ·exact h.elim
  ·split at h
   ·obtain⟨d,q1,q2⟩:=wI h;exact⟨d,fun _=>by simpa using q1,q2⟩
   ·exact h.elim
  ·cases hk
  ·cases hk
  ·exact h.elim
 |_=>first|exact h.elim|cases hk
theorem vK{op:Op}(hk:kX op=0){fr:List DV}{S:St}{K:DV→Prop}(h:AA P w0 op fr S K):∃d,(∀S',AA P w0 op fr S' (·=d))∧K d:=by
 cases op with
 |makeSlice t x y=>
  simp only[AA,tm]at h ⊢;split at h
  ·obtain⟨q1,q2,q3,q4,q5,q6⟩:=h;exact⟨_,fun _=>⟨q1,q2,q3,q4,q5,rfl⟩,q6⟩
  ·exact h.elim
 |convert s d x=>
  simp only[AA]at h ⊢;unfold tD at h ⊢;split at h
  ·obtain⟨q1,q2,q3,q4⟩:=h;exact⟨_,fun _=>⟨q1,q2,q3,rfl⟩,q4⟩
  ·obtain⟨dd,p1,p2⟩:=pj (P:=P) (w0:=w0) (op:= .convert s d x) (fr:=fr) (S:=S) (K:=K) rfl h;exact⟨dd,p1,p2⟩
 |_=>exact pj (P:=P) (w0:=w0) (S:=S) (fr:=fr) hk h
theorem B2{S:St}{B:List (Nat×List DV)}(hB:Fr S B){b:Nat}{ds:List DV}(h:lk S.box b=some ds):lk (B++S.box) b=some ds:=by
 induction B with
 |nil=>exact h
 |cons x B ih=>
  have h1:=hB x aaQ;have hne:¬x.1=b:=fun e=>by rw[e]at h1;rw[og h1]at h;cases h
  obtain⟨k,y⟩:=x;show lk ((k,y)::(B++S.box)) b=_;rw[oS hne];exact ih fun z hz=>hB z (aat _ hz)
theorem ug{k:TK}{S:St}{x:DV}{K:DV→Prop}{B:List (Nat×List DV)}(hB:Fr S B)(h:bE k S x K):bE k ⟨B++S.box,S.acc⟩ x K:=by
 unfold bE at*;split at h
 ·split at h
  ·rename_i ds hb;simp only[B2 hB hb];exact h
  ·exact h.elim
 ·exact h
 ·exact h
 ·exact h.elim
end
def QX(P:Program)(w0:W0)(f:FuncId)(ds:List DV)(S:St)[K:Cn (DV→Prop)]:Prop:=∃d,(∀B,Fr S B→ab P w0 f ds ⟨B++S.box,S.acc⟩ fun d' S'=>d'=d∧S'=⟨B++S.box,S.acc⟩)∧K.k d
def gx(P:Program)(w0:W0)(cal:DV)(ds:List DV)(S:St)(K:DV→Prop):Prop:=match cal with
 | .v (.func (.func f) a cap)=>a.size=0∧okF P f=true∧cap.toList.all (fun u=>u.oneCell')=true∧ds.all fk=true∧@QX P w0 f (ds++cap.toList.map .v) S ⟨K⟩
 |_=>False
def wG(P:Program)(w0:W0)(op:Op)(fr:List DV)(S:St)(K:DV→St→Prop):Prop:=match op with
 | .load t x=>bE (tk P t) S (ev fr x) (K · S)
 | .alloc t=>eW (zD P t)=true∧GZ S (zD P t) K
 | .call ⟨.value cal,args,_⟩=>gx P w0 (ev fr cal) (args.toList.map (ev fr)) S (K · S)
 |op=>cF (kX op==0) (AA P w0 op fr S (K · S)) (aH P w0 op fr S K)
def nT(P:Program)(w0:W0)(ops:Array Oper)(K:List DV→St→Prop):List Oper→List DV→St→Prop
 |[],fr,S=>K fr S
 |o::rest,fr,S=>bP ops fr o.guard (fun fr=>wG P w0 o.op fr S fun d S'=>nT P w0 ops K rest (pt fr o.dst d) S') (fun fr=>nT P w0 ops K rest (pt fr o.dst ud) S)
section
variable {P:Program} {w0:W0} {ops:Array Oper} {md:Region.Mode}
theorem qt{o:Oper}{fr:List DV}{S:St}{K:List DV→St→Prop}(hs:eo o.op=true)(h:wG P w0 o.op fr S fun d S'=>K (pt fr o.dst d) S'):dV P w0 o fr S K:=by
 have gen:∀(h:cF (kX o.op==0) (AA P w0 o.op fr S fun d=>K (pt fr o.dst d) S) (aH P w0 o.op fr S fun d S'=>K (pt fr o.dst d) S')),kX o.op=0∨kX o.op=3→dV P w0 o fr S K:=by
  intro h hk;rcases hk with hk|hk
  ·rw[hk]at h;obtain⟨d,q1,q2⟩:=vK hk (show AA P w0 o.op fr S fun d=>K (pt fr o.dst d) S from h)
   exact .inl ⟨hk,d,fun S'=>by
    obtain⟨d',k1,k2⟩:=vx hs (q1 S');subst k2;exact k1,q2⟩
  ·rw[hk]at h;exact .inr (.inr (.inr ⟨hk,bH hs h⟩))
 cases hop:o.op with
 |load t x=>
  rw[hop]at h hs;obtain⟨d,q1,q2⟩:=oT (show bE (tk P t) S (ev fr x) (fun d=>K (pt fr o.dst d) S)from h);refine .inr (.inl ⟨by rw[hop];rfl,d,fun B hB=>?_,q2⟩);exact bH (by rw[hop];exact hs) (by rw[hop];simpa[aH]using ug hB q1)
 |alloc t=>
  rw[hop]at h;exact .inr (.inr (.inl ⟨by rw[hop];rfl,t,hop,h.1,h.2⟩))
 |call c=>
  obtain⟨callee,args,ts⟩:=c
  cases callee with
  |value cal=>
   rw[hop]at h hs;simp only[wG,gx]at h;split at h
   ·rename_i f a cap hcal;obtain⟨h1,h2,h3,h4,d,h5,h6⟩:=h;refine .inr (.inl ⟨by rw[hop];rfl,d,fun B hB=>?_,h6⟩);exact bH (by rw[hop];exact hs) (by rw[hop];simp only[aH,hcal];exact pg h1 h3 (by rw[h2,Kv];exact lT h4 (h5 B hB)))
   ·exact h.elim
  |builtin b=>
   refine gen (by rw[hop]at h ⊢;exact h) ?_;rw[hop];cases b <;>first|exact .inl rfl|exact .inr rfl
  |invoke r m=>
   refine gen (by rw[hop]at h ⊢;exact h) ?_;rw[hop];exact .inr rfl
 |_=>refine gen (by rw[hop]at h ⊢;exact h) ?_;rw[hop];first|exact .inl rfl|exact .inr rfl
theorem eR{K:List DV→St→Prop}:∀(l:List Oper) {fr:List DV} {S:St},l.all (fun o=>eo o.op)=true→nT P w0 ops K l fr S→LX P w0 ops K l fr S
 |[],fr,S,_,h=>h
 |o::rest,fr,S,hs,h=>by
  simp only[ado,aak]at hs;rcases jw h with⟨hw,ha⟩|⟨hw,hb⟩
  ·exact .inl ⟨hw,ja (fun fr S h=>eR rest hs.2 h) (qt hs.1 ha)⟩
  ·exact .inr ⟨hw,eR rest hs.2 hb⟩
def WS(l:List Oper):Bool:=l.all (fun o=>eo o.op)&&qw .any l.toArray l.length 0 (Array.replicate l.length false)
theorem VK{id:Nat}{l:List Oper}{fr:List DV}{S:St}{Q:Exit→List DV→St→Prop}(hm:P.follows .mixedOrders=true)(hB:WS l=true)(h:nT P w0 l.toArray (fun fr S=>iu fr fun fr=>Q .normal fr S) l fr S):fV P w0 (.region id l.toArray true) fr S Q:=by
 simp only[WS,aak]at hB;exact qI hm hB.2 (eR l hB.1 h)
theorem Xj{f:FuncId}{args args':List DV}{S:St}{K:DV→Prop}{r:DV}(h:∀B,Fr S B→ab P w0 f args' ⟨B++S.box,S.acc⟩ (fun d S'=>d=r∧S'=⟨B++S.box,S.acc⟩))(hk:K r)(ha:ej args args':=by exact ej.refl _):@QX P w0 f args S ⟨K⟩:=
 ⟨r,fun B hB=>jY (h B hB) ha ⟨rfl,rfl⟩,hk⟩
end
end Aml.Z
namespace Aml.Z
open Go Go.RowKit
section
variable {P:Program} {w0:W0} {ops:Array Oper} {fr:List DV} {S:St} {rest:List Oper} {dst:Option Tmp} {op:Op} {ty:TypeId} {pos:String} {aft:Array Edge}
section
variable {K:List DV→St→Prop}
theorem Li:nT P w0 ops K [] fr S=K fr S:=rfl
theorem Bu:nT P w0 ops K (⟨dst,op,ty,pos,aft,none⟩::rest) fr S=wG P w0 op fr S fun d S'=>nT P w0 ops K rest (pt fr dst d) S':=rfl
end
variable {K:DV→St→Prop}
theorem CO(t:TypeId)(x:Operand):wG P w0 (.load t x) fr S K=bE (tk P t) S (ev fr x) (K · S):=rfl
theorem B8(cal:Operand)(a:List Operand)(ts:Array TypeId):wG P w0 (.call ⟨.value cal,a.toArray,ts⟩) fr S K=gx P w0 (ev fr cal) (a.map (ev fr)) S (K · S):=rfl
theorem w9(f:FuncId)(a cap:Array Value)(ds:List DV)(K:DV→Prop):gx P w0 (.v (.func (.func f) a cap)) ds S K=(a.size=0∧okF P f=true∧cap.toList.all (fun u=>u.oneCell')=true∧ds.all fk=true∧@QX P w0 f (ds++cap.toList.map .v) S ⟨K⟩):=rfl
@[congr] theorem Hk {cal cal':DV} {ds ds':List DV} {S':St} {K:DV→Prop} (h1:cal=cal') (h2:ds=ds') (h3:S=S'):gx P w0 cal ds S K=gx P w0 cal' ds' S' K:=by cases h1;cases h2;cases h3;rfl
theorem Bn(x:Operand):wG P w0 (.move x) fr S K=aS P w0 (.move x) fr S (K · S):=rfl
theorem tE(x:Operand):wG P w0 (.assign x) fr S K=aS P w0 (.assign x) fr S (K · S):=rfl
theorem mz(t:TypeId)(x:Operand)(f:Nat):wG P w0 (.fieldAddr t x f) fr S K=aS P w0 (.fieldAddr t x f) fr S (K · S):=rfl
end
attribute [go_sem ↓] Li Bu CO B8 w9 Bn tE mz
end Aml.Z
namespace Aml
open Go Go.RowKit
section
variable {P:Program} {w0:W0}
theorem gV{f:FuncId}{args:List DV}{S:St}{K:DV→St→Prop}{l:Nat}{kk:KK}{es:List (Value×DV×Nat)}{clk:Nat}(hl:lk S.acc l=some (.xo (.mp kk es clk)))(h:fc kk es clk→ab P w0 f args S K):ab P w0 f args S K:=by
 intro g vs w h1 h2;obtain⟨b,o,q1,q2,es',q3,q4,q5⟩:=h1.AF hl;exact h q5 g vs w h1 h2
end
theorem yD(k k':Value)(d:DV):∀es:List (Value×DV×Nat),((es.map (qC k d)).find? fun e=>@decide (e.1=k') (Classical.propDecidable _))=(es.find? fun e=>@decide (e.1=k') (Classical.propDecidable _)).map (qC k d):=by
 intro es;rw[List.find?_map];congr 2;funext e;simp only[Function.comp];rcases ac3 (e.1=k)with h|h
 ·rw[xc h]
 ·rw[xD h]
theorem bD(es:List (Value×DV×Nat))(clk:Nat)(k:Value)(d:DV):aT (ep es clk k d) k=some d:=by
 unfold ep
 cases hg:aT es k with
 |none=>
  simp only[adP,abQ,if_false];unfold aT at hg ⊢;rw[adX];rw[Option.map_eq_none_iff]at hg;rw[hg];simp
 |some x=>
  simp only[adQ,if_true];unfold aT at hg ⊢;rw[yD];obtain⟨y,hy,_⟩:=aay.1 hg;rw[hy];have:=List.find?_some hy;simp only[decide_eq_true_eq]at this;simp[xc this]
theorem cM(es:List (Value×DV×Nat))(clk:Nat){k k':Value}(e:k'≠k)(d:DV):aT (ep es clk k d) k'=aT es k':=by
 unfold ep
 cases hg:aT es k with
 |none=>
  simp only[adP,abQ,if_false];unfold aT;rw[adX]
  have:List.find? (fun e=>@decide (e.1=k') (Classical.propDecidable _)) [(k,d,clk)]=none:=by
   rw[adg];intro x hx;rw[aau]at hx;subst hx;simp;exact fun h=>e h.symm
  rw[this,Option.or_none]
 |some x=>
  simp only[adQ,if_true];unfold aT;rw[yD]
  cases hf:es.find? fun e=>@decide (e.1=k') (Classical.propDecidable _)with
  |none=>rfl
  |some y=>
   have:=List.find?_some hf;simp only[decide_eq_true_eq]at this;simp only[abH];rw[xD (by rw[this];exact e)]
theorem eC(es:List (Value×DV×Nat))(k:Value):aT (jR es k) k=none:=by
 rw[gv];intro e he;have:=(abO.1 he).2;simpa using this
theorem eX(es:List (Value×DV×Nat)){k k':Value}(e:k'≠k):aT (jR es k) k'=aT es k':=by
 unfold aT jR;rw[List.find?_filter];congr 2;funext x;rcases ac3 (x.1=k')with h|h
 ·simp[h,e]
 ·simp[h]
end Aml
namespace Go.Proofs.YtoepfmhnapedoaaGreatDoor
open Aml Go
@[go_sem] def dL (l:List Int):DV:= .sl 1 false (l.map dI)
theorem Cy{α:Type}{l:List α}{k:Nat}{a b:α}(h:l[k]? =some a)(h':l[k]? =some b):a=b:=by rw[h]at h';exact abR h'
end Go.Proofs.YtoepfmhnapedoaaGreatDoor
namespace Aml.Y
open Go Go.RowKit
def kY(op:Op):Nat:=match op with
 | .lookup ..=>1
 |op=>Z.kX op
def cls(gs ns:List Nat)(i:Nat)(op:Op):Nat:=if gs.contains i then 2 else if ns.contains i then 6 else if ns.contains (i+1000)then 5 else match kY op with
 |0=>0
 |1=>1
 |2=>4
 |_=>3
def qU(a b:Nat):Bool:=a==0||(a==5&&b !=3)||(a==1&&(decide (b<3)||b==4||b==5))||(a==4&&b==4)
structure xU(S T:St):Prop where
 box:S.box.Perm T.box
 acc:S.acc.Perm T.acc
theorem xU.refl(S:St):xU S S:=⟨.refl _,.refl _⟩
theorem xU.symm{S T:St}(h:xU S T):xU T S:=⟨h.box.symm,h.acc.symm⟩
theorem xU.trans{S T U:St}(h:xU S T)(k:xU T U):xU S U:=⟨h.box.trans k.box,h.acc.trans k.acc⟩
theorem xU.rel{w0:W0}{g:Gh}{S T:St}{w:World}(h:xU S T)(r:Rel w0 g S w):Rel w0 g T w:=
 ⟨r.below,r.aY,(h.box.map _).nodup_iff.1 r.nb,(h.acc.map _).nodup_iff.1 r.na,r.eU,r.fresh,fun l o ho=>r.top l o (h.acc.mem_iff.2 ho),let⟨ow,h1,h2⟩:=r.own
  ⟨ow,fun b ds hb=>h1 b ds (h.box.mem_iff.2 hb),fun l o hl=>h2 l o (h.acc.mem_iff.2 hl)⟩⟩
theorem oG{α:Type}:∀{l:List (Nat×α)} {b:Nat},jT l b→∀p,p∈l→p.1≠b
 |[],b,_,p,h=>by cases h
 |(k,x)::t,b,h,p,hp=>by
  rcases aaJ.1 hp with rfl|hp
  ·exact h.1
  ·exact oG h.2.2 p hp
theorem I2{α:Type}(l:List (Nat×α)):∃b,jT l b:=by
 have:∃b,∀p,p∈l→p.1<b:=by
  induction l with
  |nil=>exact⟨0,fun p h=>by cases h⟩
  |cons a l ih=>
   obtain⟨b,hb⟩:=ih;refine⟨a.1+b+1,fun p hp=>?_⟩;rcases aaJ.1 hp with rfl|hp
   ·omega
   ·have:=hb p hp;omega
 obtain⟨b,hb⟩:=this;exact⟨b,cG fun p hp e=>by have:=hb p hp;omega⟩
theorem xU.jT{S T:St}(h:xU S T){b:Nat}(k:jT S.box b):jT T.box b:=cG fun p hp=>oG k p (h.box.mem_iff.2 hp)
theorem xU.Ch{P:Program}{w0:W0}{o:Oper}{ρ:Operand→DV}{S T:St}{K:DV→St→Prop}(h:xU S T)(y:ak P w0 o ρ S K):ak P w0 o ρ T K:=
 fun g w r h1 h2 h3=>y g w r (h.symm.rel h1) h2 h3
structure Hm(X T:St):Prop where
 box:∀b x,lk X.box b=some x→(b,x)∈T.box
 acc:∀l o,lk X.acc l=some o→(l,o)∈T.acc
theorem Hm.of{X T:St}(h:Has X T):Hm X T:=⟨fun b x hb=>bV (h.box b x hb),fun l o hl=>bV (h.acc l o hl)⟩
theorem kQ(T:St):Hm ⟨[],[]⟩ T:=⟨fun b x h=>(by cases h),fun l o h=>(by cases h)⟩
theorem Hm.perm{X S T:St}(h:Hm X S)(k:xU S T):Hm X T:=⟨fun b x hb=>k.box.mem_iff.1 (h.box b x hb),fun l o hl=>k.acc.mem_iff.1 (h.acc l o hl)⟩
theorem Hm.has{X T:St}{w0:W0}{g:Gh}{w:World}(h:Hm X T)(r:Rel w0 g T w):Has X T:=⟨fun b x hb=>kv r.nb (h.box b x hb),fun l o hl=>kv r.na (h.acc l o hl)⟩
def PC(F:List DV→St→Prop)(fr:List DV)(S:St):Prop:=∃T,xU T S∧F fr T
theorem PC.mono{F G:List DV→St→Prop}(h:∀fr S,F fr S→G fr S){fr:List DV}{S:St}(k:PC F fr S):PC G fr S:=let⟨T,a,b⟩:=k;⟨T,a,h _ _ b⟩
def Mo(K:List DV→St→Prop):Prop:=∀fr S T,xU S T→K fr S→K fr T
theorem PC.clo(F:List DV→St→Prop):Mo (PC F):=fun _ _ _ h ⟨U,a,b⟩=>⟨U,a.trans h,b⟩
def lQ(P:Program)(w0:W0)(S0 S1:St)(c:Nat)(o:Oper)(fr:List DV)(S:St)(K:List DV→St→Prop):Prop:=
 (c=0∧∃d,(∀S',QY P w0 S' o fr d)∧K (pt fr o.dst d) S)∨
 (c=1∧Hm S0 S∧∃d,(∀S',Hm S0 S'→QY P w0 S' o fr d)∧K (pt fr o.dst d) S)∨
 (c=2∧ak P w0 o (ev fr) S fun d S'=>Hm S0 S'∧K (pt fr o.dst d) S')∨
 (c=3∧ak P w0 o (ev fr) S fun d S'=>K (pt fr o.dst d) S')∨
 (c=4∧Hm S0 S∧∃t,o.op= .alloc t∧eW (zD P t)=true∧∀b,jT S.box b→K (pt fr o.dst (.v (.pointer (some ⟨b,0,none⟩)))) ⟨(b,cd (zD P t))::S.box,S.acc⟩)∨
 (c=5∧Hm S1 S∧∃d,(∀S',Hm S1 S'→QY P w0 S' o fr d)∧K (pt fr o.dst d) S)∨
 (c=6∧ak P w0 o (ev fr) S fun d S'=>Hm S1 S'∧K (pt fr o.dst d) S')
def hY(P:Program)(w0:W0)(S0 S1:St)(c:Nat)(ops:Array Oper)(o:Oper)(fr:List DV)(S:St)(K:List DV→St→Prop):Prop:=
 (cQ ops fr o.guard=some true∧lQ P w0 S0 S1 c o fr S K)∨(cQ ops fr o.guard=some false∧K (pt fr o.dst ud) S)
section
variable {P:Program} {w0:W0} {S0 S1:St} {ops:Array Oper} {md:Region.Mode}
theorem tz{c:Nat}{o:Oper}{fr:List DV}{S:St}{K K':List DV→St→Prop}(h:∀fr S,K fr S→K' fr S)(b:lQ P w0 S0 S1 c o fr S K):lQ P w0 S0 S1 c o fr S K':=by
 rcases b with⟨c,d,q,k⟩|⟨c,hS,d,q,k⟩|⟨c,q⟩|⟨c,q⟩|⟨c,hS,t,ht,hz,k⟩|⟨c,hS,d,q,k⟩|⟨c,q⟩
 ·exact .inl ⟨c,d,q,h _ _ k⟩
 ·exact .inr (.inl ⟨c,hS,d,q,h _ _ k⟩)
 ·exact .inr (.inr (.inl ⟨c,aD (fun d S hk=>⟨hk.1,h _ _ hk.2⟩) q⟩))
 ·exact .inr (.inr (.inr (.inl ⟨c,aD (fun d S hk=>h _ _ hk) q⟩)))
 ·exact .inr (.inr (.inr (.inr (.inl ⟨c,hS,t,ht,hz,fun b hb=>h _ _ (k b hb)⟩))))
 ·exact .inr (.inr (.inr (.inr (.inr (.inl ⟨c,hS,d,q,h _ _ k⟩)))))
 ·exact .inr (.inr (.inr (.inr (.inr (.inr ⟨c,aD (fun d S hk=>⟨hk.1,h _ _ hk.2⟩) q⟩)))))
theorem dF{c:Nat}{o:Oper}{fr:List DV}{S:St}{K K':List DV→St→Prop}(h:∀fr S,K fr S→K' fr S)(b:hY P w0 S0 S1 c ops o fr S K):hY P w0 S0 S1 c ops o fr S K':=
 b.imp (fun⟨a,b⟩=>⟨a,tz h b⟩) fun⟨a,b⟩=>⟨a,h _ _ b⟩
theorem Kk{c:Nat}{o:Oper}{K:List DV→St→Prop}(hK:Mo K):Mo fun fr S=>hY P w0 S0 S1 c ops o fr S K:=fun fr S T hp h=>by
 rcases h with⟨g,b⟩|⟨g,k⟩
 ·refine .inl ⟨g,?_⟩;rcases b with⟨c,d,q,k⟩|⟨c,hS,d,q,k⟩|⟨c,q⟩|⟨c,q⟩|⟨c,hS,t,ht,hz,k⟩|⟨c,hS,d,q,k⟩|⟨c,q⟩
  ·exact .inl ⟨c,d,q,hK _ _ _ hp k⟩
  ·exact .inr (.inl ⟨c,hS.perm hp,d,q,hK _ _ _ hp k⟩)
  ·exact .inr (.inr (.inl ⟨c,hp.Ch q⟩))
  ·exact .inr (.inr (.inr (.inl ⟨c,hp.Ch q⟩)))
  ·exact .inr (.inr (.inr (.inr (.inl ⟨c,hS.perm hp,t,ht,hz,fun b hb=>hK _ ⟨(b,cd (zD P t))::S.box,S.acc⟩ _ ⟨hp.box.cons _,hp.acc⟩ (k b (hp.symm.jT hb))⟩))))
  ·exact .inr (.inr (.inr (.inr (.inr (.inl ⟨c,hS.perm hp,d,q,hK _ _ _ hp k⟩)))))
  ·exact .inr (.inr (.inr (.inr (.inr (.inr ⟨c,hp.Ch q⟩)))))
 ·exact .inr ⟨g,hK _ _ _ hp k⟩
theorem Gr{c:Nat}{o:Oper}{fr:List DV}{S:St}{K:List DV→St→Prop}{dst:Option Tmp}{e:DV}(h1:∀t,dst=some t→t∉o.looksAt ops)(h2:∀t,dst=some t→o.dst≠some t):
 lQ P w0 S0 S1 c o (pt fr dst e) S K↔lQ P w0 S0 S1 c o fr S fun fr' S'=>K (pt fr' dst e) S':=by
 have hq:∀S d,QY P w0 S o (pt fr dst e) d↔QY P w0 S o fr d:=fun S d=>
  ⟨aL (fun x hx=>ec (ops:=ops) h1 x hx),aL (fun x hx=>(ec (ops:=ops) h1 x hx).symm)⟩
 have hc:∀d,pt (pt fr dst e) o.dst d=pt (pt fr o.dst d) dst e:=fun d=>jl fr e d h2
 have hy:∀K,ak P w0 o (ev (pt fr dst e)) S K↔ak P w0 o (ev fr) S K:=fun K=>
  ⟨aL (fun x hx=>ec (ops:=ops) h1 x hx),aL (fun x hx=>(ec (ops:=ops) h1 x hx).symm)⟩
 unfold lQ;simp only[hq,hc,hy]
theorem gU{c:Nat}{o:Oper}{fr:List DV}{S:St}{K:List DV→St→Prop}{dst:Option Tmp}{e:DV}(h1:∀t,dst=some t→t∉o.looksAt ops)(h2:∀t,dst=some t→o.dst≠some t):
 hY P w0 S0 S1 c ops o (pt fr dst e) S K↔hY P w0 S0 S1 c ops o fr S fun fr' S'=>K (pt fr' dst e) S':=by
 unfold hY;rw[gQ h1,Gr h1 h2,jl fr e ud h2]
theorem y8{c:Nat}{o:Oper}{fr:List DV}{S:St}{K K':List DV→St→Prop}(h:∀e S,K (pt fr o.dst e) S→K' (pt fr o.dst e) S)(b:lQ P w0 S0 S1 c o fr S K):lQ P w0 S0 S1 c o fr S K':=by
 rcases b with⟨c,d,q,k⟩|⟨c,hS,d,q,k⟩|⟨c,q⟩|⟨c,q⟩|⟨c,hS,t,ht,hz,k⟩|⟨c,hS,d,q,k⟩|⟨c,q⟩
 ·exact .inl ⟨c,d,q,h _ _ k⟩
 ·exact .inr (.inl ⟨c,hS,d,q,h _ _ k⟩)
 ·exact .inr (.inr (.inl ⟨c,aD (fun d S hk=>⟨hk.1,h _ _ hk.2⟩) q⟩))
 ·exact .inr (.inr (.inr (.inl ⟨c,aD (fun d S hk=>h _ _ hk) q⟩)))
 ·exact .inr (.inr (.inr (.inr (.inl ⟨c,hS,t,ht,hz,fun b hb=>h _ _ (k b hb)⟩))))
 ·exact .inr (.inr (.inr (.inr (.inr (.inl ⟨c,hS,d,q,h _ _ k⟩)))))
 ·exact .inr (.inr (.inr (.inr (.inr (.inr ⟨c,aD (fun d S hk=>⟨hk.1,h _ _ hk.2⟩) q⟩)))))
theorem tY{c:Nat}{o:Oper}{fr:List DV}{S:St}{K K':List DV→St→Prop}(h:∀e S,K (pt fr o.dst e) S→K' (pt fr o.dst e) S)(b:hY P w0 S0 S1 c ops o fr S K):hY P w0 S0 S1 c ops o fr S K':=
 b.imp (fun⟨a,b⟩=>⟨a,y8 h b⟩) fun⟨a,b⟩=>⟨a,h _ _ b⟩
theorem Hm.cons{X S:St}(h:Hm X S){b:Nat}(v:List DV):Hm X ⟨(b,v)::S.box,S.acc⟩:=⟨fun c x hc=>aat _ (h.box c x hc),fun l o hl=>h.acc l o hl⟩
theorem BO(hSS:∀T,Hm S0 T→Hm S1 T){cx cy:Nat}{x y:Oper}(hap:x.apart ops y=true)(hk:qU cx cy=true){fr:List DV}{S:St}{K:List DV→St→Prop}(hK:Mo K)(h:hY P w0 S0 S1 cx ops x fr S fun fr S=>hY P w0 S0 S1 cy ops y fr S K):
 hY P w0 S0 S1 cy ops y fr S fun fr S=>hY P w0 S0 S1 cx ops x fr S K:=by
 obtain⟨b1,b2,b3⟩:=Oper.apart_spec hap;have hw:∀e,cQ ops (pt fr y.dst e) x.guard=cQ ops fr x.guard:=fun e=>gQ b3;have hq:∀{S d e},QY P w0 S x fr d→QY P w0 S x (pt fr y.dst e) d:=fun{S d e} q=>aL (fun z hz=>(ec (ops:=ops) b3 z hz).symm) q;rcases h with⟨hg,hb⟩|⟨hg,hb⟩
 ·rcases hb with⟨c,d,q,k⟩|⟨c,hS,d,q,k⟩|⟨c, -⟩|⟨c, -⟩|⟨c,hS,t,ht,hz,k⟩|⟨c,hS,d,q,k⟩|⟨c, -⟩
  ·rw[gU b1 b2]at k;exact tY (fun e S' hk=> .inl ⟨by rw[hw];exact hg,.inl ⟨c,d,fun S''=>hq (q S''),hk⟩⟩) k
  ·rw[gU b1 b2]at k;rcases k with⟨g2,k⟩|⟨g2,k⟩
   ·rcases k with⟨c2,d2,q2,k⟩|⟨c2,hS2,d2,q2,k⟩|⟨c2,q2⟩|⟨c2, -⟩|⟨c2,hS2,t2,ht2,hz2,k2⟩|⟨c2,hS2,d2,q2,k⟩|⟨c2, -⟩
    ·exact .inl ⟨g2,.inl ⟨c2,d2,q2,.inl ⟨by rw[hw];exact hg,.inr (.inl ⟨c,hS,d,fun S' h'=>hq (q S' h'),k⟩)⟩⟩⟩
    ·exact .inl ⟨g2,.inr (.inl ⟨c2,hS2,d2,q2,.inl ⟨by rw[hw];exact hg,.inr (.inl ⟨c,hS,d,fun S' h'=>hq (q S' h'),k⟩)⟩⟩)⟩
    ·exact .inl ⟨g2,.inr (.inr (.inl ⟨c2,aD (fun e S' h'=>⟨h'.1,.inl ⟨by rw[hw];exact hg,.inr (.inl ⟨c,h'.1,d,fun S'' h''=>hq (q S'' h''),h'.2⟩)⟩⟩) q2⟩))⟩
    ·rw[c,c2]at hk;exact absurd hk (by decide)
    ·exact .inl ⟨g2,.inr (.inr (.inr (.inr (.inl ⟨c2,hS2,t2,ht2,hz2,fun b hb=> .inl ⟨by rw[hw];exact hg,.inr (.inl ⟨c,Hm.cons hS _,d,fun S'' h''=>hq (q S'' h''),k2 b hb⟩)⟩⟩))))⟩
    ·exact .inl ⟨g2,.inr (.inr (.inr (.inr (.inr (.inl ⟨c2,hS2,d2,q2,.inl ⟨by rw[hw];exact hg,.inr (.inl ⟨c,hS,d,fun S' h'=>hq (q S' h'),k⟩)⟩⟩)))))⟩
    ·rw[c,c2]at hk;exact absurd hk (by decide)
   ·exact .inr ⟨g2,.inl ⟨by rw[hw];exact hg,.inr (.inl ⟨c,hS,d,fun S' h'=>hq (q S' h'),k⟩)⟩⟩
  ·rw[c]at hk;simp[qU]at hk
  ·rw[c]at hk;simp[qU]at hk
  ·have hc2:cy=4:=by rw[c]at hk;simpa[qU]using hk
   subst hc2;rcases ac3 (cQ ops fr y.guard=some true)with g2|g2
   ·refine .inl ⟨g2,.inr (.inr (.inr (.inr (.inl ⟨rfl,hS,?_⟩))))⟩;obtain⟨a0,ha0⟩:=I2 S.box;have k0:hY P w0 S0 S1 4 ops y (pt fr x.dst (.v (.pointer (some ⟨a0,0,none⟩)))) ⟨(a0,cd (zD P t))::S.box,S.acc⟩ K:=k a0 ha0;rw[gU b1 b2]at k0
    have gen:∀a,jT S.box a→∃t2,y.op= .alloc t2∧eW (zD P t2)=true∧∀b,jT ((a,cd (zD P t))::S.box) b→K (pt (pt fr y.dst (.v (.pointer (some ⟨b,0,none⟩)))) x.dst (.v (.pointer (some ⟨a,0,none⟩)))) ⟨(b,cd (zD P t2))::(a,cd (zD P t))::S.box,S.acc⟩:=fun a ha=>by
     have k1:hY P w0 S0 S1 4 ops y (pt fr x.dst (.v (.pointer (some ⟨a,0,none⟩)))) ⟨(a,cd (zD P t))::S.box,S.acc⟩ K:=k a ha;rw[gU b1 b2]at k1;rcases k1 with⟨-,b⟩|⟨g3, -⟩
     ·rcases b with⟨c2, -⟩|⟨c2, -⟩|⟨c2, -⟩|⟨c2, -⟩|⟨c2, -,t2,ht2,hz2,k2⟩|⟨c2, -⟩|⟨c2, -⟩
      ·cases c2
      ·cases c2
      ·cases c2
      ·cases c2
      ·exact⟨t2,ht2,hz2,fun b hb=>k2 b hb⟩
      ·cases c2
      ·cases c2
     ·rw[g2]at g3;cases g3
    obtain⟨t2,ht2,hz2, -⟩:=gen a0 ha0;refine⟨t2,ht2,hz2,fun b hb=> .inl ⟨by rw[hw];exact hg,.inr (.inr (.inr (.inr (.inl ⟨c,Hm.cons hS _,t,ht,hz,fun a ha=>?_⟩))))⟩⟩;obtain⟨t3,ht3, -,k3⟩:=gen a ha.2.2;rw[ht2]at ht3;cases ht3;exact hK _ ⟨(b,cd (zD P t2))::(a,cd (zD P t))::S.box,S.acc⟩ _ ⟨.swap _ _ _,.refl _⟩ (k3 b ⟨fun e=>ha.2.1 e,fun e=>ha.1 e,hb⟩)
   ·obtain⟨a0,ha0⟩:=I2 S.box;have k0:hY P w0 S0 S1 4 ops y (pt fr x.dst (.v (.pointer (some ⟨a0,0,none⟩)))) ⟨(a0,cd (zD P t))::S.box,S.acc⟩ K:=k a0 ha0;rw[gU b1 b2]at k0;rcases k0 with⟨g3, -⟩|⟨g3, -⟩
    ·exact absurd g3 g2
    ·refine .inr ⟨g3,.inl ⟨by rw[hw];exact hg,.inr (.inr (.inr (.inr (.inl ⟨c,hS,t,ht,hz,fun a ha=>?_⟩))))⟩⟩;have k1:hY P w0 S0 S1 4 ops y (pt fr x.dst (.v (.pointer (some ⟨a,0,none⟩)))) ⟨(a,cd (zD P t))::S.box,S.acc⟩ K:=k a ha;rw[gU b1 b2]at k1;rcases k1 with⟨g4, -⟩|⟨g4,k1⟩
     ·exact absurd g4 g2
     ·exact k1
  ·rw[gU b1 b2]at k;have fin:∀e S',Hm S1 S'→K (pt (pt fr y.dst e) x.dst d) S'→hY P w0 S0 S1 cx ops x (pt fr y.dst e) S' K:=fun e S' h' k'=> .inl ⟨by rw[hw];exact hg,.inr (.inr (.inr (.inr (.inr (.inl ⟨c,h',d,fun S'' h''=>hq (q S'' h''),k'⟩)))))⟩;rcases k with⟨g2,k⟩|⟨g2,k⟩
   ·rcases k with⟨c2,d2,q2,k⟩|⟨c2,hS2,d2,q2,k⟩|⟨c2,q2⟩|⟨c2, -⟩|⟨c2,hS2,t2,ht2,hz2,k2⟩|⟨c2,hS2,d2,q2,k⟩|⟨c2,q2⟩
    ·exact .inl ⟨g2,.inl ⟨c2,d2,q2,fin _ _ hS k⟩⟩
    ·exact .inl ⟨g2,.inr (.inl ⟨c2,hS2,d2,q2,fin _ _ hS k⟩)⟩
    ·exact .inl ⟨g2,.inr (.inr (.inl ⟨c2,aD (fun e S' h'=>⟨h'.1,fin _ _ (hSS _ h'.1) h'.2⟩) q2⟩))⟩
    ·rw[c,c2]at hk;exact absurd hk (by decide)
    ·exact .inl ⟨g2,.inr (.inr (.inr (.inr (.inl ⟨c2,hS2,t2,ht2,hz2,fun b hb=>fin _ _ (Hm.cons hS _) (k2 b hb)⟩))))⟩
    ·exact .inl ⟨g2,.inr (.inr (.inr (.inr (.inr (.inl ⟨c2,hS2,d2,q2,fin _ _ hS k⟩)))))⟩
    ·exact .inl ⟨g2,.inr (.inr (.inr (.inr (.inr (.inr ⟨c2,aD (fun e S' h'=>⟨h'.1,fin _ _ h'.1 h'.2⟩) q2⟩)))))⟩
   ·exact .inr ⟨g2,fin _ _ hS k⟩
  ·rw[c]at hk;simp[qU]at hk
 ·rw[gU b1 b2]at hb;exact tY (fun e S' hk=> .inr ⟨by rw[hw];exact hg,hk⟩) hb
theorem D0(hSS:∀T,Hm S0 T→Hm S1 T){cx cy:Nat}{x y:Oper}(hap:x.apart ops y=true)(hk:qU cx cy=true){fr:List DV}{S:St}{K:List DV→St→Prop}(h:hY P w0 S0 S1 cx ops x fr S (PC fun fr S=>hY P w0 S0 S1 cy ops y fr S (PC K))):
 hY P w0 S0 S1 cy ops y fr S (PC fun fr S=>hY P w0 S0 S1 cx ops x fr S (PC K)):=
 dF (fun fr S h=>⟨S,.refl S,h⟩) (BO hSS hap hk (PC.clo K) (dF (fun fr S ⟨T,hp,h⟩=>Kk (PC.clo K) _ _ _ hp h) h))
def eP(P:Program)(w0:W0)(S0 S1:St)(gs ns:List Nat)(ops:Array Oper)(i:Nat)(fr:List DV)(S:St)(K:List DV→St→Prop):Prop:=match ops[i]? with
 |none=>K fr S
 |some o=>hY P w0 S0 S1 (cls gs ns i o.op) ops o fr S K
def Ci(P:Program)(w0:W0)(S0 S1:St)(gs ns:List Nat)(md:Region.Mode)(ops:Array Oper)(K:List DV→St→Prop):Nat→Array Bool→List DV→St→Prop
 |0,listed,fr,S=>Region.ready md ops listed=[]∧K fr S
 |fuel+1,listed,fr,S=>(Region.ready md ops listed=[]→K fr S)∧∀i∈Region.ready md ops listed,eP P w0 S0 S1 gs ns ops i fr S (PC (Ci P w0 S0 S1 gs ns md ops K fuel (listed.setIfInBounds i true)))
theorem vQ(hSS:∀T,Hm S0 T→Hm S1 T){gs ns D:List Nat}{K:List DV→St→Prop}{i:Nat}{oi:Oper}(hi:ops[i]? =some oi):
 ∀(fuel:Nat) (listed:Array Bool) (fr:List DV) (S:St),
  (∀j,j∈D→listed.getD j true=false∧∃oj,ops[j]? =some oj∧∃e∈oj.after,Region.binds md e=true∧(e.on=i∨e.on∈D))→
  (∀j oj,ops[j]? =some oj→j≠i→listed.getD j true=false→j∉D→oi.apart ops oj=true∧qU (cls gs ns i oi.op) (cls gs ns j oj.op)=true)→
  (∀l:List Nat,l.Nodup→(∀k,k∈l→listed.getD k true=false)→l.length≤fuel+1)→
  i∈Region.ready md ops listed→hY P w0 S0 S1 (cls gs ns i oi.op) ops oi fr S (PC (Ci P w0 S0 S1 gs ns md ops K fuel (listed.setIfInBounds i true)))→Ci P w0 S0 S1 gs ns md ops K (fuel+1) listed fr S:=by
 intro fuel
 induction fuel with
 |zero=>
  intro listed fr S _ _ hcnt hr H;refine⟨fun h=>(by rw[h]at hr;cases hr),fun j hj=>?_⟩;by_cases hji:j=i
  ·subst hji;unfold eP;simp only[hi];exact H
  ·exfalso
   have:=hcnt [i,j] (by simp[abx hji]) fun k hk=>by
    simp only[aaJ,aca,or_false]at hk;rcases hk with rfl|rfl
    ·exact(mem_ready.1 hr).1
    ·exact(mem_ready.1 hj).1
   simp at this
 |succ fuel ih=>
  intro listed fr S hD hfree hcnt hr H;refine⟨fun h=>(by rw[h]at hr;cases hr),fun j hj=>?_⟩;by_cases hji:j=i
  ·subst hji;unfold eP;simp only[hi];exact H
  ·obtain⟨hjun,oj,hoj,hall⟩:=mem_ready.1 hj
   have hlis:∀e∈oj.after,Region.binds md e=true→listed.getD e.on true=false→False:=fun e he hb h0=>by
    have h1:=hall e he hb;rcases abz e.on listed.size with h'|h'
    ·simp[h']at h0 h1;rw[h0]at h1;cases h1
    ·simp[abG h']at h1
   have hjD:j∉D:=fun hjD=>by
    obtain⟨_,oj',ho,e,he,hb,hor⟩:=hD j hjD;rw[hoj]at ho;cases ho;rcases hor with h|h
    ·exact hlis e he hb (by rw[h];exact(mem_ready.1 hr).1)
    ·exact hlis e he hb (hD _ h).1
   have h1:hY P w0 S0 S1 (cls gs ns i oi.op) ops oi fr S (PC fun fr S=>hY P w0 S0 S1 (cls gs ns j oj.op) ops oj fr S (PC (Ci P w0 S0 S1 gs ns md ops K fuel ((listed.setIfInBounds i true).setIfInBounds j true)))):=
    dF (fun fr S h=>PC.mono (fun fr S h=>by
     have:=h.2 j (ready_mono hj hji);unfold eP at this;simp only[hoj]at this;exact this) h) H
   have hc:=hfree j oj hoj hji hjun hjD;have h2:=D0 hSS hc.1 hc.2 h1
   have hfree':∀k ok,ops[k]? =some ok→k≠i→(listed.setIfInBounds j true).getD k true=false→k∉D→oi.apart ops ok=true∧qU (cls gs ns i oi.op) (cls gs ns k ok.op)=true:=fun k ok hk hki hun hno=>by
    refine hfree k ok hk hki ?_ hno;by_cases hjk:j=k
    ·subst hjk;exact hjun
    ·rw[getD_set_ne true hjk]at hun;exact hun
   have hD':∀k,k∈D→(listed.setIfInBounds j true).getD k true=false∧∃ok,ops[k]? =some ok∧∃e∈ok.after,Region.binds md e=true∧(e.on=i∨e.on∈D):=fun k hk=>by
    refine⟨?_,(hD k hk).2⟩;rw[getD_set_ne true (show j≠k from fun e=>hjD (by rw[e];exact hk))];exact(hD k hk).1
   unfold eP;simp only[hoj]
   have hcnt':∀l:List Nat,l.Nodup→(∀k,k∈l→(listed.setIfInBounds j true).getD k true=false)→l.length≤fuel+1:=by
    intro l hn hl
    have hjs:j<listed.size:=by
     rcases abz j listed.size with h|h
     ·exact h
     ·rw[aaI,abG h]at hjun;cases hjun
    have hjl:j∉l:=fun hj=>by
     have:=hl j hj;rw[aaI,aa9]at this;simp[hjs]at this
    have:=hcnt (j::l) (aaV.2 ⟨hjl,hn⟩) fun k hk=>by
     rcases aaJ.1 hk with rfl|hk
     ·exact hjun
     ·have:=hl k hk;rw[getD_set_ne true (show j≠k from fun e=>hjl (e▸hk))]at this;exact this
    simp at this;omega
   refine dF (fun fr S h=>PC.mono (fun fr S h=>ih (listed.setIfInBounds j true) fr S hD' hfree' hcnt' (ready_mono hr (abx hji)) ?_) h) h2;rw[adI _ _ hji];exact h
def YS(md:Region.Mode)(ops:Array Oper)(listed:Array Bool)(i:Nat):List Nat:=(List.range ops.size).foldl (fun D j=>match ops[j]? with
 |some oj=>if !(j==i)&&!listed.getD j true&&oj.after.any (fun e=>Region.binds md e&&(e.on==i||D.contains e.on))then j::D else D
 |none=>D) []
def zJ(gs ns:List Nat)(md:Region.Mode)(ops:Array Oper)(listed:Array Bool)(i:Nat)(D:List Nat):Bool:=(D.all fun j=>!listed.getD j true&&match ops[j]? with
 |some oj=>oj.after.any (fun e=>Region.binds md e&&(e.on==i||D.contains e.on))
 |none=>false)&&(List.range ops.size).all fun j=>match ops[i]?,ops[j]? with
 |some oi,some oj=>j==i||listed.getD j true||D.contains j||(oi.apart ops oj&&qU (cls gs ns i oi.op) (cls gs ns j oj.op))
 |_,_=>false
def Qu(gs ns:List Nat)(md:Region.Mode)(ops:Array Oper)(listed:Array Bool)(i:Nat):Bool:=zJ gs ns md ops listed i (YS md ops listed i)
def xZ(gs ns:List Nat)(md:Region.Mode)(ops:Array Oper):List Nat→Array Bool→Bool
 |[],listed=>(Region.ready md ops listed).isEmpty
 |k::ks,listed=>(Region.ready md ops listed).contains k&&Qu gs ns md ops listed k&&xZ gs ns md ops ks (listed.setIfInBounds k true)
theorem vF{gs ns D:List Nat}{listed:Array Bool}{i:Nat}(h:zJ gs ns md ops listed i D=true):∀j,j∈D→listed.getD j true=false∧∃oj,ops[j]? =some oj∧∃e∈oj.after,Region.binds md e=true∧(e.on=i∨e.on∈D):=by
 intro j hj;simp only[zJ,aak]at h;have:=aa8.1 h.1 j hj;simp only[aak,abU]at this;refine⟨this.1,?_⟩;obtain⟨-,h2⟩:=this;split at h2
 ·rename_i oj ho;obtain⟨e,he,h3⟩:=adR.1 h2;simp only[aak,acx,beq_iff_eq,List.contains_iff_mem]at h3;exact⟨oj,ho,e,he,h3⟩
 ·cases h2
theorem tg{gs ns D:List Nat}{listed:Array Bool}{i:Nat}{oi:Oper}(hi:ops[i]? =some oi)(h:zJ gs ns md ops listed i D=true):∀j oj,ops[j]? =some oj→j≠i→listed.getD j true=false→j∉D→oi.apart ops oj=true∧qU (cls gs ns i oi.op) (cls gs ns j oj.op)=true:=by
 intro j oj hj hji hun hno;simp only[zJ,aak]at h;have hlt:j<ops.size:=(aaq.1 hj).1;have:=aa8.1 h.2 j (ace.2 hlt);simp only[hi,hj,hun,Bool.or_false,acx,beq_iff_eq,aak,List.contains_iff_mem]at this;rcases this with(h|h)|h
 ·exact absurd h hji
 ·exact absurd h hno
 ·exact h
def LO(P:Program)(w0:W0)(S0 S1:St)(gs ns:List Nat)(ops:Array Oper)(K:List DV→St→Prop):List Nat→List DV→St→Prop
 |[],fr,S=>K fr S
 |i::is,fr,S=>match ops[i]? with
  |none=>False
  |some o=>hY P w0 S0 S1 (cls gs ns i o.op) ops o fr S (LO P w0 S0 S1 gs ns ops K is)
theorem oQ(hSS:∀T,Hm S0 T→Hm S1 T){gs ns:List Nat}{K:List DV→St→Prop}:∀(l:List Nat) (listed:Array Bool) (fr:List DV) (S:St),
 (∀l':List Nat,l'.Nodup→(∀k,k∈l'→listed.getD k true=false)→l'.length≤l.length)→
 xZ gs ns md ops l listed=true→LO P w0 S0 S1 gs ns ops K l fr S→Ci P w0 S0 S1 gs ns md ops K l.length listed fr S
 |[],_,_,_,_,hB,h=>⟨by simpa[xZ]using hB,h⟩
 |k::l,listed,fr,S,hcnt,hB,h=>by
  simp only[aaW,xZ,aak]at hB;obtain⟨⟨hr,hf⟩,hB'⟩:=hB;have hr':k∈Region.ready md ops listed:=by simpa using hr
  have hun:=(mem_ready.1 hr').1;unfold LO at h;split at h
  ·exact h.elim
  rename_i o h0;refine vQ hSS h0 l.length listed fr S (vF hf) (tg h0 hf) (by simpa using hcnt) hr' ?_;refine dF (fun fr S h=>⟨S,.refl S,oQ hSS l _ fr S ?_ hB' h⟩) h;intro l' hn hl'
  have hks:k<listed.size:=by
   rcases abz k listed.size with h|h
   ·exact h
   ·rw[aaI,abG h]at hun;cases hun
  have hkl:k∉l':=fun hk=>by
   have:=hl' k hk;rw[aaI,aa9]at this;simp[hks]at this
  have:=hcnt (k::l') (aaV.2 ⟨hkl,hn⟩) fun m hm=>by
   rcases aaJ.1 hm with rfl|hm
   ·exact hun
   ·have:=hl' m hm;rw[getD_set_ne true (show k≠m from fun e=>hkl (e▸hm))]at this;exact this
  simp at this;omega
theorem oI{c:Nat}{o:Oper}{fr:List DV}{S:St}{K:List DV→St→Prop}(h:lQ P w0 S0 S1 c o fr S K):ak P w0 o (ev fr) S fun d S'=>K (pt fr o.dst d) S':=by
 rcases h with⟨c,d,q,k⟩|⟨c,hS,d,q,k⟩|⟨c,q⟩|⟨c,q⟩|⟨c,hS,t,ht,hz,k⟩|⟨c,hS,d,q,k⟩|⟨c,q⟩
 ·exact aD (fun d' S' h=>by rw[h.1,h.2];exact k) (q S)
 ·exact aD (fun d' S' h=>by rw[h.1,h.2];exact k) (q S hS)
 ·exact aD (fun d' S' h=>h.2) q
 ·exact q
 ·exact rN ht ⟨hz,k⟩
 ·exact aD (fun d' S' h=>by rw[h.1,h.2];exact k) (q S hS)
 ·exact aD (fun d' S' h=>h.2) q
theorem gj{gs ns:List Nat}{ro:Option Nat}{g0:Gh}{Q:Exit→List DV→St→Prop}:∀(fuel:Nat) (listed:Array Bool) (fr:List DV) (S:St) (g:Gh) (a:Act) (w:World),g0.le g→Rel w0 g S w→af g fr a.tmps.toList→Dk w0 g a w→
 Ci P w0 S0 S1 gs ns md ops (fun fr S=>Q .normal fr S) fuel listed fr S→wpAnyIn (fz ro) 0 P md ops (Good w0 g0 Q) fuel listed a w
 |0,listed,fr,S,g,a,w,k,h1,h2,h3,h=>⟨h.1,k.kd h3,g,fr,S,k,h1,h2,h.2⟩
 |fuel+1,listed,fr,S,g,a,w,k,h1,h2,h3,h=>by
  refine⟨fun h0=>⟨k.kd h3,g,fr,S,k,h1,h2,h.1 h0⟩,fun i hi=>?_⟩;have hq:=h.2 i hi;unfold eP at hq;unfold wpOpIn;split
  ·rename_i ho;simp only[ho]at hq;obtain⟨T,hp,hq⟩:=hq;exact gj fuel _ fr T g a w k (hp.symm.rel h1) h2 h3 hq
  ·rename_i o ho;simp only[ho]at hq;rcases hq with⟨hw,hb⟩|⟨hw,hk⟩
   ·have hw':=cq (o:=o) h2 hw;rw[if_pos hw'];refine de (oI hb) h1 (fun x _=>eA h2 x) h3 k h2 fun g' d' u S' w' k1 k2 k3 k4 k5=>?_;obtain⟨T,hp,k4⟩:=k4;exact gj fuel _ _ _ g' _ _ (k.trans k1) (hp.symm.rel k2) (bu (h2.mono k1) _ k3) (k1.dk k5) k4
   ·have hw':=cq (o:=o) h2 hw;rw[if_neg (by simp[hw'])];obtain⟨T,hp,hk⟩:=hk;exact⟨fun _ _=>trivial,gj fuel _ _ _ g _ _ k (hp.symm.rel h1) (bu h2 _ (gu g)) (h3.cC (put_defers _ _ _) fun _ _ h _=>h) hk⟩
theorem vG(hSS:∀T,Hm S0 T→Hm S1 T){id:Nat}{l:List Oper}{gs ns ord:List Nat}{fr:List DV}{S:St}{Q:Exit→List DV→St→Prop}(hm:P.follows .mixedOrders=true)(hB:xZ gs ns .any l.toArray ord (Array.replicate l.length false)=true)(hO:ord.length=l.length)(h:LO P w0 S0 S1 gs ns l.toArray (fun fr S=>Q .normal fr S) ord fr S):fV P w0 (.region id l.toArray true) fr S Q:=by
 intro g a w h1 h2 h3;refine cD hm fun ro=>?_;have hR:Rel w0 g S {w with drawn:=w.drawn+1}:=h1.grow (eK w)
 have hcnt:∀l':List Nat,l'.Nodup→(∀k,k∈l'→(Array.replicate l.length false).getD k true=false)→l'.length≤ord.length:=by
  intro l' hn hl
  have hsub:∀k,k∈l'→k∈List.range l.length:=fun k hk=>by
   have:=hl k hk;rw[ace];rcases abz k l.length with h|h
   ·exact h
   ·rw[aaI,abG (by simpa using h)]at this;cases this
  have:=hn.length_le_of_subset (l₂:=List.range l.length) hsub;rw[hO];simpa using this
 have:=oQ hSS (P:=P) (w0:=w0) (S0:=S0) (S1:=S1) (md:= .any) (ops:=l.toArray) ord (Array.replicate l.length false) fr S hcnt hB h;have:=gj (ro:=ro) (g0:=g) (Q:=Q) _ _ fr S g a _ (.refl g) hR h2 (h3.cC rfl fun _ _ h _=>h) this;rw[hO]at this;simpa using this
theorem AV{m:Option (KK×DV)}{S T:St}{x y:DV}{ok:Bool}{K:DV→Prop}(hT:Has S T)(h:cc m S x y ok K):cc m T x y ok K:=by
 unfold cc at*
 cases m with
 |none=>exact h.elim
 |some p=>
  obtain⟨h1,h2⟩:=h;refine⟨h1,?_⟩
  cases hk:om y with
  |none=>rw[hk]at h2;exact h2.elim
  |some k=>
   rw[hk]at h2;obtain⟨h3,h4⟩:=h2;refine⟨h3,?_⟩
   cases x with
   |mp l=>
    simp only at h4 ⊢
    cases hl:lk S.acc l with
    |none=>rw[hl]at h4;exact h4.elim
    |some o=>rw[hT.acc _ _ hl];rw[hl]at h4;exact h4
   |v u=>
    cases u with
    |map o=>cases o <;>exact h4
    |_=>exact h4
   |_=>exact h4
theorem Hr{k:TK}{S T:St}{x:DV}{K:DV→Prop}(hT:Has S T)(h:bE k S x K):bE k T x K:=by
 unfold bE at*;split at h
 ·split at h
  ·rename_i ds hb;simp only[hT.box _ _ hb];exact h
  ·exact h.elim
 ·exact h
 ·split at h
  ·rename_i hb;simp only[hT.acc _ _ hb];exact h
  ·rename_i hb;simp only[hT.acc _ _ hb];exact h
  ·exact h.elim
 ·exact h.elim
end
def QO(P:Program)(w0:W0)(S0:St)(f:FuncId)(ds:List DV)[K:Cn (DV→Prop)]:Prop:=∃d,(∀T,Has S0 T→ab P w0 f ds T fun d' S'=>d'=d∧S'=T)∧K.k d
def qd(P:Program)(w0:W0)(S0:St)(cal:DV)(ds:List DV)(K:DV→Prop):Prop:=match cal with
 | .v (.func (.func f) a cap)=>a.size=0∧okF P f=true∧cap.toList.all (fun u=>u.oneCell')=true∧ds.all fk=true∧@QO P w0 S0 f (ds++cap.toList.map .v) ⟨K⟩
 |_=>False
def sV(P:Program)(w0:W0)(S0:St)(op:Op)(fr:List DV)(S:St)(K:DV→St→Prop):Prop:=match op with
 | .load t x=>Has S0 S∧bE (tk P t) S0 (ev fr x) (K · S)
 | .call ⟨.value cal,args,_⟩=>Has S0 S∧qd P w0 S0 (ev fr cal) (args.toList.map (ev fr)) (K · S)
 | .alloc t=>Has S0 S∧eW (zD P t)=true∧GZ S (zD P t) K
 | .lookup t x y ok=>Has S0 S∧cc (mZ P t) S0 (ev fr x) (ev fr y) ok (K · S)
 |op=>cF (Z.kX op==0) (AA P w0 op fr S (K · S)) (aH P w0 op fr S K)
def UK(P:Program)(w0:W0)(S0 S1:St)(gs ns:List Nat)(i:Nat)(op:Op)(fr:List DV)(S:St)(K:DV→St→Prop):Prop:=
 cF (gs.contains i) (aH P w0 op fr S fun d S'=>Has S0 S'∧K d S') (cF (ns.contains i) (aH P w0 op fr S fun d S'=>Has S1 S'∧K d S') (cF (ns.contains (i+1000)) (kY op=1∧sV P w0 S1 op fr S K) (sV P w0 S0 op fr S K)))
def ri(P:Program)(w0:W0)(S0 S1:St)(gs ns:List Nat)(ops:Array Oper)(K:List DV→St→Prop)(oo:Option Oper)(i:Nat)(fr:List DV)(S:St):Prop:=match oo with
 |none=>False
 |some o=>bP ops fr o.guard (fun fr=>UK P w0 S0 S1 gs ns i o.op fr S fun d S'=>K (pt fr o.dst d) S') (fun fr=>K (pt fr o.dst ud) S)
def mo(P:Program)(w0:W0)(S0 S1:St)(gs ns:List Nat)(ops:Array Oper)(K:List DV→St→Prop):List Nat→List DV→St→Prop
 |[],fr,S=>K fr S
 |i::is,fr,S=>ri P w0 S0 S1 gs ns ops (mo P w0 S0 S1 gs ns ops K is) ops[i]? i fr S
section
variable {P:Program} {w0:W0} {S0 S1:St} {ops:Array Oper} {md:Region.Mode}
theorem G2{S0:St}{o:Oper}{fr:List DV}{d:DV}(q:∀T,Has S0 T→QY P w0 T o fr d)(T:St)(hT:Hm S0 T):QY P w0 T o fr d:=fun g w ρ r=>q T (hT.has r) g w ρ r
theorem pv{S0:St}{o:Oper}{fr:List DV}{S:St}{K:List DV→St→Prop}(hs:eo o.op=true)(hk:kY o.op=1)(h:sV P w0 S0 o.op fr S fun d S'=>K (pt fr o.dst d) S'):1=1∧Hm S0 S∧∃d,(∀S',Hm S0 S'→QY P w0 S' o fr d)∧K (pt fr o.dst d) S:=by
 cases hop:o.op with
 |load t x=>
  rw[hop]at h hs;obtain⟨hS,h⟩:=h;obtain⟨d,q1,q2⟩:=oT (show bE (tk P t) S0 (ev fr x) (fun d=>K (pt fr o.dst d) S)from h);refine⟨rfl,.of hS,d,G2 fun T hT=>?_,q2⟩;exact bH (by rw[hop];exact hs) (by rw[hop];simpa[aH]using Hr hT q1)
 |call c=>
  obtain⟨callee,args,ts⟩:=c
  cases callee with
  |value cal=>
   rw[hop]at h hs;obtain⟨hS,h⟩:=h;simp only[qd]at h;split at h
   ·rename_i f a cap hcal;obtain⟨h1,h2,h3,h4,d,h5,h6⟩:=h;refine⟨rfl,.of hS,d,G2 fun T hT=>?_,h6⟩;exact bH (by rw[hop];exact hs) (by rw[hop];simp only[aH,hcal];exact pg h1 h3 (by rw[h2,Kv];exact lT h4 (h5 T hT)))
   ·exact h.elim
  |builtin b=>rw[hop]at hk;cases b <;>cases hk
  |invoke r m=>rw[hop]at hk;cases hk
 |lookup t x y ok=>
  rw[hop]at h hs;obtain⟨hS,h⟩:=h;obtain⟨d,q1,q2⟩:=tj (show cc (mZ P t) S0 (ev fr x) (ev fr y) ok (fun d=>K (pt fr o.dst d) S)from h);refine⟨rfl,.of hS,d,G2 fun T hT=>?_,q2⟩;exact bH (by rw[hop];exact hs) (by rw[hop];simpa[aH]using AV hT q1)
 |_=>rw[hop]at hk;cases hk
theorem EN{gs ns:List Nat}{i:Nat}{o:Oper}{fr:List DV}{S:St}{K:List DV→St→Prop}(hs:eo o.op=true)(h:UK P w0 S0 S1 gs ns i o.op fr S fun d S'=>K (pt fr o.dst d) S'):lQ P w0 S0 S1 (cls gs ns i o.op) o fr S K:=by
 unfold UK at h
 cases hg:gs.contains i with
 |true=>
  rw[hg]at h;have hc:cls gs ns i o.op=2:=by unfold cls;rw[if_pos hg]
  rw[hc];have h':aH P w0 o.op fr S fun d S'=>Has S0 S'∧K (pt fr o.dst d) S':=h;exact .inr (.inr (.inl ⟨rfl,aD (fun d S' hk=>⟨.of hk.1,hk.2⟩) (bH hs h')⟩))
 |false=>
  rw[hg]at h
  cases hn:ns.contains i with
  |true=>
   rw[hn]at h;have hc:cls gs ns i o.op=6:=by unfold cls;rw[if_neg (by rw[hg];simp),if_pos hn]
   rw[hc];have h':aH P w0 o.op fr S fun d S'=>Has S1 S'∧K (pt fr o.dst d) S':=h;exact .inr (.inr (.inr (.inr (.inr (.inr ⟨rfl,aD (fun d S' hk=>⟨.of hk.1,hk.2⟩) (bH hs h')⟩)))))
  |false=>
   rw[hn]at h
   cases hm:ns.contains (i+1000)with
   |true=>
    rw[hm]at h;have hc:cls gs ns i o.op=5:=by unfold cls;rw[if_neg (by rw[hg];simp),if_neg (by rw[hn];simp),if_pos hm]
    rw[hc];obtain⟨h1,h⟩:kY o.op=1∧sV P w0 S1 o.op fr S fun d S'=>K (pt fr o.dst d) S':=h;obtain⟨-,hS,d,q,k⟩:=pv hs h1 h;exact .inr (.inr (.inr (.inr (.inr (.inl ⟨rfl,hS,d,q,k⟩)))))
   |false=>
   rw[hm]at h;have hc:cls gs ns i o.op=(match kY o.op with|0=>0|1=>1|2=>4|_=>3):=by unfold cls;rw[if_neg (by rw[hg];simp),if_neg (by rw[hn];simp),if_neg (by rw[hm];simp)]
   rw[hc];replace h:sV P w0 S0 o.op fr S fun d S'=>K (pt fr o.dst d) S':=h
   have gen:∀(h:cF (Z.kX o.op==0) (AA P w0 o.op fr S fun d=>K (pt fr o.dst d) S) (aH P w0 o.op fr S fun d S'=>K (pt fr o.dst d) S')),Z.kX o.op=0∨Z.kX o.op=3→kY o.op=Z.kX o.op→lQ P w0 S0 S1 (match kY o.op with|0=>0|1=>1|2=>4|_=>3) o fr S K:=by
    intro h hk hkk;rw[hkk];rcases hk with hk|hk
    ·rw[hk]at h ⊢;obtain⟨d,q1,q2⟩:=Z.vK hk (show AA P w0 o.op fr S fun d=>K (pt fr o.dst d) S from h)
     exact .inl ⟨rfl,d,fun S'=>by
      obtain⟨d',k1,k2⟩:=vx hs (q1 S');subst k2;exact k1,q2⟩
    ·rw[hk]at h ⊢;exact .inr (.inr (.inr (.inl ⟨rfl,bH hs h⟩)))
   cases hop:o.op with
   |load t x=>
    have h1:kY o.op=1:=by rw[hop];rfl
    obtain⟨-,hS,d,q,k⟩:=pv hs h1 h;exact .inr (.inl ⟨rfl,hS,d,q,k⟩)
   |alloc t=>
    rw[hop]at h;exact .inr (.inr (.inr (.inr (.inl ⟨rfl,.of h.1,t,hop,h.2.1,h.2.2⟩))))
   |call c=>
    obtain⟨callee,args,ts⟩:=c
    cases callee with
    |value cal=>
     have h1:kY o.op=1:=by rw[hop];rfl
     obtain⟨-,hS,d,q,k⟩:=pv hs h1 h;exact .inr (.inl ⟨rfl,hS,d,q,k⟩)
    |builtin b=>
     rw[←hop];refine gen (by rw[hop]at h ⊢;exact h) ?_ (by rw[hop];rfl);rw[hop];cases b <;>first|exact .inl rfl|exact .inr rfl
    |invoke r m=>
     rw[←hop];refine gen (by rw[hop]at h ⊢;exact h) ?_ (by rw[hop];rfl);rw[hop];exact .inr rfl
   |lookup t x y ok=>
    have h1:kY o.op=1:=by rw[hop];rfl
    obtain⟨-,hS,d,q,k⟩:=pv hs h1 h;exact .inr (.inl ⟨rfl,hS,d,q,k⟩)
   |_=>rw[←hop];refine gen (by rw[hop]at h ⊢;exact h) ?_ (by rw[hop];rfl);rw[hop];first|exact .inl rfl|exact .inr rfl
theorem cB{gs ns:List Nat}{K:List DV→St→Prop}(hs:∀(i:Nat) (o:Oper),ops[i]? =some o→eo o.op=true):∀(l:List Nat) {fr:List DV} {S:St},mo P w0 S0 S1 gs ns ops K l fr S→LO P w0 S0 S1 gs ns ops K l fr S
 |[],fr,S,h=>h
 |i::is,fr,S,h=>by
  unfold mo ri at h;unfold LO
  cases ho:ops[i]? with
  |none=>rw[ho]at h;exact h
  |some o=>
   rw[ho]at h;simp only at h ⊢;rcases jw h with⟨hw,ha⟩|⟨hw,hb⟩
   ·exact .inl ⟨hw,tz (fun fr S h=>cB hs is h) (EN (hs i o ho) ha)⟩
   ·exact .inr ⟨hw,cB hs is hb⟩
def r6(l:List Oper)(gs ns ord:List Nat):Bool:=l.all (fun o=>eo o.op)&&xZ gs ns .any l.toArray ord (Array.replicate l.length false)&&(ord.length==l.length)
theorem jZ(gs ns ord:List Nat){id:Nat}{l:List Oper}{fr:List DV}{S:St}{Q:Exit→List DV→St→Prop}(hm:P.follows .mixedOrders=true)(hB:r6 l gs ns ord=true)(h:mo P w0 S ⟨[],[]⟩ gs ns l.toArray (fun fr S=>iu fr fun fr=>Q .normal fr S) ord fr S):fV P w0 (.region id l.toArray true) fr S Q:=by
 simp only[r6,aak,beq_iff_eq]at hB;refine vG (fun T _=>kQ T) hm hB.1.2 hB.2 (cB (fun i o ho=>?_) ord h);have:l[i]? =some o:=by simpa using ho
 exact aa8.1 hB.1.1 o (aaf this)
theorem VB(S0 S1:St)(gs ns ord:List Nat){id:Nat}{l:List Oper}{fr:List DV}{S:St}{Q:Exit→List DV→St→Prop}(hm:P.follows .mixedOrders=true)(hB:r6 l gs ns ord=true)(hSS:∀T,Hm S0 T→Hm S1 T)(h:mo P w0 S0 S1 gs ns l.toArray (fun fr S=>iu fr fun fr=>Q .normal fr S) ord fr S):fV P w0 (.region id l.toArray true) fr S Q:=by
 simp only[r6,aak,beq_iff_eq]at hB;refine vG hSS hm hB.1.2 hB.2 (cB (fun i o ho=>?_) ord h);have:l[i]? =some o:=by simpa using ho
 exact aa8.1 hB.1.1 o (aaf this)
def Z5:List Nat→Nat→Prop
 |[],_=>False
 |a::L,b=>a=b∨Z5 L b
noncomputable def but(L:List Nat)(S:St):St:=⟨S.box.filter fun p=>@decide (¬Z5 L p.1) (Classical.propDecidable _),S.acc⟩
theorem nS{f:FuncId}{args args':List DV}{K:DV→Prop}{r:DV}(h:∀T,Has S0 T→ab P w0 f args' T (fun d S'=>d=r∧S'=T))(hk:K r)(ha:ej args args':=by exact ej.refl _):@QO P w0 S0 f args ⟨K⟩:=
 ⟨r,fun T hT=>jY (h T hT) ha ⟨rfl,rfl⟩,hk⟩
end
section
variable {P:Program} {w0:W0} {S0 S1:St} {gs ns:List Nat} {ops:Array Oper} {fr:List DV} {S:St} {dst:Option Tmp} {op:Op} {ty:TypeId} {pos:String} {aft:Array Edge}
section
variable {K:List DV→St→Prop}
theorem WX:mo P w0 S0 S1 gs ns ops K [] fr S=K fr S:=rfl
theorem SW(i:Nat)(is:List Nat):mo P w0 S0 S1 gs ns ops K (i::is) fr S=ri P w0 S0 S1 gs ns ops (mo P w0 S0 S1 gs ns ops K is) ops[i]? i fr S:=rfl
@[congr] theorem XR {oo oo':Option Oper} {i:Nat} (h:oo=oo'):ri P w0 S0 S1 gs ns ops K oo i fr S=ri P w0 S0 S1 gs ns ops K oo' i fr S:=by cases h;rfl
theorem RF(i:Nat):ri P w0 S0 S1 gs ns ops K (some ⟨dst,op,ty,pos,aft,none⟩) i fr S=UK P w0 S0 S1 gs ns i op fr S fun d S'=>K (pt fr dst d) S':=rfl
theorem Tp(i j:Nat)(want:Bool):ri P w0 S0 S1 gs ns ops K (some ⟨dst,op,ty,pos,aft,some (j,want)⟩) i fr S=gK ((ops[j]?).bind (·.dst)) fr want (fun fr=>UK P w0 S0 S1 gs ns i op fr S fun d S'=>K (pt fr dst d) S') (fun fr=>K (pt fr dst ud) S):=by unfold ri;exact rU _ _ _ _ _ _
end
variable {K:DV→St→Prop}
theorem ZQ(i:Nat):UK P w0 S0 S1 gs ns i op fr S K=cF (gs.contains i) (aH P w0 op fr S fun d S'=>Has S0 S'∧K d S') (cF (ns.contains i) (aH P w0 op fr S fun d S'=>Has S1 S'∧K d S') (cF (ns.contains (i+1000)) (kY op=1∧sV P w0 S1 op fr S K) (sV P w0 S0 op fr S K))):=rfl
theorem Tj(t:TypeId)(x:Operand):sV P w0 S0 (.load t x) fr S K=(Has S0 S∧bE (tk P t) S0 (ev fr x) (K · S)):=rfl
theorem KR(t:TypeId)(x y:Operand)(ok:Bool):sV P w0 S0 (.lookup t x y ok) fr S K=(Has S0 S∧cc (mZ P t) S0 (ev fr x) (ev fr y) ok (K · S)):=rfl
theorem RL(cal:Operand)(a:List Operand)(ts:Array TypeId):sV P w0 S0 (.call ⟨.value cal,a.toArray,ts⟩) fr S K=(Has S0 S∧qd P w0 S0 (ev fr cal) (a.map (ev fr)) (K · S)):=rfl
theorem NC(f:FuncId)(a cap:Array Value)(ds:List DV)(K:DV→Prop):qd P w0 S0 (.v (.func (.func f) a cap)) ds K=(a.size=0∧okF P f=true∧cap.toList.all (fun u=>u.oneCell')=true∧ds.all fk=true∧@QO P w0 S0 f (ds++cap.toList.map .v) ⟨K⟩):=rfl
@[congr] theorem W2 {cal cal':DV} {ds ds':List DV} {K:DV→Prop} (h1:cal=cal') (h2:ds=ds'):qd P w0 S0 cal ds K=qd P w0 S0 cal' ds' K:=by cases h1;cases h2;rfl
theorem TJ(x:Operand):sV P w0 S0 (.move x) fr S K=aS P w0 (.move x) fr S (K · S):=rfl
theorem Jw(x:Operand):sV P w0 S0 (.assign x) fr S K=aS P w0 (.assign x) fr S (K · S):=rfl
theorem RP(c a b:Operand):sV P w0 S0 (.pick c a b) fr S K=aS P w0 (.pick c a b) fr S (K · S):=rfl
theorem yS(t:TypeId)(x:Operand)(f:Nat):sV P w0 S0 (.fieldAddr t x f) fr S K=aS P w0 (.fieldAddr t x f) fr S (K · S):=rfl
theorem Ac(t:TypeId)(x i:Operand):sV P w0 S0 (.indexAddr t x i) fr S K=aS P w0 (.indexAddr t x i) fr S (K · S):=rfl
theorem Gg(x:Operand)(i:Nat):sV P w0 S0 (.extract x i) fr S K=aS P w0 (.extract x i) fr S (K · S):=rfl
theorem BW(x:Operand):sV P w0 S0 (.nilCheck x) fr S K=aS P w0 (.nilCheck x) fr S (K · S):=rfl
theorem B6(fn:Fn)(a b:Array Operand):sV P w0 S0 (.makeFunc fn a b) fr S K=aS P w0 (.makeFunc fn a b) fr S (K · S):=rfl
theorem Nw(t:TypeId)(parts:Array (Nat×Operand)):sV P w0 S0 (.build t parts) fr S K=aS P w0 (.build t parts) fr S (K · S):=rfl
theorem wg(t:TypeId)(len:Nat)(parts:Array (Nat×Operand)):sV P w0 S0 (.buildSlice t len parts) fr S K=aS P w0 (.buildSlice t len parts) fr S (K · S):=rfl
theorem W8(t:TypeId)(x:Operand):sV P w0 S0 (.box t x) fr S K=aH P w0 (.box t x) fr S K:=rfl
theorem Nd(t:TypeId)(x y:Operand):sV P w0 S0 (.store t x y) fr S K=aH P w0 (.store t x y) fr S K:=rfl
theorem Nl(a:Array Operand)(ts:Array TypeId):sV P w0 S0 (.call ⟨.builtin .len,a,ts⟩) fr S K=aS P w0 (.call ⟨.builtin .len,a,ts⟩) fr S (K · S):=rfl
theorem My(S:St):Has ⟨[],[]⟩ S=True:=eq_true ⟨fun b x h=>(by cases h),fun l o h=>(by cases h)⟩
theorem IK(S:St):Has S S=True:=eq_true (.refl S)
theorem Ph{S0:St}{B:List (Nat×List DV)}{A:List (Nat×Ob)}(b:Nat)(v:List DV)(hb:lk S0.box b=none)(h:Has S0 ⟨B,A⟩):Has S0 ⟨(b,v)::B,A⟩=True:=eq_true ⟨fun c x hc=>by
 have h1:=h.box c x hc;show lk ((b,v)::B) c=some x;rw[oS (fun e=>by rw[←e,hb]at hc;cases hc)];exact h1,h.acc⟩
theorem Nx{S0:St}{B:List (Nat×List DV)}{A:List (Nat×Ob)}(l:Nat)(v:Ob)(hb:lk S0.acc l=none)(h:Has S0 ⟨B,A⟩):Has S0 ⟨B,(l,v)::A⟩=True:=eq_true ⟨h.box,fun c x hc=>by
 have h1:=h.acc c x hc;show lk ((l,v)::A) c=some x;rw[oS (fun e=>by rw[←e,hb]at hc;cases hc)];exact h1⟩
def XG{α:Type}(l' l:List (Nat×α)):Prop:=∃p,l=p++l'
theorem Hi{α:Type}(l:List (Nat×α)):XG l l=True:=eq_true ⟨[],rfl⟩
theorem Jx{α:Type}(x:Nat×α)(l' l:List (Nat×α))(h:XG l' l):XG l' (x::l)=True:=eq_true (let⟨p,e⟩:=h;⟨x::p,by rw[e];rfl⟩)
theorem Re{α:Type}{l' l:List (Nat×α)}(b:FN l)(h:XG l' l):lk l' b.n=none:=by
 obtain⟨p,e⟩:=h;subst e;refine og (cG fun q hq=>oG b.h q (ac0 _ hq))
end
attribute [go_sem ↓] WX SW ZQ Tj KR RL NC TJ Jw RP yS Ac Gg BW B6 Nw wg W8 Nd Nl
attribute [go_sem] RF Tp My IK Ph Nx Hi Jx Re
end Aml.Y
namespace Aml
open Go Go.RowKit
def del(L:List (Nat×Ob))(n:Nat):List (Nat×Ob):=L.filter fun p=>p.1 !=n
section
variable {P:Program} {w0:W0}
end
end Aml
namespace Aml
open Go Go.RowKit
section
variable {P:Program} {w0:W0}
end
end Aml
namespace Aml
open Go Go.RowKit
section
variable {P:Program} {F:Fence} {n:Nat} {Q:Exit→Act→World→Prop} {a:Act} {w:World} {b:Frame} {k:List Item} {cs:List Frame}
end
section
variable {P:Program} {w0:W0}
end
end Aml
namespace Go.Proofs.YtoepfmhnapedoaaGreatDoor
open Aml Go
structure RH where
 lv:Int
 n:Int
 sn:List Int
 last:Int
 gone:Bool
@[go_sem] def wY (s:RH):DV:= .agg [dI s.lv,dI s.n,.sl 1 false (s.sn.map dI),dI s.last,dB s.gone]
def uH(lv n:Int)(s:RH):Bool:=decide (s.lv=lv)&&decide (s.n=n)&&!s.gone
def dm(l:List RH)(lv n:Int):Nat:=l.findIdx (uH lv n)
def sS(l:List RH)(lv n:Int):Int:=if dm l lv n<l.length then(dm l lv n:Int)else -1
def ic(l:List RH)(lv:Int):Nat:=l.countP fun s=>decide (s.lv=lv)
theorem B5(l:List RH)(lv:Int):ic l lv≤l.length:=List.countP_le_length
theorem I0(l:List RH)(lv:Int)(k:Nat):ic (l.take k) lv≤k:=by
 have:=B5 (l.take k) lv;rw[ab2]at this;omega
theorem th{l:List RH}{lv:Int}{k:Nat}{c:RH}(h:l[k]? =some c):ic (l.take (k+1)) lv=ic (l.take k) lv+if c.lv=lv then 1 else 0:=by
 unfold ic;rw[abY,h,ac4,List.countP_append];congr 1;by_cases e:c.lv=lv <;>simp[e]
theorem U7{l:List RH}{lv n:Int}{k:Nat}{c:RH}(hc:l[k]? =some c)(h:uH lv n c=true)(hn:∀(j:Nat) a,j<k→l[j]? =some a→uH lv n a=false):dm l lv n=k:=by
 obtain⟨hlt,rfl⟩:=aad.1 hc;exact(List.findIdx_eq hlt).2 ⟨h,fun j hj=>hn j _ hj (aac (by omega))⟩
theorem xe{l:List RH}{lv n:Int}(hn:∀(j:Nat) a,l[j]? =some a→uH lv n a=false):dm l lv n=l.length:=
 List.findIdx_eq_length_of_false fun x hx=>by
  obtain⟨j,hj⟩:=abv.1 hx;exact hn j x hj
theorem nI{l:List RH}{lv n:Int}(h:dm l lv n<l.length):∃c,l[dm l lv n]? =some c∧uH lv n c=true:=by
 refine⟨l[dm l lv n],aac h,?_⟩;exact List.findIdx_getElem (w:=h)
theorem tp(k:Nat)(h:k≤1048576):IntKind.i64.wrap ((k:Int)+1)=((k+1:Nat):Int):=by rw[nJ (by omega) (by omega)];omega
theorem zq(w0:W0)(l:List RH)(lv n:Int)(S:St)(hl:l.length≤1048576):ab Tryz.prog w0 43 [.sl 5 false (l.map wY),dI lv,dI n] S (fun d S'=>d=dI (sS l lv n)∧S'=S):=by
 have f1:=fun k c=>U7 (l:=l) (lv:=lv) (n:=n) (k:=k) (c:=c);have f2:=xe (l:=l) (lv:=lv) (n:=n);unfold sS;generalize dm l lv n=X at*;refine bI [] mx Tryz.func43 rfl rfl (by kernel_rfl) ?_;refine @aa _ (ah @Tryz.ntmps43 ?_);refine aQ [] l.length [0,1,2,7] (fun k=>[(7,dI k)]) (fun _=>S) (fun k=>∀(j:Nat) a,j<k→l[j]? =some a→uH lv n a=false) mx (by kernel_rfl) ?_ ?_
 ·refine @aa _ (av ?_);exact fun j a h=>absurd h (by omega)
 ·intro k hk hinv;refine @aa _ (av ?_);refine⟨fun hlt=>⟨hlt,fun c hc=>?_⟩,fun hge=>?_⟩
  ·have hno:uH lv n c=false→∀(j:Nat) a,j<k+1→l[j]? =some a→uH lv n a=false:=fun h j a hj ha=>by
    rcases abz j k with h1|h1
    ·exact hinv j a h1 ha
    ·have:j=k:=by omega
     subst this;cases Cy hc ha;exact h
   have nx:uH lv n c=false→k<l.length∧(∀(j:Nat) a,j<k+1→l[j]? =some a→uH lv n a=false)∧IntKind.i64.wrap ((k:Int)+1)=((k+1:Nat):Int):=fun h=>⟨hlt,hno h,tp k (by omega)⟩;refine⟨fun e1=>⟨hlt,fun a ha=>?_⟩,fun e1=>nx (by unfold uH;simp[e1])⟩;cases Cy hc ha;refine⟨fun e2=>⟨hlt,fun a ha=>?_⟩,fun e2=>nx (by unfold uH;simp[e2])⟩;cases Cy hc ha;refine⟨fun e3=>nx (by unfold uH;simp[e3]),fun e3=>?_⟩;have:=f1 k c hc (by unfold uH;simp[e1,e2,e3]) hinv;rw[this,if_pos hlt]
  ·rw[f2 fun j a hj=>hinv j a (by have:=(aad.1 hj).1;omega) hj,if_neg (by omega)]
theorem ej.app:∀{a b c d:List DV},ej a b→ej c d→ej (a++c) (b++d)
 |[],[],_,_,_,h=>h
 |_::_,_::_,_,_,h,k=>⟨h.1,ej.app h.2 k⟩
def oB(l:List RH)(lv:Int):List RH×Int:=(l++[⟨lv,(ic l lv:Int)+1,[],0,false⟩],(ic l lv:Int)+1)
theorem Q2(w0:W0)(l:List RH)(lv:Int)(S:St)(hl:l.length≤1000000):ab Tryz.prog w0 41 [.sl 5 false (l.map wY),dI lv] S (fun d S'=>d= .cW [.sl 5 false ((oB l lv).1.map wY),dI (oB l lv).2]∧S'=S):=by
 unfold oB;have hcl:=B5 l lv;refine bI [] mx Tryz.func41 rfl rfl (by kernel_rfl) ?_;refine @aa _ (ah @Tryz.ntmps41 ?_);refine aQ [] l.length [0,1,6,7] (fun k=>[(6,dI ((ic (l.take k) lv:Int)+1)),(7,dI k)]) (fun _=>S) (fun _=>True) mx (by kernel_rfl) ?_ ?_
 ·refine @aa _ (av ?_);rfl
 ·intro k hk _;have h1:=I0 l lv k;refine @aa _ (av ?_);refine⟨fun hlt=>⟨hlt,fun c hc=>?_⟩,fun hge=>?_⟩
  ·have h2:=th (lv:=lv) hc;refine⟨fun e1=>?_,fun e1=>?_⟩
   ·rw[if_pos e1]at h2;exact⟨hlt,by rw[nJ (by omega) (by omega)];omega,tp k (by omega)⟩
   ·rw[if_neg e1]at h2;exact⟨hlt,by omega,tp k (by omega)⟩
  ·have hm8:maxLen=9223372036854775807:=rfl;rw[abf (by omega)];refine⟨by omega,by omega,fun la=>⟨by omega,by omega,?_⟩⟩;rw[aaZ];exact .cW ⟨Wk.sl (ej.app (.refl _) ⟨.agg ⟨.refl _,.refl _,.nil _ _ _,.refl _,.refl _,trivial⟩,trivial⟩),.refl _,trivial⟩
theorem Lr(w0:W0)(l:List RH)(i:Nat)(s:RH)(S:St)(hl:l.length≤1000000)(hi:i<l.length):ab Tryz.prog w0 137 [.sl 5 false (l.map wY),dI i,wY s] S (fun d S'=>d= .sl 5 false ((l.set i s).map wY)∧S'=S):=by
 have hm8:maxLen=9223372036854775807:=rfl;refine bI [] mx Tryz.func137 rfl rfl (by kernel_rfl) ?_;refine @aa _ (ah @Tryz.ntmps137 ?_);refine fun b=>⟨by omega,by omega,fun la=>⟨hi,hi,fun a ha=>?_⟩⟩;exact .eq (by rw[adv];rfl)
def oy(l:List RH)(lv n:Int):List RH×Bool:=if dm l lv n<l.length then(l.set (dm l lv n) ⟨lv,n,[],0,true⟩,true)else(l,false)
theorem Dc(w0:W0)(l:List RH)(lv n:Int)(S:St)(hl:l.length≤1000000):ab Tryz.prog w0 96 [.sl 5 false (l.map wY),dI lv,dI n] S (fun d S'=>d= .cW [.sl 5 false ((oy l lv n).1.map wY),dB (oy l lv n).2]∧S'=S):=by
 have hf:=fun S=>zq w0 l lv n S (by omega);have hw:=fun i s S hi=>Lr w0 l i s S hl hi;unfold oy;by_cases h:dm l lv n<l.length
 ·have e:sS l lv n=(dm l lv n:Int):=by unfold sS;rw[if_pos h]
  rw[e]at hf;rw[if_pos h];generalize dm l lv n=X at*;refine bI [] mx Tryz.func96 rfl rfl (by kernel_rfl) ?_;refine @aa _ (ah @Tryz.ntmps96 ?_);refine aq (hf _) (@aa _ (av ?_));refine⟨fun h0=>by omega,fun _=>aq (hw X ⟨lv,n,[],0,true⟩ _ h) ?_ ⟨.refl _,.refl _,.agg ⟨.refl _,.refl _,.nil _ _ _,.refl _,.refl _,trivial⟩,trivial⟩⟩;exact @aa _ bY
 ·have e:sS l lv n= -1:=by unfold sS;rw[if_neg h]
  rw[e]at hf;rw[if_neg h];refine bI [] mx Tryz.func96 rfl rfl (by kernel_rfl) ?_;refine @aa _ (ah @Tryz.ntmps96 ?_);refine aq (hf _) ?_;exact @aa _ bY
def Kc(s:RH):RH:={s with sn:=s.sn++[s.last+1],last:=s.last+1}
def oz(l:List RH)(lv n:Int):List RH×Int:=match l[dm l lv n]? with
 |some s=>(l.set (dm l lv n) (Kc s),s.last+1)
 |none=>(l,0)
theorem S5(w0:W0)(l:List RH)(lv n:Int)(S:St)(hl:l.length≤1000000)(hs:∀s,s∈l→s.sn.length≤1000000∧0≤s.last∧s.last≤1000000):ab Tryz.prog w0 90 [.sl 5 false (l.map wY),dI lv,dI n] S (fun d S'=>d= .cW [.sl 5 false ((oz l lv n).1.map wY),dI (oz l lv n).2]∧S'=S):=by
 have hf:=fun S=>zq w0 l lv n S (by omega);have hw:=fun i s S hi=>Lr w0 l i s S hl hi;have hm8:maxLen=9223372036854775807:=rfl;unfold oz
 cases hx:l[dm l lv n]? with
 |some s=>
  have h:=(aad.1 hx).1;obtain⟨b1,b2,b3⟩:=hs s (aaf hx);have e:sS l lv n=(dm l lv n:Int):=by unfold sS;rw[if_pos h]
  rw[e]at hf;generalize dm l lv n=X at*;have ew:IntKind.i64.wrap (s.last+1)=s.last+1:=nJ (by omega) (by omega);refine bI [10] mx Tryz.func90 rfl rfl (by kernel_rfl) ?_;refine @aa _ (ah @Tryz.ntmps90 ?_);refine aq (hf _) (@aa _ (av ?_));refine⟨fun h0=>by omega,fun _=>⟨h,fun a ha b=>?_⟩⟩;cases Cy hx ha;refine⟨by omega,by omega,fun la=>?_⟩;refine @aa _ (ah @ew ?_);refine⟨by omega,by omega,?_⟩;have hlen:(s.sn.map dI++[dI (s.last+1)]).length=s.sn.length+1:=by simp
  refine PA b.n 2 (l:=la.n) (s:=1) (xs:=s.sn.map dI++[dI (s.last+1)]) (ds:=[dI s.lv,dI s.n,.acc la.n (s.sn.length+1),dI (s.last+1),dB s.gone]) (by exact @aa _ bY) (by rw[hlen];rfl) (by exact @aa _ bY) ?_;refine @aa _ (av ?_);refine VK mx (by kernel_rfl) ?_;refine @aa _ (av ?_);refine Xj (fun B hB=>hw X (Kc s) _ h) ?_ ⟨.refl _,.refl _,?_,trivial⟩
  ·exact @aa _ bY
  ·unfold Kc;simp(maxDischargeDepth:=12) (maxSteps:=1000000) -implicitDefEqProofs only[go_sem,Nat.reduceAdd,Nat.reduceSub,Nat.reduceMul,Nat.reduceLeDiff,Nat.reduceEqDiff,Nat.reduceGT,Nat.reduceBEq,reduceCtorEq,↓reduceIte,Int.reduceToNat,Int.reduceLE,Int.reduceLT,Int.reduceNe,Int.reduceEq,aaZ,abB,List.map_nil]
 |none=>
  have h:¬dm l lv n<l.length:=by have:=adi.1 hx;omega
  have e:sS l lv n= -1:=by unfold sS;rw[if_neg h]
  rw[e]at hf;refine bI [] mx Tryz.func90 rfl rfl (by kernel_rfl) ?_;refine @aa _ (ah @Tryz.ntmps90 ?_);refine aq (hf _) ?_;exact @aa _ bY
def pX(x:Int)(l:List Int):List Int:=l.filter fun y=>!decide (y=x)
def oA(l:List RH)(lv n x:Int):List RH×Bool:=match l[dm l lv n]? with
 |some s=>if(pX x s.sn).length=s.sn.length then(l,false)else(l.set (dm l lv n) ⟨s.lv,s.n,pX x s.sn,s.last,s.gone⟩,true)
 |none=>(l,false)
theorem Lg{l:List Int}{x:Int}{k:Nat}{c:Int}(h:l[k]? =some c):pX x (l.take (k+1))=pX x (l.take k)++if c=x then []else [c]:=by
 unfold pX;rw[abY,h,ac4,acK];congr 1;by_cases e:c=x <;>simp[e]
theorem Ir(l:List Int)(x:Int)(k:Nat):(pX x (l.take k)).length≤k:=by
 have:=acz (fun y=>!decide (y=x)) (l.take k);rw[ab2]at this;unfold pX;omega
theorem IT(w0:W0)(l:List RH)(lv n x:Int)(S:St)(hl:l.length≤1000000)(hs:∀s,s∈l→s.sn.length≤1000000):ab Tryz.prog w0 89 [.sl 5 false (l.map wY),dI lv,dI n,dI x] S (fun d S'=>d= .cW [.sl 5 false ((oA l lv n x).1.map wY),dB (oA l lv n x).2]∧S'=S):=by
 have hf:=fun S=>zq w0 l lv n S (by omega);have hw:=fun i s S hi=>Lr w0 l i s S hl hi;have hm8:maxLen=9223372036854775807:=rfl;unfold oA
 cases hx:l[dm l lv n]? with
 |some s=>
  have h:=(aad.1 hx).1;have b1:=hs s (aaf hx);have e:sS l lv n=(dm l lv n:Int):=by unfold sS;rw[if_pos h]
  rw[e]at hf;generalize dm l lv n=X at*;simp only;generalize hR:(if(pX x s.sn).length=s.sn.length then(l,false)else(l.set X ⟨s.lv,s.n,pX x s.sn,s.last,s.gone⟩,true))=R;refine bI [14] mx Tryz.func89 rfl rfl (by kernel_rfl) ?_;refine @aa _ (ah @Tryz.ntmps89 ?_);refine aq (hf _) (@aa _ (av ?_));refine⟨fun h0=>by omega,fun _=>⟨h,fun a ha b=>?_⟩⟩;cases Cy hx ha;refine jr 12 1 rfl (by omega) fun la=>?_;refine @aa _ (av ?_);refine aQ [14] s.sn.length [0,3,10,11,12,13] (fun k=>[(12,.acc la.n (pX x (s.sn.take k)).length),(13,dI k)]) (fun k=>⟨(b.n,[dI s.lv,dI s.n,.sl 1 false (s.sn.map dI),dI s.last,dB s.gone])::S.box,(la.n,.arr 1 ((pX x (s.sn.take k)).map dI))::S.acc⟩) (fun _=>True) mx (by kernel_rfl) ?_ ?_
  ·refine @aa _ (av ?_);exact⟨.refl _,.refl _⟩
  ·intro k hk _;have hft:=Ir s.sn x k;refine @aa _ (av ?_);refine⟨fun hlt=>⟨hlt,fun c hc=>?_⟩,fun hge=>?_⟩
   ·have hsu:=Lg (x:=x) hc;refine⟨fun e1=>⟨hlt,fun a ha=>?_⟩,fun e1=>?_⟩
    ·cases Cy hc ha;rw[if_neg e1]at hsu;rw[hsu,aaK,aaZ];exact⟨by omega,by omega,hlt,⟨.refl _,tp k (by omega)⟩,.refl _⟩
    ·rw[if_pos (Decidable.not_not.1 e1),aco]at hsu;rw[hsu];exact⟨hlt,⟨.refl _,tp k (by omega)⟩,.refl _⟩
   ·have hkl:k=s.sn.length:=by omega
    have htl:s.sn.take k=s.sn:=abf (by omega);rw[htl];refine⟨fun e1=>?_,fun e1=>?_⟩
    ·rw[if_pos e1]at hR;subst hR;exact .refl _
    ·rw[if_neg e1]at hR;subst hR;have hlen:((pX x s.sn).map dI).length=(pX x s.sn).length:=abI _;refine PA b.n 2 (l:=la.n) (s:=1) (xs:=(pX x s.sn).map dI) (ds:=[dI s.lv,dI s.n,.acc la.n (pX x s.sn).length,dI s.last,dB s.gone]) (by exact @aa _ bY) (by rw[hlen];rfl) (by exact @aa _ bY) ?_;refine @aa _ (av ?_);refine HX [] [] mx (by kernel_rfl) ?_;refine @aa _ (av ?_);refine aq (hw X ⟨s.lv,s.n,pX x s.sn,s.last,s.gone⟩ _ h) ?_;exact @aa _ bY
 |none=>
  have h:¬dm l lv n<l.length:=by have:=adi.1 hx;omega
  have e:sS l lv n= -1:=by unfold sS;rw[if_neg h]
  rw[e]at hf;refine bI [] mx Tryz.func89 rfl rfl (by kernel_rfl) ?_;refine @aa _ (ah @Tryz.ntmps89 ?_);refine aq (hf _) ?_;exact @aa _ bY
def lL(l:List RH)(lv n:Int):List Int:=match l[dm l lv n]? with
 |some s=>s.sn
 |none=>[]
theorem PG(w0:W0)(l:List RH)(lv n:Int)(S:St)(hl:l.length≤1000000):ab Tryz.prog w0 135 [.sl 5 false (l.map wY),dI lv,dI n] S (fun d S'=>d=dL (lL l lv n)∧S'=S):=by
 have hf:=fun S=>zq w0 l lv n S (by omega);unfold lL
 cases hx:l[dm l lv n]? with
 |some s=>
  have h:=(aad.1 hx).1;have e:sS l lv n=(dm l lv n:Int):=by unfold sS;rw[if_pos h]
  rw[e]at hf;generalize dm l lv n=X at*;refine bI [] mx Tryz.func135 rfl rfl (by kernel_rfl) ?_;refine @aa _ (ah @Tryz.ntmps135 ?_);refine aq (hf _) (@aa _ (av ?_));refine⟨fun h0=>by omega,fun _=>⟨h,fun a ha=>?_⟩⟩;cases Cy hx ha;exact .refl _
 |none=>
  have h:¬dm l lv n<l.length:=by have:=adi.1 hx;omega
  have e:sS l lv n= -1:=by unfold sS;rw[if_neg h]
  rw[e]at hf;refine bI [] mx Tryz.func135 rfl rfl (by kernel_rfl) ?_;refine @aa _ (ah @Tryz.ntmps135 ?_);refine aq (hf _) ?_;exact @aa _ bY
end Go.Proofs.YtoepfmhnapedoaaGreatDoor
namespace Go.Proofs.YtoepfmhnapedoaaGreatDoor
open Aml Go
section
variable (S:St) (l:Nat) (K:DV→St→Prop)
theorem VC:eW (.mp l)=true:=rfl
theorem SK:fk (.mp l)=true:=rfl
theorem ZU:cd (.mp l)=[.mp l]:=rfl
theorem VY:shr S (.mp l) K=K (.mp l) S:=rfl
theorem SX:pM S (.mp l) K=K (.mp l) S:=rfl
end
attribute [go_sem] VC ZU SK
attribute [go_sem ↓] VY SX
def r8(lv n:Int):Value:= .agg [Value.int .i64 lv,.int .i64 n].toArray
@[go_sem] def bC (b:Nat):DV:= .v (.pointer (some ⟨b,0,none⟩))
@[go_sem] def CS (lv n:Int):DV:= .agg [dI lv,dI n]
theorem o0{α:Type}{L:List (Nat×α)}{b c:Nat}{v:α}(h:lk (up L b v) c=none):lk L c=none:=by
 by_cases e:b=c
 ·subst e;rw[aM]at h
  cases hl:lk L b with
  |none=>rfl
  |some x=>rw[hl]at h;cases h
 ·rw[ae e]at h;exact h
structure vJ(S:St)(t l1 l2:Nat)(es1:List (Value×DV×Nat))(c1:Nat)(es2:List (Value×DV×Nat))(c2:Nat):Prop where
 tb:lk S.box t=some [.mp l1,.mp l2]
 m1:lk S.acc l1=some (.xo (.mp (.int .i64) es1 c1))
 m2:lk S.acc l2=some (.xo (.mp (.st [.i64,.i64]) es2 c2))
def xV(o:Option Nat):DV:=match o with
 |some b=>bC b
 |none=> .v (.pointer none)
theorem Q4(w0:W0){S:St}{t l1 l2:Nat}{es1:List (Value×DV×Nat)}{c1:Nat}{es2:List (Value×DV×Nat)}{c2:Nat}(h:vJ S t l1 l2 es1 c1 es2 c2)(lv n:Int)(o:Option Nat)(hg:aT es2 (r8 lv n)=o.map bC):
 ab Tryz.prog w0 68 [bC t,CS lv n] S (fun d S'=>d=xV o∧S'=S):=by
 have h1:=h.tb;have h2:=h.m2;unfold r8 at hg
 cases o with
 |some c=>
  simp only[abH]at hg;unfold xV;refine bI [] mx Tryz.func68 rfl rfl (by kernel_rfl) ?_;refine @aa _ (ah @Tryz.ntmps68 ?_);intro b;exact @aa _ (tI @h1 @h2 @hg)
 |none=>
  simp only[Option.map_none]at hg;unfold xV;refine bI [] mx Tryz.func68 rfl rfl (by kernel_rfl) ?_;refine @aa _ (ah @Tryz.ntmps68 ?_);intro b;exact @aa _ (tI @h1 @h2 @hg)
theorem Uo(w0:W0){S:St}{t l1 l2:Nat}{es1:List (Value×DV×Nat)}{c1:Nat}{es2:List (Value×DV×Nat)}{c2:Nat}(h:vJ S t l1 l2 es1 c1 es2 c2)(lv n:Int)(o:Option Nat)(hg:aT es2 (r8 lv n)=o.map bC):
 ab Tryz.prog w0 37 [bC t,CS lv n] S (fun d S'=>d=dB o.isSome∧S'=S):=by
 have ho:=fun T (hT:vJ T t l1 l2 es1 c1 es2 c2)=>Q4 w0 hT lv n o hg;refine bI [] mx Tryz.func37 rfl rfl (by kernel_rfl) ?_;refine @aa _ (ah @Tryz.ntmps37 ?_);intro b;refine aq (ho _ ⟨by exact @aa _ (ft @h.tb),h.m1,h.m2⟩) ?_;unfold xV;cases o <;>exact @aa _ bY
theorem DK(w0:W0){S:St}{t l1 l2:Nat}{es1:List (Value×DV×Nat)}{c1:Nat}{es2:List (Value×DV×Nat)}{c2:Nat}(h:vJ S t l1 l2 es1 c1 es2 c2)(lv n:Int)(o:Option Nat)(hg:aT es2 (r8 lv n)=o.map bC):
 ab Tryz.prog w0 119 [bC t,CS lv n] S (fun d S'=>d=dB o.isSome∧S'=if o.isSome then⟨S.box,up S.acc l2 (.xo (.mp (.st [.i64,.i64]) (jR es2 (r8 lv n)) c2))⟩else S):=by
 have ho:=fun T (hT:vJ T t l1 l2 es1 c1 es2 c2)=>Uo w0 hT lv n o hg;have h1:=h.tb;have h2:=h.m2;unfold r8;refine mh [] mx Tryz.func119 rfl rfl (by kernel_rfl) ?_;refine @aa _ (ah @Tryz.ntmps119 ?_);intro b;refine aq (ho _ ⟨by exact @aa _ (ft @h.tb),h.m1,h.m2⟩) ?_
 cases o with
 |none=>
  refine @aa _ (av ?_);exact⟨_,_,.refl _,.aN (.refl _),rfl,rfl⟩
 |some c=>
  refine @aa _ (cK @h1 @h2 ?_);exact⟨_,_,.refl _,.aN (.refl _),rfl,rfl⟩
theorem Zq(w0:W0)(S:St):ab Tryz.prog w0 31 [] S (fun d S'=>∃(l1:FN S.acc) (l2:FN ((l1.n,.xo (.mp (.int .i64) [] 0))::S.acc)) (t:FN S.box),d=bC t.n∧S'=⟨(t.n,[.mp l1.n,.mp l2.n])::S.box,(l2.n,.xo (.mp (.st [.i64,.i64]) [] 0))::(l1.n,.xo (.mp (.int .i64) [] 0))::S.acc⟩):=by
 refine lO [] mx Tryz.func31 rfl rfl (by kernel_rfl) ?_;refine @aa _ (ah @Tryz.ntmps31 ?_);exact fun l1 l2 t=>⟨l1,l2,t,rfl,rfl⟩
theorem WB(w0:W0){S:St}{t l1 l2:Nat}{es1:List (Value×DV×Nat)}{c1:Nat}{es2:List (Value×DV×Nat)}{c2:Nat}(h:vJ S t l1 l2 es1 c1 es2 c2)(lv n:Int)(b m:Nat)(hg:aT es2 (r8 lv n)=some (bC b))(la:Int)(es:List (Value×DV×Nat))(c:Nat)
 (hb:lk S.box b=some [dI la,.mp m]) (hm:lk S.acc m=some (.xo (.mp (.int .i64) es c))) (hn:aT es (.int .i64 (la+1))=none) (h0:0≤la) (h1:la≤1000000):
 ab Tryz.prog w0 129 [bC t,CS lv n] S (fun d S'=>d=dI (la+1)∧S'=⟨up S.box b [dI (la+1),.mp m],up S.acc m (.xo (.mp (.int .i64) (ep es c (.int .i64 (la+1)) (dI 1)) (gq es c (.int .i64 (la+1)))))⟩):=by
 have ho:=fun T (hT:vJ T t l1 l2 es1 c1 es2 c2)=>Q4 w0 hT lv n (some b) hg;have ew:IntKind.i64.wrap (la+1)=la+1:=nJ (by omega) (by omega);have ez:IntKind.i64.wrap (0+1)=1:=by decide
 refine mh [] mx Tryz.func129 rfl rfl (by kernel_rfl) ?_;refine @aa _ (ah @Tryz.ntmps129 ?_);intro b3;refine aq (ho _ ⟨by exact @aa _ (ft @h.tb),h.m1,h.m2⟩) ?_;unfold xV;refine @aa _ (eQ @hb @hm @ew @ez @hn ?_);exact⟨_,_,.refl _,.aN (.refl _),rfl,rfl⟩
theorem TW(w0:W0){S:St}{t l1 l2:Nat}{es1:List (Value×DV×Nat)}{c1:Nat}{es2:List (Value×DV×Nat)}{c2:Nat}(h:vJ S t l1 l2 es1 c1 es2 c2)(lv n:Int)(hg:aT es2 (r8 lv n)=none):
 ab Tryz.prog w0 129 [bC t,CS lv n] S (fun d S'=>d=dI 0∧S'=S):=by
 have ho:=fun T (hT:vJ T t l1 l2 es1 c1 es2 c2)=>Q4 w0 hT lv n none hg;refine bI [] mx Tryz.func129 rfl rfl (by kernel_rfl) ?_;refine @aa _ (ah @Tryz.ntmps129 ?_);intro b3;refine aq (ho _ ⟨by exact @aa _ (ft @h.tb),h.m1,h.m2⟩) ?_;unfold xV;exact @aa _ bY
theorem HB(w0:W0){S:St}{t l1 l2:Nat}{es1:List (Value×DV×Nat)}{c1:Nat}{es2:List (Value×DV×Nat)}{c2:Nat}(h:vJ S t l1 l2 es1 c1 es2 c2)(lv n x:Int)(hg:aT es2 (r8 lv n)=none):
 ab Tryz.prog w0 130 [bC t,CS lv n,dI x] S (fun d S'=>d=dB false∧S'=S):=by
 have ho:=fun T (hT:vJ T t l1 l2 es1 c1 es2 c2)=>Q4 w0 hT lv n none hg;refine bI [] mx Tryz.func130 rfl rfl (by kernel_rfl) ?_;refine @aa _ (ah @Tryz.ntmps130 ?_);intro b3;refine aq (ho _ ⟨by exact @aa _ (ft @h.tb),h.m1,h.m2⟩) ?_;unfold xV;exact @aa _ bY
theorem DO(w0:W0){S:St}{t l1 l2:Nat}{es1:List (Value×DV×Nat)}{c1:Nat}{es2:List (Value×DV×Nat)}{c2:Nat}(h:vJ S t l1 l2 es1 c1 es2 c2)(lv n x:Int)(b m:Nat)(hg:aT es2 (r8 lv n)=some (bC b))(la:Int)(es:List (Value×DV×Nat))(c:Nat)
 (hb:lk S.box b=some [dI la,.mp m]) (hm:lk S.acc m=some (.xo (.mp (.int .i64) es c))) (r:Bool) (hn:aT es (.int .i64 x)=if r then some (dI 1)else none):
 ab Tryz.prog w0 130 [bC t,CS lv n,dI x] S (fun d S'=>d=dB r∧S'=if r then⟨S.box,up S.acc m (.xo (.mp (.int .i64) (jR es (.int .i64 x)) c))⟩else S):=by
 have ho:=fun T (hT:vJ T t l1 l2 es1 c1 es2 c2)=>Q4 w0 hT lv n (some b) hg;refine mh [] mx Tryz.func130 rfl rfl (by kernel_rfl) ?_;refine @aa _ (ah @Tryz.ntmps130 ?_);intro b3;refine aq (ho _ ⟨by exact @aa _ (ft @h.tb),h.m1,h.m2⟩) ?_;unfold xV
 cases r with
 |true=>
  simp only[if_true]at hn;refine @aa _ (cL @hb @hm @hn ?_);exact⟨_,_,.refl _,.aN (.refl _),rfl,rfl⟩
 |false=>
  simp only[if_false,abQ]at hn;refine @aa _ (cL @hb @hm @hn ?_);exact⟨_,_,.refl _,.aN (.refl _),rfl,rfl⟩
theorem RO(w0:W0){S:St}{t l1 l2:Nat}{es1:List (Value×DV×Nat)}{c1:Nat}{es2:List (Value×DV×Nat)}{c2:Nat}(h:vJ S t l1 l2 es1 c1 es2 c2)(hne:l1≠l2):
 ab Tryz.prog w0 67 [bC t] S (fun d S'=>S'=⟨S.box,up (up S.acc l1 (.xo (.mp (.int .i64) [] c1))) l2 (.xo (.mp (.st [.i64,.i64]) [] c2))⟩):=by
 have h1:=h.tb;have h2:=h.m1;have h3:=h.m2;have h4:lk (up S.acc l1 (.xo (.mp (.int .i64) [] c1))) l2=some (.xo (.mp (.st [.i64,.i64]) es2 c2)):=by rw[ae hne];exact h3
 refine lO [] mx Tryz.func67 rfl rfl (by kernel_rfl) ?_;refine @aa _ (ah @Tryz.ntmps67 ?_);exact @aa _ (tI @h1 @h2 @h4)
theorem Ws(w0:W0){S:St}{t l1 l2:Nat}{es1:List (Value×DV×Nat)}{c1:Nat}{es2:List (Value×DV×Nat)}{c2:Nat}(h:vJ S t l1 l2 es1 c1 es2 c2)(hne:l1≠l2)(lv:Int)(k:Nat)(hk:k≤1000000)(hg:aT es1 (.int .i64 lv)=if k=0 then none else some (dI k)):
 ab Tryz.prog w0 35 [bC t,dI lv] S (fun d S'=>∃b m:Nat,lk S.box b=none∧lk S.acc m=none∧d=dI ((k:Int)+1)∧S'=⟨(b,[dI 0,.mp m])::S.box,(m,.xo (.mp (.int .i64) [] 0))::up (up S.acc l1 (.xo (.mp (.int .i64) (ep es1 c1 (.int .i64 lv) (dI ((k:Int)+1))) (gq es1 c1 (.int .i64 lv))))) l2 (.xo (.mp (.st [.i64,.i64]) (ep es2 c2 (r8 lv ((k:Int)+1)) (bC b)) (gq es2 c2 (r8 lv ((k:Int)+1)))))⟩):=by
 have h1:=h.tb;have h2:=h.m1;have h3:=h.m2;have h4:∀v,lk (up S.acc l1 v) l2=some (.xo (.mp (.st [.i64,.i64]) es2 c2)):=fun v=>by rw[ae hne];exact h3
 have h5:∀v,lk (up S.acc l1 v) l1=some v:=fun v=>by rw[aM,h2];rfl
 have h6:∀v w,lk (up (up S.acc l1 v) l2 w) l1=some v:=fun v w=>by rw[ae (fun e=>hne e.symm)];exact h5 v
 have e1:IntKind.i64.wrap ((k:Int)+1)=(k:Int)+1:=nJ (by omega) (by omega)
 have hd:∀F:DV→Prop,∀G:Prop,(k=0→G)→(k≠0→F (dI k))→SQ (aT es1 (.int .i64 lv)) F G:=fun F G a b=>by
  rw[hg];split
  ·exact a (by assumption)
  ·exact b (by assumption)
 unfold r8;refine lO [4] mx Tryz.func35 rfl rfl (by kernel_rfl) ?_;refine @aa _ (ah @Tryz.ntmps35 ?_);refine @aa _ (cK @h1 @h2 ?_);refine hd _ _ (fun k0=>?_) fun k0=>?_
 ·subst k0;have e0:IntKind.i64.wrap (0+1)=1:=by decide
  have ez:(0:Int)+1=1:=rfl;rw[e0];refine Y.jZ [12,14] [15] [0,1,2,4,5,6,7,9,3,8,10,11,12,13,14,15] mx (by kernel_rfl) ?_;refine @aa _ (jL @h1 @h4 @h5 @h6 @bD @ez ?_);exact fun l b=>⟨b.n,l.n,ao b,o0 (ao l),rfl⟩
 ·refine @aa _ (cK @e1 @h2 ?_);refine Y.jZ [12,14] [15] [0,1,2,4,5,6,7,9,3,8,10,11,12,13,14,15] mx (by kernel_rfl) ?_;refine @aa _ (eQ @h1 @h4 @h5 @h6 @bD ?_);exact fun l b=>⟨b.n,l.n,ao b,o0 (ao l),rfl⟩
end Go.Proofs.YtoepfmhnapedoaaGreatDoor
namespace Go.Proofs
open Go.Shelf
def Tryz.yP:Go.Shelf.Ren:=⟨fun|189=>199|125=>141|257=>205|128=>173|129=>174|294=>207|295=>208|296=>209|297=>210|298=>211|299=>212|216=>213|300=>214|301=>215|328=>217|329=>189|330=>190|331=>218|332=>219|215=>197|343=>220|n=>n,fun|28=>24|3=>3|46=>181|0=>0|51=>148|53=>75|4=>4|183=>208|182=>207|131=>213|5=>5|9=>9|218=>231|222=>235|228=>242|229=>243|n=>n,fun|n=>n⟩
theorem Tryz.DE:Go.Proofs.Lays.n189 Tryz.prog Tryz.yP:={
 mixed:=by kernel_rfl
 f125:=Tryz.func141.trans (congrArg some (by kernel_rfl))
 f128:=Tryz.func173.trans (congrArg some (by kernel_rfl))
 f129:=Tryz.func174.trans (congrArg some (by kernel_rfl))
 f189:=Tryz.func199.trans (congrArg some (by kernel_rfl))
 f215:=Tryz.func197.trans (congrArg some (by kernel_rfl))
 f216:=Tryz.func213.trans (congrArg some (by kernel_rfl))
 f257:=Tryz.func205.trans (congrArg some (by kernel_rfl))
 f294:=Tryz.func207.trans (congrArg some (by kernel_rfl))
 f295:=Tryz.func208.trans (congrArg some (by kernel_rfl))
 f296:=Tryz.func209.trans (congrArg some (by kernel_rfl))
 f297:=Tryz.func210.trans (congrArg some (by kernel_rfl))
 f298:=Tryz.func211.trans (congrArg some (by kernel_rfl))
 f299:=Tryz.func212.trans (congrArg some (by kernel_rfl))
 f300:=Tryz.func214.trans (congrArg some (by kernel_rfl))
 f301:=Tryz.func215.trans (congrArg some (by kernel_rfl))
 f328:=Tryz.func217.trans (congrArg some (by kernel_rfl))
 f329:=Tryz.func189.trans (congrArg some (by kernel_rfl))
 f330:=Tryz.func190.trans (congrArg some (by kernel_rfl))
 f331:=Tryz.func218.trans (congrArg some (by kernel_rfl))
 f332:=Tryz.func219.trans (congrArg some (by kernel_rfl))
 f343:=Tryz.func220.trans (congrArg some (by kernel_rfl))
 t0:=Tryz.underlying0
 a0:=Tryz.isAgg0
 z0:=Tryz.sizeOf0
 v0:=Tryz.zeroValue0
 t3:=Tryz.underlying3
 a3:=Tryz.isAgg3
 z3:=Tryz.sizeOf3
 v3:=Tryz.zeroValue3
 t4:=Tryz.underlying4
 a4:=Tryz.isAgg4
 z4:=Tryz.sizeOf4
 v4:=Tryz.zeroValue4
 t5:=Tryz.underlying5
 a5:=Tryz.isAgg5
 z5:=Tryz.sizeOf5
 v5:=Tryz.zeroValue5
 t9:=Tryz.underlying9
 a9:=Tryz.isAgg9
 z9:=Tryz.sizeOf9
 v9:=Tryz.zeroValue9
 t28:=Tryz.underlying24
 a28:=Tryz.isAgg24
 z28:=Tryz.sizeOf24
 v28:=Tryz.zeroValue24
 t46:=Tryz.underlying181
 a46:=Tryz.isAgg181
 z46:=Tryz.sizeOf181
 v46:=Tryz.zeroValue181
 t51:=Tryz.underlying148
 a51:=Tryz.isAgg148
 z51:=Tryz.sizeOf148
 v51:=Tryz.zeroValue148
 t53:=Tryz.underlying75
 a53:=Tryz.isAgg75
 z53:=Tryz.sizeOf75
 v53:=Tryz.zeroValue75
 t131:=Tryz.underlying213
 a131:=Tryz.isAgg213
 z131:=Tryz.sizeOf213
 v131:=Tryz.zeroValue213
 t182:=Tryz.underlying207
 a182:=Tryz.isAgg207
 z182:=Tryz.sizeOf207
 v182:=Tryz.zeroValue207
 t183:=Tryz.underlying208
 a183:=Tryz.isAgg208
 z183:=Tryz.sizeOf208
 v183:=Tryz.zeroValue208
 t218:=Tryz.underlying231
 a218:=Tryz.isAgg231
 z218:=Tryz.sizeOf231
 v218:=Tryz.zeroValue231
 t222:=Tryz.underlying235
 a222:=Tryz.isAgg235
 z222:=Tryz.sizeOf235
 v222:=Tryz.zeroValue235
 t228:=Tryz.underlying242
 a228:=Tryz.isAgg242
 z228:=Tryz.sizeOf242
 v228:=Tryz.zeroValue242
 t229:=Tryz.underlying243
 a229:=Tryz.isAgg243
 z229:=Tryz.sizeOf243
 v229:=Tryz.zeroValue243}
open Go.Sort Go.RowKit in
theorem Tryz.slices_Sort_int(blk off cap:Nat)(zs:List Int)(w:World)(hH:Holds (Value.int .i64) w blk off zs.toArray)(hblk:blk<w.heap.size)(hsz:zs.length<4611686018427387904):
 Calls Tryz.prog 199 #[.slice (some ⟨blk,off,none⟩) zs.length cap] w fun e w'=>
  e= .returned (.tuple #[])∧∃n os,w'=grow (putRow (Value.int .i64) (Sort.ahead w n) blk off (zs.mergeSort fun x y=>decide (x≤y)).toArray) os:=Any.slices_Sort_int Tryz.DE blk off cap zs w hH hblk hsz
def Tryz.Ae:Go.Shelf.Ren:=⟨fun|190=>98|125=>141|258=>140|128=>173|129=>174|302=>164|303=>165|304=>166|305=>167|306=>168|307=>169|308=>170|309=>171|310=>172|333=>188|329=>189|330=>190|334=>191|335=>192|336=>193|344=>203|n=>n,fun|31=>22|9=>9|3=>3|46=>181|0=>0|51=>148|53=>75|4=>4|183=>208|182=>207|131=>213|5=>5|218=>231|222=>235|228=>242|229=>243|n=>n,fun|n=>n⟩
theorem Tryz.Dx:Go.Proofs.Lays.n190 Tryz.prog Tryz.Ae:={
 mixed:=by kernel_rfl
 f125:=Tryz.func141.trans (congrArg some (by kernel_rfl))
 f128:=Tryz.func173.trans (congrArg some (by kernel_rfl))
 f129:=Tryz.func174.trans (congrArg some (by kernel_rfl))
 f190:=Tryz.func98.trans (congrArg some (by kernel_rfl))
 f258:=Tryz.func140.trans (congrArg some (by kernel_rfl))
 f302:=Tryz.func164.trans (congrArg some (by kernel_rfl))
 f303:=Tryz.func165.trans (congrArg some (by kernel_rfl))
 f304:=Tryz.func166.trans (congrArg some (by kernel_rfl))
 f305:=Tryz.func167.trans (congrArg some (by kernel_rfl))
 f306:=Tryz.func168.trans (congrArg some (by kernel_rfl))
 f307:=Tryz.func169.trans (congrArg some (by kernel_rfl))
 f308:=Tryz.func170.trans (congrArg some (by kernel_rfl))
 f309:=Tryz.func171.trans (congrArg some (by kernel_rfl))
 f310:=Tryz.func172.trans (congrArg some (by kernel_rfl))
 f329:=Tryz.func189.trans (congrArg some (by kernel_rfl))
 f330:=Tryz.func190.trans (congrArg some (by kernel_rfl))
 f333:=Tryz.func188.trans (congrArg some (by kernel_rfl))
 f334:=Tryz.func191.trans (congrArg some (by kernel_rfl))
 f335:=Tryz.func192.trans (congrArg some (by kernel_rfl))
 f336:=Tryz.func193.trans (congrArg some (by kernel_rfl))
 f344:=Tryz.func203.trans (congrArg some (by kernel_rfl))
 t0:=Tryz.underlying0
 a0:=Tryz.isAgg0
 z0:=Tryz.sizeOf0
 v0:=Tryz.zeroValue0
 t3:=Tryz.underlying3
 a3:=Tryz.isAgg3
 z3:=Tryz.sizeOf3
 v3:=Tryz.zeroValue3
 t4:=Tryz.underlying4
 a4:=Tryz.isAgg4
 z4:=Tryz.sizeOf4
 v4:=Tryz.zeroValue4
 t5:=Tryz.underlying5
 a5:=Tryz.isAgg5
 z5:=Tryz.sizeOf5
 v5:=Tryz.zeroValue5
 t9:=Tryz.underlying9
 a9:=Tryz.isAgg9
 z9:=Tryz.sizeOf9
 v9:=Tryz.zeroValue9
 t31:=Tryz.underlying22
 a31:=Tryz.isAgg22
 z31:=Tryz.sizeOf22
 v31:=Tryz.zeroValue22
 t46:=Tryz.underlying181
 a46:=Tryz.isAgg181
 z46:=Tryz.sizeOf181
 v46:=Tryz.zeroValue181
 t51:=Tryz.underlying148
 a51:=Tryz.isAgg148
 z51:=Tryz.sizeOf148
 v51:=Tryz.zeroValue148
 t53:=Tryz.underlying75
 a53:=Tryz.isAgg75
 z53:=Tryz.sizeOf75
 v53:=Tryz.zeroValue75
 t131:=Tryz.underlying213
 a131:=Tryz.isAgg213
 z131:=Tryz.sizeOf213
 v131:=Tryz.zeroValue213
 t182:=Tryz.underlying207
 a182:=Tryz.isAgg207
 z182:=Tryz.sizeOf207
 v182:=Tryz.zeroValue207
 t183:=Tryz.underlying208
 a183:=Tryz.isAgg208
 z183:=Tryz.sizeOf208
 v183:=Tryz.zeroValue208
 t218:=Tryz.underlying231
 a218:=Tryz.isAgg231
 z218:=Tryz.sizeOf231
 v218:=Tryz.zeroValue231
 t222:=Tryz.underlying235
 a222:=Tryz.isAgg235
 z222:=Tryz.sizeOf235
 v222:=Tryz.zeroValue235
 t228:=Tryz.underlying242
 a228:=Tryz.isAgg242
 z228:=Tryz.sizeOf242
 v228:=Tryz.zeroValue242
 t229:=Tryz.underlying243
 a229:=Tryz.isAgg243
 z229:=Tryz.sizeOf243
 v229:=Tryz.zeroValue243}
open Go.Sort Go.RowKit in
theorem Tryz.slices_Sort_string(blk off cap:Nat)(ss:List (List UInt8))(w:World)(hH:Holds encStr w blk off ss.toArray)(hblk:blk<w.heap.size)(hsz:ss.length<4611686018427387904):
 Calls Tryz.prog 98 #[.slice (some ⟨blk,off,none⟩) ss.length cap] w fun e w'=>
  e= .returned (.tuple #[])∧∃n os,w'=grow (putRow encStr (Sort.ahead w n) blk off (ss.mergeSort fun x y=>decide (x≤y)).toArray) os:=Any.slices_Sort_string Tryz.Dx blk off cap ss w hH hblk hsz
open Go.RowKit Go.Sort in
theorem Tryz.slices_Sort_string_none(p:Option Addr)(cap:Nat)(w:World):
 Calls Tryz.prog 98 #[.slice p 0 cap] w fun e w'=>e= .returned (.tuple #[])∧w'=w:=Any.slices_Sort_string_none Tryz.Dx p cap w
open Go.RowKit Go.Sort in
theorem Tryz.slices_Sort_int_none(p:Option Addr)(cap:Nat)(w:World):
 Calls Tryz.prog 199 #[.slice p 0 cap] w fun e w'=>e= .returned (.tuple #[])∧w'=w:=Any.slices_Sort_int_none Tryz.DE p cap w
def Tryz.yA:Go.Shelf.Ren:=⟨fun|196=>116|259=>150|n=>n,fun|9=>9|4=>4|3=>3|5=>5|12=>12|119=>188|0=>0|46=>181|139=>191|138=>190|53=>75|n=>n,fun|3=>1|4=>2|n=>n⟩
theorem Tryz.DX:Go.Proofs.Lays.n196 Tryz.prog Tryz.yA:={
 mixed:=by kernel_rfl
 f196:=Tryz.func116.trans (congrArg some (by kernel_rfl))
 f259:=Tryz.func150.trans (congrArg some (by kernel_rfl))
 t0:=Tryz.underlying0
 a0:=Tryz.isAgg0
 z0:=Tryz.sizeOf0
 v0:=Tryz.zeroValue0
 t3:=Tryz.underlying3
 a3:=Tryz.isAgg3
 z3:=Tryz.sizeOf3
 v3:=Tryz.zeroValue3
 t4:=Tryz.underlying4
 a4:=Tryz.isAgg4
 z4:=Tryz.sizeOf4
 v4:=Tryz.zeroValue4
 t5:=Tryz.underlying5
 a5:=Tryz.isAgg5
 z5:=Tryz.sizeOf5
 v5:=Tryz.zeroValue5
 t9:=Tryz.underlying9
 a9:=Tryz.isAgg9
 z9:=Tryz.sizeOf9
 v9:=Tryz.zeroValue9
 t12:=Tryz.underlying12
 a12:=Tryz.isAgg12
 z12:=Tryz.sizeOf12
 v12:=Tryz.zeroValue12
 t46:=Tryz.underlying181
 a46:=Tryz.isAgg181
 z46:=Tryz.sizeOf181
 v46:=Tryz.zeroValue181
 t53:=Tryz.underlying75
 a53:=Tryz.isAgg75
 z53:=Tryz.sizeOf75
 v53:=Tryz.zeroValue75
 t119:=Tryz.underlying188
 a119:=Tryz.isAgg188
 z119:=Tryz.sizeOf188
 t138:=Tryz.underlying190
 a138:=Tryz.isAgg190
 z138:=Tryz.sizeOf190
 v138:=Tryz.zeroValue190
 t139:=Tryz.underlying191
 a139:=Tryz.isAgg191
 z139:=Tryz.sizeOf191
 v139:=Tryz.zeroValue191
 g3:=by kernel_rfl
 g4:=by kernel_rfl}
end Go.Proofs
namespace Go.Proofs.YtoepfmhnapedoaaGreatDoor
open Aml Go
def uW(l:List Int):List Int:=l.mergeSort fun x y=>decide (x≤y)
theorem n9(l:List Int):(uW l).length=l.length:=List.length_mergeSort l
theorem Ab{l:List Int}{j:Nat}{a:Int}(h:l[j]? =some a):l.toArray[j]! =a:=by
 obtain⟨hlt,rfl⟩:=aad.1 h;rw[getElem!_pos l.toArray j (by simpa using hlt)];simp
theorem yJ{w:World}{n b e:Nat}{cs:Array Value}{zs:List Int}{os:Array Obj}(hb:w.heap[b]? =some (.cells cs e (0,0)))(hn:zs.length≤cs.size):
 ∃cs',(Go.Sort.grow (Go.Sort.putRow (Value.int .i64) (Go.Sort.ahead w n) b 0 zs.toArray) os).heap[b]? =some (.cells cs' e (0,0))∧cs'.size=cs.size∧(∀(i:Nat) (a:Int),zs[i]? =some a→cs'[i]? =some (.int .i64 a))∧∀x,x∈cs'.toList→x∈cs.toList∨∃a,x= .int .i64 a:=by
 refine⟨Go.Sort.putCells (Value.int .i64) 0 zs.toArray cs,?_,by simp[Go.Sort.putCells],fun i a hi=>?_,fun x hx=>?_⟩
 ·rw[adh _ _ (by have:=(aaq.1 hb).1;simpa using this)];simp only[Go.Sort.putRow,Go.Sort.mapBlock,Go.Sort.heap_ahead,ac1,if_true,hb,abH,Go.Sort.onCells]
 ·have hlt:i<zs.length:=(aad.1 hi).1;have hc:cs[i]? =some cs[i]:=acM (by omega);simp only[Go.Sort.putCells,Array.getElem?_mapIdx,hc,abH];rw[if_pos (by simp;omega)];simp only[Nat.sub_zero];rw[Ab hi]
 ·obtain⟨i,hi⟩:=abv.1 hx;rw[acv]at hi;simp only[Go.Sort.putCells,Array.getElem?_mapIdx,aay]at hi;obtain⟨y,hy,rfl⟩:=hi;split
  ·exact .inr ⟨_,rfl⟩
  ·exact .inl (Array.mem_toList_iff.2 (Array.mem_of_getElem? hy))
theorem Jr(w0:W0){l:Nat}{zs:List Int}{S:St}(hl:lk S.acc l=some (.arr 1 (zs.map dI)))(hsz:zs.length<4611686018427387904):
 ab Tryz.prog w0 199 [.acc l zs.length] S (fun d S'=>d= .cW []∧S'=⟨S.box,up S.acc l (.arr 1 ((uW zs).map dI))⟩):=by
 intro g vs w h1 h2;obtain⟨u,us,hvs,hr,h3⟩:=h2.dJ;have hus:us=[]:=aa0 (by have:=h3.len;simpa using this.symm);subst hus;have hvs':vs= #[u]:=by rw[←Array.toArray_toList (xs:=vs),hvs]
 subst hvs';obtain⟨o,c,hv,ha⟩:=fS hr;subst hv;by_cases hz:zs=[]
 ·subst hz;refine(Tryz.slices_Sort_int_none o c w).mono ?_;rintro e w' ⟨rfl,rfl⟩;refine .inl ⟨_,g,.cW [],_,rfl,.refl g,?_,.cW [] [] rfl (by intro i d u h;simp at h),rfl,rfl⟩;have:uW []=[]:=by simp[uW]
  rw[this,se hl];exact h1
 ·have hpos:0<zs.length:=acW.2 hz;obtain⟨ow,hO⟩:=h1.open_;obtain⟨hs,⟨he,o2,_⟩|⟨b,c2,cs,e,q1,q2,q3,q4,q5,q6,q7,q8,q8x,us,q9,q10,q11,q12⟩⟩:=hO.acc l _ (bV hl)
  ·exact absurd (by simpa using he) hz
  ·rw[abI]at q1 q7;have q1':=q1;rw[ha]at q1;simp only[abg,Value.slice.injEq,true_and]at q1;obtain⟨rfl,rfl⟩:=q1;rw[adt]at q6;have hul:us.length=zs.length:=by have:=q9.len;simpa using this.symm
   have hus:∀(i:Nat) (a:Int),zs[i]? =some a→us[i]? =some (.int .i64 a):=by
    intro i a hi;have hlt:i<us.length:=by rw[hul];exact(aad.1 hi).1
    have hu:us[i]? =some us[i]:=aac hlt;have:=q9.at_ i (dI a) _ (by simp[hi]) hu;have:=ay this;rw[hu,this]
   have hcs:∀(i:Nat) (a:Int),zs[i]? =some a→cs[i]? =some (.int .i64 a):=by
    intro i a hi;have:=q12 i _ 0 _ (hus i a hi) (show(Value.int IntKind.i64 a).cells[0]? =some (.int .i64 a)by rfl);simpa using this
   have hH:Go.Sort.Holds (Value.int .i64) w b 0 zs.toArray:=by
    intro j hj;have hj':j<zs.length:=by simpa using hj
    have hi:zs[j]? =some zs[j]:=aac hj';constructor
    ·rw[bS q5,acE,hcs j _ hi,Ab hi]
    ·simp[World.frozen?,q5]
   refine(Tryz.slices_Sort_int b 0 c zs w hH (lt_of_heap q5) hsz).mono ?_;rintro ex w' ⟨rfl,n,os,rfl⟩;obtain⟨cs',h5,h6,h7,h8⟩:=yJ (n:=n) (os:=os) (zs:=uW zs) q5 (by rw[n9];omega);refine .inl ⟨_,g,.cW [],_,rfl,.refl g,?_,.cW [] [] rfl (by intro i d u h;simp at h),rfl,rfl⟩;refine h1.Ht (us:=(uW zs).map fun a=>Value.int .i64 a) (b:=b) (c:=c) (e:=e) (cs:=cs') hl (by rw[abI];exact ha) (by simp[n9]) (by omega) h5 (by omega) ?_ (by simp) ?_ ?_ ?_ ?_ ?_ fun x hx=>(h8 x hx).elim (q8x x) fun⟨a,e⟩=>by rw[e];rfl
   ·refine h1.below.step ⟨rfl,rfl,rfl,by simp,fun k hk=>?_,Nat.le_add_right _ _⟩ b (mf q5) fun k hk hne=>?_
    ·rw[adh _ _ (by simp;exact acS hk h1.below.size)];have:b≠k:=by omega
     simp[Go.Sort.putRow,Go.Sort.mapBlock,ac1,this]
    ·rw[adh _ _ (by simp;exact hk)];have:b≠k:=fun e=>hne e.symm;simp[Go.Sort.putRow,Go.Sort.mapBlock,ac1,this]
   ·intro k hk hne;rw[adh _ _ (by simp;exact hk)];have:b≠k:=fun e=>hne e.symm;simp[Go.Sort.putRow,Go.Sort.mapBlock,ac1,this]
   ·exact⟨by simp,fun i d u a1 a2=>by
     simp only[aaE,aay]at a1 a2;obtain⟨x,hx,rfl⟩:=a1;obtain⟨y,hy,rfl⟩:=a2;rw[hx]at hy;cases hy;exact .v _ rfl⟩
   ·intro i u hi;simp only[aaE,aay]at hi;obtain⟨x,_,rfl⟩:=hi;rfl
   ·intro u hu x hx;obtain⟨a,_,rfl⟩:=aaT.1 hu;simp[Value.cells]at hx;subst hx;rfl
   ·intro i u j x hi hj;simp only[aaE,aay]at hi;obtain⟨a,ha',rfl⟩:=hi;have hj0:j=0:=by have:=(aaq.1 hj).1;simp[Value.cells]at this;exact this
    subst hj0;simp[Value.cells]at hj;subst hj;simpa using h7 i a ha'
def kI(a:Int):Value:= .int .i64 a
def Hy(es:List (Value×DV×Nat))(pre:List Int):Prop:=pre.Nodup∧∀v,v∈pre→∃e,e∈es∧e.1=kI v
def sy(es:List (Value×DV×Nat))(V:List Int):Prop:=Hy es V∧∀e,e∈es→∃v,v∈V∧e.1=kI v
theorem y9{u:Value}(h:isKey (.int .i64) u=true):∃a,u=kI a:=by
 cases u <;>simp_all [isKey,kI]
theorem sh{α:Type}:∀{L L':List (Nat×α)} {n:Nat},L.map (·.1)=L'.map (·.1)→lk L n=none→lk L' n=none
 |[],[],_,_,_=>rfl
 |[],_::_,_,h,_=>by simp at h
 |_::_,[],_,h,_=>by simp at h
 |(k,x)::t,(k',x')::t',n,h,hn=>by
  simp only[abB,adz]at h;obtain⟨e,h⟩:=h;subst e;simp only[lk]at hn ⊢;split at hn
  ·cases hn
  ·rename_i hne;rw[if_neg hne];exact sh h hn
theorem fG{α β:Type}{f:α→β}:∀{l:List α},(l.map f).Nodup→∀{x y:α},x∈l→y∈l→f x=f y→x=y
 |[],_,x,y,hx,_,_=>by cases hx
 |z::l,hn,x,y,hx,hy,e=>by
  rw[abB,aaV]at hn;rcases aaJ.1 hx with h1|h1
  ·rcases aaJ.1 hy with h2|h2
   ·rw[h1,h2]
   ·exact absurd (by rw[←h1,e];exact abL h2) hn.1
  ·rcases aaJ.1 hy with h2|h2
   ·exact absurd (by rw[←h2,←e];exact abL h1) hn.1
   ·exact fG hn.2 h1 h2 e
theorem aX{α β:Type}{f:α→β}(hf:∀x y,f x=f y→x=y):∀{l:List α},l.Nodup→(l.map f).Nodup
 |[],_=>acT
 |z::l,hn=>by
  rw[abB,aaV];rw[aaV]at hn;refine⟨fun h=>?_,aX hf hn.2⟩;obtain⟨y,hy,e⟩:=aaT.1 h;exact hn.1 (hf _ _ e▸hy)
theorem cu{α:Type}:∀{l m:List α},l.Nodup→l⊆m→l.length≤m.length
 |[],_,_,_=>aa6 _
 |x::l,m,hn,h=>by
  rw[aaV]at hn;obtain⟨s,t,rfl⟩:=List.append_of_mem (h (aaQ ..))
  have:=cu (m:=s++t) hn.2 fun y hy=>by
   have:=h (aat _ hy);rw[aaD,aaJ]at this;rcases this with h1|rfl|h1
   ·exact acp _ h1
   ·exact absurd hy hn.1
   ·exact ac0 _ h1
  simp only[aaK,aaW]at this ⊢;omega
theorem E0(w1:W0)(l b m clk:Nat)(es:List (Value×DV×Nat))(X:List Int→St)
 (hb:∀pre,lk (X pre).box b=some [.mp m]) (hm:∀pre,lk (X pre).acc m=some (.xo (.mp (.int .i64) es clk)))
 (hda:∀pre,(X pre).acc.map (·.1)=(X []).acc.map (·.1)) (hok:fc (.int .i64) es clk)
 (hy:UB Tryz.prog w1 l X (fun x=>[dI x]) (Hy es)):∀T,Has (X []) T→ab Tryz.prog w1 200 [.v (.func (.yield l) #[] #[]),.v (.pointer (some ⟨b,0,none⟩))] T fun _ T'=>∃V,sy es V∧Has (X V) T':=by
 intro T hT;have t1:lk T.box b=some [.mp m]:=hT.box _ _ (hb []);have t2:lk T.acc m=some (.xo (.mp (.int .i64) es clk)):=hT.acc _ _ (hm []);refine lO [] mx Tryz.func200 rfl rfl (by kernel_rfl) ?_;simp only[Tryz.ntmps200,aaW,ab8,Nat.reduceAdd,Nat.reduceSub,List.reduceReplicate,acG,acR];refine @aa _ (cL @Tryz.ntmps200 @t1 @t2 ?_);intro li;refine fZ [] [0,5] (fun s:St×List Int×List Nat=>[]) (fun s=>s.1) (fun s=>Has (X s.2.1) s.1∧lk s.1.acc li.n=some (.xo (.it m clk s.2.2 clk))∧lk (X s.2.1).acc li.n=none∧Hy es s.2.1∧∀e,e∈es→(e.2.2∈s.2.2↔∃v,v∈s.2.1∧e.1=kI v)) (fun s=>es.length-s.2.1.length) (⟨T.box,(li.n,.xo (.it m clk [] clk))::T.acc⟩,[],[]) mx (by kernel_rfl) ?_ ?_
 ·have hnone:lk T.acc li.n=none:=ao li;refine⟨⟨⟨hT.box,fun l' o ho=>?_⟩,by simp[lk],?_,⟨acT,fun v hv=>by cases hv⟩,fun e _=>⟨fun h=>(by cases h),fun⟨v,hv,_⟩=>(by cases hv)⟩⟩,?_,?_⟩
  ·have:=hT.acc _ _ ho;show lk ((li.n,_)::T.acc) l'=_;simp only[lk];rw[if_neg (fun e=>by rw[e,this]at hnone;cases hnone)];exact this
  ·show lk (X []).acc li.n=none
   cases hx:lk (X []).acc li.n with
   |none=>rfl
   |some o=>rw[hT.acc _ _ hx]at hnone;cases hnone
  ·exact @aa _ bY
  ·exact .refl _
 ·rintro⟨T,pre,seen⟩ ⟨hT',hi,hiX,hOk,hs⟩;simp only at hT' hi hiX hOk hs;have u1:lk T.box b=some [.mp m]:=hT'.box _ _ (hb pre);have u2:lk T.acc m=some (.xo (.mp (.int .i64) es clk)):=hT'.acc _ _ (hm pre);have hne:¬li.n=m:=fun e=>by rw[e,hm pre]at hiX;cases hiX
  refine @aa _ (cL @u1 @u2 @hi ?_);refine⟨fun hall=>⟨pre,⟨hOk,fun e he=>(hs e he).1 (hall e he)⟩,hT'⟩,fun e he hns=>?_⟩;obtain⟨a,ha⟩:=y9 (hok.key e he);rw[ae hne,u2];refine @aa _ (av ?_);refine⟨e,he,⟨seen,rfl⟩,?_⟩;rw[ha];have hnew:a∉pre:=fun h=>hns ((hs e he).2 ⟨a,h,ha⟩)
  have hOk':Hy es (pre++[a]):=⟨by
   rw[acV];exact⟨hOk.1,by simp,fun x hx y hy=>by rw[aau.1 hy];rintro rfl;exact hnew hx⟩,fun v hv=>by
   rcases aaD.1 hv with h|h
   ·exact hOk.2 v h
   ·rw[aau.1 h];exact⟨e,he,ha⟩⟩
  have hT1:Has (X pre) ⟨T.box,up T.acc li.n (.xo (.it m clk (seen++[e.2.2]) clk))⟩:=⟨hT'.box,fun c o hc=>by
   rw[ae (fun h=>by rw[←h,hiX]at hc;cases hc)];exact hT'.acc c o hc⟩
  simp(maxDischargeDepth:=12) (maxSteps:=1000000) -implicitDefEqProofs only[go_sem,Nat.reduceAdd,Nat.reduceSub,Nat.reduceMul,Nat.reduceLeDiff,Nat.reduceEqDiff,Nat.reduceGT,Nat.reduceBEq,reduceCtorEq,↓reduceIte,Int.reduceToNat,Int.reduceLE,Int.reduceLT,Int.reduceNe,Int.reduceEq,kI];refine SM (hy pre a _ hOk' hT1) ?_;rintro d T2 ⟨rfl,hT2,hK⟩;have ui:lk T2.acc li.n=some (.xo (.it m clk (seen++[e.2.2]) clk)):=hK.acc _ _ hiX (by rw[aM,hi];rfl);have hX2:lk (X (pre++[a])).acc li.n=none:=sh ((hda _).trans (hda _).symm) hiX
  have hs2:∀e',e'∈es→(e'.2.2∈seen++[e.2.2]↔∃v,v∈pre++[a]∧e'.1=kI v):=fun e' he'=>by
   constructor
   ·intro h;rcases aaD.1 h with h|h
    ·obtain⟨v,h1,h2⟩:=(hs e' he').1 h;exact⟨v,acp _ h1,h2⟩
    ·have:e'=e:=fG hok.bn he' he (aau.1 h);rw[this];exact⟨a,by simp,ha⟩
   ·rintro⟨v,h1,h2⟩;rcases aaD.1 h1 with h|h
    ·exact acp _ ((hs e' he').2 ⟨v,h,h2⟩)
    ·have:e'=e:=fG hok.nd he' he (by rw[h2,ha,aau.1 h]);rw[this];simp
  have hlen:(pre++[a]).length≤es.length:=by
   have h1:((pre++[a]).map kI).Nodup:=aX (fun x y h=>by unfold kI at h;cases h;rfl) hOk'.1
   have h2:((pre++[a]).map kI)⊆es.map (·.1):=fun u hu=>by
    obtain⟨v,hv,rfl⟩:=aaT.1 hu;obtain⟨e',he',h3⟩:=hOk'.2 v hv;exact aaT.2 ⟨e',he',h3⟩
   have:=cu h1 h2;simpa using this
  refine @aa _ (av ?_);refine⟨(T2,pre++[a],seen++[e.2.2]),⟨hT2,ui,hX2,hOk',hs2⟩,?_,.refl _⟩;show es.length-(pre++[a]).length<es.length-pre.length;rw[aaK]at hlen ⊢;simp only[aaW,ab8]at*;omega
theorem Py(L:List (Nat×List DV))(b c:Nat)(v:List DV):lk (up L b v) c=if b=c then(lk L c).map (fun _=>v)else lk L c:=by
 split
 ·rename_i e;subst e;exact aM _ _ _
 ·rename_i e;exact ae e _ _
theorem OW(L:List (Nat×Ob))(b c:Nat)(v:Ob):lk (up L b v) c=if b=c then(lk L c).map (fun _=>v)else lk L c:=by
 split
 ·rename_i e;subst e;exact aM _ _ _
 ·rename_i e;exact ae e _ _
theorem Jk{X T:St}{b:Nat}(h:Has X T)(v:List DV):Has ⟨up X.box b v,X.acc⟩ ⟨up T.box b v,T.acc⟩:=⟨fun c x hc=>by
 simp only[Py]at hc ⊢;split at hc
 ·rename_i e;obtain⟨y,hy,rfl⟩:=aay.1 hc;rw[h.box _ _ hy,if_pos e];rfl
 ·rename_i e;rw[if_neg e];exact h.box _ _ hc,h.acc⟩
theorem qB{X T:St}{b l:Nat}(h:Has X T)(v:List DV)(o:Ob):Has ⟨up X.box b v,up X.acc l o⟩ ⟨up T.box b v,up T.acc l o⟩:=⟨(Jk h v).box,fun c x hc=>by
 simp only[OW]at hc ⊢;split at hc
 ·rename_i e;obtain⟨y,hy,rfl⟩:=aay.1 hc;rw[h.acc _ _ hy,if_pos e];rfl
 ·rename_i e;rw[if_neg e];exact h.acc _ _ hc⟩
theorem wU{X T:St}{b l:Nat}{v:List DV}{o:Ob}(hb:¬lk X.box b=none)(hl:¬lk X.acc l=none):Kp X T ⟨up T.box b v,up T.acc l o⟩:=⟨fun c x hc hx=>by
 show lk (up T.box b v) c=some x;rw[ae (fun e=>hb (by rw[e];exact hc))];exact hx,fun c x hc hx=>by
 show lk (up T.acc l o) c=some x;rw[ae (fun e=>hl (by rw[e];exact hc))];exact hx⟩
theorem zY(w0:W0){b m clk:Nat}{es:List (Value×DV×Nat)}{S:St}(hb:lk S.box b=some [.mp m])(hm:lk S.acc m=some (.xo (.mp (.int .i64) es clk)))(hok:fc (.int .i64) es clk)(hlen:es.length≤1048576):
 ab Tryz.prog w0 204 [.sl 0 true [],.v (.func (.func 200) #[] #[.pointer (some ⟨b,0,none⟩)])] S (fun d S'=>∃(V:List Int) (r:FN S.acc),sy es V∧d= .acc r.n V.length∧S'=⟨S.box,(r.n,.arr 1 (V.map dI))::S.acc⟩):=by
 refine mh [] mx Tryz.func204 rfl rfl (by kernel_rfl) ?_;refine @aa _ (ah @Tryz.ntmps204 ?_);intro s;refine fh s.n 0 1 (by omega) (ds:=[.sl 0 true []]) (by exact @aa _ bY) rfl fun lb=>?_;refine @aa _ (av ?_);refine wF [] (fun pre=>⟨(s.n,[.acc lb.n pre.length])::S.box,(lb.n,.arr 1 (pre.map dI))::S.acc⟩) (fun x=>[dI x]) (Hy es) (sy es) mx (by kernel_rfl) rfl rfl rfl (fun _=>rfl) (fun _=>rfl) (fun _=>rfl) ?_ ?_ ?_
 ·intro l w1 hy T hT;refine E0 w1 l b m clk es _ (fun pre=>?_) (fun pre=>?_) (fun _=>rfl) hok hy T hT
  ·have hsb:¬s.n=b:=fun e=>by have:=ao s;rw[e,hb]at this;cases this
   exact @aa _ (di @hsb @hb)
  ·have hsb:¬lb.n=m:=fun e=>by have:=ao lb;rw[e,hm]at this;cases this
   exact @aa _ (di @hsb @hm)
 ·intro pre x T hOk hT;have t1:lk T.box s.n=some [.acc lb.n pre.length]:=hT.box _ _ (by exact @aa _ bY);have u1:lk T.acc lb.n=some (.arr 1 (pre.map dI)):=hT.acc _ _ (by exact @aa _ bY)
  have hpl:(pre++[x]).length≤1048576:=by
   have h1:((pre++[x]).map kI).Nodup:=aX (fun x y h=>by unfold kI at h;cases h;rfl) hOk.1
   have h2:((pre++[x]).map kI)⊆es.map (·.1):=fun u hu=>by
    obtain⟨v,hv,rfl⟩:=aaT.1 hu;obtain⟨e',he',h3⟩:=hOk.2 v hv;exact aaT.2 ⟨e',he',h3⟩
   have:=cu h1 h2;simp only[abI]at this;omega
  rw[aaK]at hpl;simp only[aaW,ab8]at hpl;have hm8:maxLen=9223372036854775807:=rfl;have hu:(⟨up ((s.n,[.acc lb.n pre.length])::S.box) s.n [.acc lb.n (pre++[x]).length],up ((lb.n,.arr 1 (pre.map dI))::S.acc) lb.n (.arr 1 ((pre++[x]).map dI))⟩:St)=⟨(s.n,[.acc lb.n (pre++[x]).length])::S.box,(lb.n,.arr 1 ((pre++[x]).map dI))::S.acc⟩:=by exact @aa _ bY
  have hH:=qB (b:=s.n) (l:=lb.n) hT [.acc lb.n (pre++[x]).length] (.arr 1 ((pre++[x]).map dI));have hK:∀v o,Kp ⟨(s.n,[.acc lb.n pre.length])::S.box,(lb.n,.arr 1 (pre.map dI))::S.acc⟩ T ⟨up T.box s.n v,up T.acc lb.n o⟩:=fun v o=>wU (by exact @aa _ bY) (by exact @aa _ bY);simp only[jB];refine @aa _ (cL @t1 @u1 @hm8 ?_);have hmap:(pre++[x]).map dI=pre.map dI++[.v (.int .i64 x)]:=by simp[dI]
  have hlen':(pre++[x]).length=pre.length+1:=by simp
  rw[hu,hmap,hlen']at hH;rw[hmap];exact⟨by omega,by omega,hH,hK _ _⟩
 ·intro V hV;refine @aa _ (av ?_);exact⟨_,_,.refl _,(Sub.refl _).aN,V,lb,hV,rfl,rfl⟩
theorem E6(w0:W0){b m clk:Nat}{es:List (Value×DV×Nat)}{S:St}(hb:lk S.box b=some [.mp m])(hm:lk S.acc m=some (.xo (.mp (.int .i64) es clk)))(hok:fc (.int .i64) es clk)(hlen:es.length≤1048576):
 ab Tryz.prog w0 198 [.v (.func (.func 200) #[] #[.pointer (some ⟨b,0,none⟩)])] S (fun d S'=>∃(V:List Int) (r:FN S.acc),sy es V∧d= .acc r.n V.length∧S'=⟨S.box,(r.n,.arr 1 (V.map dI))::S.acc⟩):=by
 refine lO [] mx Tryz.func198 rfl rfl (by kernel_rfl) ?_;refine @aa _ (ah @Tryz.ntmps198 ?_);refine aw (zY w0 hb hm hok hlen) ?_;rintro _ _ ⟨V,r,hV,rfl,rfl⟩;refine @aa _ (av ?_);exact⟨V,r,hV,rfl,rfl⟩
theorem Vf(S:St)(l:Nat)(K:DV→St→Prop):GZ S (.mp l) K=∀b:FN S.box,K (.v (.pointer (some ⟨b.n,0,none⟩))) ⟨(b.n,[.mp l])::S.box,S.acc⟩:=OG _
attribute [go_sem] Vf
theorem TG(w0:W0){m:Nat}(S:St):ab Tryz.prog w0 181 [.mp m] S (fun d S'=>∃b:FN S.box,d= .v (.func (.func 200) #[] #[.pointer (some ⟨b.n,0,none⟩)])∧S'=⟨(b.n,[.mp m])::S.box,S.acc⟩):=by
 refine lO [] mx Tryz.func181 rfl rfl (by kernel_rfl) ?_;refine @aa _ (ah @Tryz.ntmps181 ?_);intro b;exact⟨b,rfl,rfl⟩
theorem Kq{es:List (Value×DV×Nat)}{V:List Int}(hV:sy es V):V.length≤es.length:=by
 have h1:(V.map kI).Nodup:=aX (fun x y h=>by unfold kI at h;cases h;rfl) hV.1.1
 have h2:(V.map kI)⊆es.map (·.1):=fun u hu=>by
  obtain⟨v,hv,rfl⟩:=aaT.1 hu;obtain⟨e',he',h3⟩:=hV.1.2 v hv;exact aaT.2 ⟨e',he',h3⟩
 have:=cu h1 h2;simpa using this
theorem Lb(w0:W0){b m clk:Nat}{es:List (Value×DV×Nat)}{S:St}(hb:lk S.box b=some [.mp m])(hm:lk S.acc m=some (.xo (.mp (.int .i64) es clk)))(hok:fc (.int .i64) es clk)(hlen:es.length≤1048576):
 ab Tryz.prog w0 180 [.v (.func (.func 200) #[] #[.pointer (some ⟨b,0,none⟩)])] S (fun d S'=>∃(V:List Int) (r:FN S.acc),sy es V∧d= .acc r.n V.length∧S'=⟨S.box,(r.n,.arr 1 ((uW V).map dI))::S.acc⟩):=by
 refine lO [] mx Tryz.func180 rfl rfl (by kernel_rfl) ?_;refine @aa _ (ah @Tryz.ntmps180 ?_);refine aw (E6 w0 hb hm hok hlen) ?_;rintro _ _ ⟨V,r,hV,rfl,rfl⟩;refine @aa _ (av ?_);have hVl:=Kq hV;refine .inl (aw (Jr w0 (l:=r.n) (zs:=V) (S:=⟨S.box,(r.n,.arr 1 (V.map dI))::S.acc⟩) (by simp[lk]) (by omega)) ?_);rintro _ _ ⟨rfl,rfl⟩;refine @aa _ (av ?_);exact⟨V,r,hV,rfl,rfl⟩
end Go.Proofs.YtoepfmhnapedoaaGreatDoor
namespace Go.Proofs
open Go.Shelf
def Tryz.KJ:Go.Shelf.Ren:=⟨fun|5=>151|7=>179|n=>n,fun|23=>114|25=>9|3=>9|4=>4|20=>20|n=>n,fun|n=>n⟩
theorem Tryz.YZ:Go.Proofs.SlLaysW.n5 Tryz.prog Tryz.KJ:={
 mixed:=by kernel_rfl
 f5:=⟨Tryz.f151.name,by decide,Tryz.func151.trans (congrArg some (by kernel_rfl))⟩
 f7:=Tryz.func179.trans (congrArg some (by kernel_rfl))
 t4:=Tryz.underlying4
 a4:=Tryz.isAgg4
 z4:=Tryz.sizeOf4
 v4:=Tryz.zeroValue4
 t20:=Tryz.underlying20
 a20:=Tryz.isAgg20
 z20:=Tryz.sizeOf20
 v20:=Tryz.zeroValue20
 t23:=Tryz.underlying114
 a23:=Tryz.isAgg114
 z23:=Tryz.sizeOf114
 v23:=Tryz.zeroValue114}
open Go.RowKit in
theorem Tryz.maps_Clone(w:World)(b:Nat)(es:Array MapEntry)(clock:Nat)(hb:w.heap[b]? =some (.map es clock)):
 Calls Tryz.prog 151 #[.map (some b)] w fun e w'=>e= .returned (.map (some w.heap.size))∧w'=w.alloc (.map es clock):=AnyW.maps_Clone Tryz.YZ b es clock w hb
end Go.Proofs
namespace Aml
open Go Go.RowKit
variable {P:Program} {w0:W0}
end Aml
