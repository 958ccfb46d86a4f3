/-
  Part 7 of the proof that the last text ends: from 'A text that is being built, in the store: it is made, and its methods are called' to 'Bits listed; the least of some: the program'. By an AI agent.
-/
import Derived.Test.YtiihljlagmmljaaGreatDoorMC5
import Derived.Test.YtiihljlagmmljaaGreatDoorMC6
import Derived.Test.YtiihljlagmmljaaGreatDoorMC4
import Derived.RecoverIn
import Derived.RangeFuncLeaves
import Derived.Test.YtiihljlagmmljaaGreatDoorMC2
import Derived.Test.YtiihljlagmmljaaGreatDoorProg
import Derived.KernelRfl
import Derived.RangeFuncNested
set_option linter.unusedVariables false
set_option linter.unusedSimpArgs false
set_option maxRecDepth 100000
set_option maxHeartbeats 16000000
namespace Aml
open Go Go.RowKit Go.Shelf Go.Proofs
section
variable {P:Program} {w0:W0}
theorem Rel.ML{g:Gh}{S:St}{w:World}(h:Rel w0 g S w){l:Nat}{T e:TypeId}{bs:List UInt8}{pin:Option Nat}(hl:lk S.acc l=some (.sb T e bs pin))(h0:w0.w.drawn=0):∃b p v,(g.acc l 0=some (.slice (some ⟨b,0,none⟩) 0 0)∧∀k,pin=some k→k=b)∧A5 T e b p v (Lib.byteCells bs) w∧
 ∀bs' w',Cx T e b v (Lib.byteCells bs') w w'→Rel w0 g ⟨S.box,up S.acc l (.sb T e bs' pin)⟩ w':=by
 obtain⟨ow,h⟩:=h.open_;have hm:=bd hl;obtain⟨⟨b,p,v,q1,q2,q3,q4,q5,q6,q7⟩,hpin⟩:=h.acc l _ hm;have hpb:∀k,pin=some k→k=b:=fun k hk=>by have:=hpin k hk;rw[q1]at this;cases this;rfl
 have hrow:w.ownsRowF 0 e 1 v bs.length (Lib.byteCells bs):=by
  rcases q7 with⟨rfl,rfl⟩|⟨r,c,cs,z,rfl,k1,k2,k3,k4,k5,k6,k7,k8,k9,PU⟩
  ·exact World.ownsRowF_nil w 0 e 1
  ·exact⟨by simp[Lib.byteCells],.inr ⟨r,c,cs,z,rfl,RL _,k5,by omega,k7,k8,by omega,by rw[Tb];exact PU⟩⟩
 have hown:∀r,v.ownBlock=some r→r≠b∧ow r=some (.a l)∧w0.heap.size≤r∧(∀i,g.aO r i=none)∧∀o,w.heap[r]? =some o→nc o=false:=by
  intro r hr;rcases q7 with⟨rfl,rfl⟩|⟨r',c,cs,z,rfl,k1,k2,k3,k4,k5,k6⟩
  ·cases hr
  ·cases hr;exact⟨k1,k2,k3,k4,iY k5⟩
 have hne:v.ownBlock≠some b:=fun e=>(hown b e).1 rfl;refine⟨b,p,v,⟨q1,hpb⟩,⟨q5,q6,by rw[Lib.byteCells_length];exact hrow,hne⟩,fun bs' w' hp=>?_⟩;obtain⟨p',v',a1,a2,a3,a4,a5⟩:=hp.at_;have ma:∀k,k<w.heap.size→ow k≠some (.a l)→w'.heap[k]? =w.heap[k]? :=fun k hk hn=>hp.block k hk (by rintro rfl;exact hn q2) (fun e=>hn (hown k e).2.1)
 have keepI:∀k i u,g.aO k i=some u→w'.heap[k]? =w.heap[k]? :=fun k i u hu=>by
  have hc:=h.aO _ _ _ hu;refine hp.block k (World.block_lt_of_cell? w _ hc) (by rintro rfl;rw[q4]at hu;cases hu) (fun e=>?_);rw[(hown k e).2.2.2.1]at hu;cases hu
 have hown':∀r,v'.ownBlock=some r→w0.heap.size≤r∧(∀i,g.aO r i=none)∧(∀k,ow r=some k→k= .a l):=by
  intro r hr;rcases a5 with e1|⟨r',e1,e2⟩
  ·rw[e1]at hr;obtain⟨_,c2,c3,c4,_⟩:=hown r hr;exact⟨c3,c4,fun k hk=>by rw[c2]at hk;exact(RG hk).symm⟩
  ·rw[e1]at hr;cases hr;refine⟨Se h.below.size e2,fun i=>?_,fun k hk=>by have:=h.iJ _ _ hk;omega⟩
   cases hi:g.aO r i with
   |none=>rfl
   |some u=>have:=World.block_lt_of_cell? w _ (h.aO _ _ _ hi);simp at this;omega
 refine dc.close (ow:=fun x=>if v'.ownBlock=some x then some (.a l)else ow x) ⟨⟨?_,fun k o ho=>?_,h.below.jK⟩,fun k i u hu=>?_,h.nb,?_,h.df,h.fresh,?_,?_,?_,?_⟩
 ·refine .of (h.below.base.below.trans ⟨hp.os,hp.tape,hp.output,hp.size,fun k hk=>?_⟩) (by rw[h0];exact RL _);refine hp.block k (Sx hk h.below.size) (by rintro rfl;omega) (fun e=>?_);have:=(hown k e).2.2.1;omega
 ·obtain⟨c1,c2⟩:=h.below.obj k o ho;refine⟨(hp.block k (lt_of_heap c1) (by rintro rfl;rw[q5]at c1;cases c1;simp[nc]at c2) (fun e=>?_)).trans c1,c2⟩;rw[(hown k e).2.2.2.2 o c1]at c2;cases c2
 ·rw[World.cell?_of_block (w:=w) (w':=w') (a:=⟨k,i,none⟩) (keepI k i u hu)];exact h.aO _ _ _ hu
 ·rw[iN];exact h.na
 ·intro l' o'' hm' k hk;rcases dG h.na hm' with e|⟨hm',hne⟩
  ·simp only[RS]at e;obtain⟨rfl,rfl⟩:=e;exact h.top _ _ hm k hk
  ·exact h.top _ _ hm' k hk
 ·intro b' ds hb;refine(h.box _ _ hb).step (.refl g) fun ho=>⟨?_,ma b' (h.iJ _ _ ho) (by rw[ho];simp),fun _ hi=>hi⟩;rw[if_neg (fun e=>by cases(hown' _ e).2.2 _ ho)];exact ho
 ·intro l' o'' hm';rcases dG h.na hm' with e'|⟨hm',hnl⟩
  ·simp only[RS]at e';obtain⟨rfl,rfl⟩:=e';refine⟨?_,hpin⟩;refine⟨b,p',v',q1,(if_neg a4).trans q2,q3,q4,a1,a2,?_⟩
   ·rw[Lib.byteCells_length]at a3;rcases a3.2 with⟨e1,e2⟩|⟨r,c,cs,z,rfl,_,k1,k2,k3,k4,k5,k6⟩
    ·exact .inl ⟨e1,Rs e2⟩
    ·obtain⟨c1,c2,c3⟩:=hown' r rfl;exact .inr ⟨r,c,cs,z,rfl,fun e=>a4 (by rw[e];rfl),if_pos rfl,c1,c2,k1,by omega,k3,k4,by omega,by rw[Tb]at k6;exact k6⟩
  ·refine(h.acc _ _ hm').step (.refl g) fun b' ho=>⟨?_,ma b' (h.iJ _ _ ho) (by rw[ho];simp only[ne_eq,RC,Key.a.injEq];exact hnl),fun _ hi=>hi⟩;rw[if_neg (fun e=>hnl (by have:=(hown' _ e).2.2 _ ho;cases this;rfl))];exact ho
 ·intro b' k hk;split at hk
  ·rename_i e;rcases a3.2 with⟨e1,e2⟩|⟨r,c,cs,z,rfl,_,k1,_⟩
   ·rw[e1]at e;cases e
   ·cases e;exact lt_of_heap k1
  ·exact Sx (h.iJ _ _ hk) hp.size
theorem Rel.M0{g:Gh}{S:St}{w:World}(h:Rel w0 g S w)(T e:TypeId)(pin:Option Nat)(hpin:∀k,pin=some k→k=w.heap.size):
 ∃l g',g.le g'∧(∀p,p∈S.acc→p.1≠l)∧Rel w0 g' ⟨S.box,(l,.sb T e [] pin)::S.acc⟩ (w.alloc (.cells #[.pointer none,.slice none 0 0] T))∧g'.acc l 0=some (.slice (some ⟨w.heap.size,0,none⟩) 0 0):=by
 obtain⟨ow,h⟩:=h.open_
 have hnow:ow w.heap.size=none:=by
  cases ho:ow w.heap.size with
  |none=>rfl
  |some q=>have:=h.iJ _ q ho;omega
 have h':=h.grow (bG w (.cells #[.pointer none,.slice none 0 0] T));obtain⟨m,hm'⟩:=h'.fresh
 have hnone:∀i,g.aO w.heap.size i=none:=by
  intro i
  cases hi:g.aO w.heap.size i with
  |none=>rfl
  |some u=>have:=World.block_lt_of_cell? w _ (h.aO _ _ _ hi);simp at this
 have hne:∀p,p∈S.acc→p.1≠m:=by
  rintro⟨l',o'⟩ hp rfl;obtain⟨u,hu⟩:=(h'.acc _ _ hp).has;rw[hm' _ _ (Ro _)]at hu;cases hu
 have hle:g.le (g.aB m 0 (.slice (some ⟨w.heap.size,0,none⟩) 0 0)):=Gh.eg (.inl (hm' _ _ (Ro _)));have hself:(g.aB m 0 (.slice (some ⟨w.heap.size,0,none⟩) 0 0)).acc m 0=some (.slice (some ⟨w.heap.size,0,none⟩) 0 0):=by simp[Gh.aB]
 refine⟨m,_,hle,hne,dc.close (ow:=fun x=>if x=w.heap.size then some (.a m)else ow x) ⟨h'.below.le hle,h'.aO,h'.nb,?_,?_,?_,?_,?_,?_,?_⟩,hself⟩
 ·simp only[Rz,R0];refine⟨fun hx=>?_,h'.na⟩;obtain⟨p,hp,e⟩:=RI.1 hx;exact hne p hp e
 ·intro l' n u hu;simp only[Gh.aB]at hu;split at hu
  ·rename_i e;obtain⟨rfl,rfl⟩:=e;exact⟨_,_,(RG hu).symm,.inl rfl⟩
  ·exact h'.df _ _ _ hu
 ·refine⟨m+1,fun l n hl=>?_⟩;simp only[Gh.aB];rw[if_neg (by omega)];exact hm' _ _ (by omega)
 ·intro l o hl k hk;simp only[Gh.aB];rcases Rv.1 hl with e|hl
  ·simp only[RS]at e;obtain⟨rfl,rfl⟩:=e;simp only[Ob.len]at hk;rw[if_neg (by omega)];exact hm' _ _ (Ro _)
  ·rw[if_neg (fun e=>hne _ hl e.1)];exact h'.top _ _ hl k hk
 ·intro b' ds hb';refine(h'.box b' ds hb').step hle fun ho=>⟨?_,rfl,fun _ hi=>hi⟩;split
  ·rename_i e;subst e;exact absurd (hnow.symm.trans ho) (by simp)
  ·exact ho
 ·intro l o hl;rcases Rv.1 hl with e'|hl
  ·simp only[RS]at e';obtain⟨rfl,rfl⟩:=e';refine⟨?_,fun k hk=>by rw[hpin k hk];exact hself⟩;exact⟨_,_,_,hself,if_pos rfl,h.below.size,hnone,heap_alloc_new w _,.inl rfl,.inl ⟨rfl,rfl⟩⟩
  ·refine(h'.acc l o hl).step hle fun b' ho=>⟨?_,rfl,fun _ hi=>hi⟩;split
   ·rename_i e;subst e;exact absurd (hnow.symm.trans ho) (by simp)
   ·exact ho
 ·intro b' q hq;split at hq
  ·rename_i e;subst e;simp
  ·exact h'.iJ _ _ hq
theorem DO{o:Oper}{T:TypeId}(e:TypeId)(ho:o.op= .alloc T)(hz:(P.info? T).bind (·.zero)=some (.agg #[.pointer none,.slice none 0 0])){ρD:Operand→DV}{S:St}{K:DV→St→Prop}
 (h:∀k l,gx S.acc l→K (.v (.pointer (some ⟨k,0,none⟩))) ⟨S.box,(l,.sb T e [] (some k))::S.acc⟩):ae P w0 o ρD S K:=by
 intro g w ρ h1 h2 hcst;obtain⟨i,hi,hz⟩:=TH.1 hz
 have hrun:(execOp ρ o).run P w= .ok (.value (.pointer (some ⟨w.heap.size,0,none⟩))) (w.alloc (.cells #[.pointer none,.slice none 0 0] T)):=by
  simp[execOp,ho,Instr.alloc,newVar,newRow,zeroValue,typeInfo,hi,hz,Value.cells]
 rw[hrun];obtain⟨l,g',hle,hne,hR,ha⟩:=h1.M0 T e (some w.heap.size) (fun k h=>by cases h;rfl);exact⟨g',_,_,hle,hR,.v _ rfl,h _ l (bN hne)⟩
theorem Py(e:TypeId){id:Nat}{o:Oper}{rest:List Oper}{fr:List DV}{S:St}{Q:Exit→List DV→St→Prop}{T:TypeId}(hg:o.guard=none)(ho:o.op= .alloc T)(hz:(P.info? T).bind (·.zero)=some (.agg #[.pointer none,.slice none 0 0]))
 (hs:rest.all (fun o=>eE o.op)=true) (h:∀(k:Nat) (l:FN S.acc),uc P w0 (o::rest).toArray (fun fr S=>fP fr fun fr=>Q .normal fr S) rest (pt fr o.dst (.v (.pointer (some ⟨k,0,none⟩)))) ⟨S.box,(l.n,.sb T e [] (some k))::S.acc⟩):
 fK P w0 (.region id (o::rest).toArray false) fr S Q:=by
 refine oW ?_;unfold wb;unfold bl;rw[hg];refine DO e ho hz fun k l hl=>?_;have h':=nr S.acc fun l=>uc P w0 (o::rest).toArray (fun fr S=>fP fr fun fr=>Q .normal fr S) rest (pt fr o.dst (.v (.pointer (some ⟨k,0,none⟩)))) ⟨S.box,(l,.sb T e [] (some k))::S.acc⟩;exact j6 rest hs (Eq.mpr h' (h k) l hl)
theorem yN(h0:w0.w.drawn=0){f:FuncId}{l k:Nat}{T e:TypeId}{bs bs':List UInt8}{S:St}(hl:lk S.acc l=some (.sb T e bs (some k))){us:List Value}{r:Value}{d:DV}(hd:∀g,aA g d r)
 (hc:∀b p v w,A5 T e b p v (Lib.byteCells bs) w→Calls P f (.pointer (some ⟨b,0,none⟩)::us).toArray w fun x w'=>x= .returned r∧Cx T e b v (Lib.byteCells bs') w w'):
 ab P w0 f (.v (.pointer (some ⟨k,0,none⟩))::us.map .v) S (fun d' S'=>d'=d∧S'=⟨S.box,up S.acc l (.sb T e bs' (some k))⟩):=by
 intro g vs w h hr;obtain⟨b,p,v,⟨_,q1⟩,q2,q3⟩:=h.ML hl h0;obtain⟨u,us',hvs,r1,r2⟩:=hr.ba;obtain rfl:=an r1;obtain rfl:=q1 k rfl
 have e1:us'=us:=by
  refine Sh fun i=>?_;have hlen:us.length=us'.length:=by simpa using r2.len
  by_cases hi:i<us.length
  ·rw[so hi,so (by omega)];have:=r2.at_ i (.v us[i]) us'[i] (by simp[hi]) (so (by omega));rw[an this]
  ·rw[Ry (by omega),Ry (by omega)]
 subst e1;have e2:vs=(.pointer (some ⟨k,0,none⟩)::us').toArray:=by rw[←hvs]
 rw[e2];refine(hc k p v w q2).mono ?_;rintro x w' ⟨rfl,hp⟩;exact .inl ⟨r,g,d,_,rfl,.refl g,q3 _ _ hp,hd g,rfl,rfl⟩
end
end Aml
namespace Aml
open Go Go.RowKit
section
variable {P:Program} {w0:W0}
def Kn(w0:W0)(X:World→Prop):Prop:=w0.w.drawn=0∧∀w,Below w0.heap.size w0.w w→X w
theorem Kn.mono{w0:W0}{X Y:World→Prop}(h:Kn w0 X)(k:∀w,X w→Y w):Kn w0 Y:=⟨h.1,fun w hw=>k w (h.2 w hw)⟩
theorem Rel.kn{g:Gh}{S:St}{w:World}(h:Rel w0 g S w){X:World→Prop}(k:Kn w0 X):X w:=k.2 w h.below.base.below
theorem mr{f:FuncId}{ds:List DV}{us:List Value}{S:St}{Kd:DV→Prop}(ha:∀g vs,aa g ds vs→vs=us)
 (hc:Kn w0 fun w=>Calls P f us.toArray w fun e w'=>∃r d,e= .returned r∧(∀g,aA g d r)∧Kd d∧Below w.heap.size w w'):ab P w0 f ds S (fun d S'=>Kd d∧S'=S):=by
 intro g vs w h hr;have e1:=ha g vs.toList hr;have e2:vs=us.toArray:=by rw[←e1]
 rw[e2];refine(h.kn hc).mono ?_;rintro e w' ⟨r,d,rfl,hd,hk,hb⟩;exact .inl ⟨r,g,d,S,rfl,.refl g,h.rC hb hc.1,hd g,hk,rfl⟩
theorem rU(us:List Value):∀g vs,aa g (us.map DV.v) vs→vs=us:=by
 intro g vs h;refine Sh fun i=>?_;have hlen:us.length=vs.length:=by simpa using h.len
 by_cases hi:i<us.length
 ·rw[so hi,so (by omega)];have:=h.at_ i (.v us[i]) vs[i] (by simp[hi]) (so (by omega));rw[an this]
 ·rw[Ry (by omega),Ry (by omega)]
theorem gZ{f:FuncId}{us:List Value}{S:St}{r:Value}{d:DV}(hd:∀g,aA g d r)
 (hc:Kn w0 fun w=>Calls P f us.toArray w fun e w'=>e= .returned r∧Below w.heap.size w w'):ab P w0 f (us.map DV.v) S (fun d' S'=>d'=d∧S'=S):=
 mr (rU us) (Kn.mono hc fun w hw=>hw.mono fun e w' h=>⟨r,d,h.1,hd,rfl,h.2⟩)
theorem kV{g:Gh}{a b:DV}{x y:Value}(h1:aA g a x)(h2:aA g b y):aA g (.bU [a,b]) (.tuple #[x,y]):=
 .bU [a,b] [x,y] rfl fun i d u p q=>by
  match i with
  |0=>simp at p q;subst p;subst q;exact h1
  |1=>simp at p q;subst p;subst q;exact h2
  |n+2=>simp at p
theorem AY(h0:w0.w.drawn=0){f:FuncId}{fl:Bool}{xs:List ByteArray}{us:List Value}{S:St}{r:Value}{d:DV}(hd:∀g,aA g d r)(hne:xs≠[])
 (hc:∀bk o c w,(∀(j:Nat) x,xs[j]? =some x→w.cell? ⟨bk,o+j,none⟩=some (.string x))→bk<w.heap.size→xs.length≤c→Calls P f (.slice (some ⟨bk,o,none⟩) xs.length c::us).toArray w fun e w'=>e= .returned r∧Below w.heap.size w w'):
 ab P w0 f (.sl 1 fl (xs.map fun x=> .v (.string x))::us.map DV.v) S (fun d' S'=>d'=d∧S'=S):=by
 intro g vs w h hr;obtain⟨u,us',hvs,r1,r2⟩:=hr.ba;have e1:=rU us g us' r2;subst e1;have e2:vs=(u::us').toArray:=by rw[←hvs]
 rcases eL r1 with⟨he,_⟩|⟨b,o,c,ws,hv,hrl,hfl,hlc,hcm,hzz,hone,hcell⟩
 ·simp at he;exact absurd he hne
 ·have hwl:xs.length=ws.length:=by simpa using hrl.len
  have hcells:∀(j:Nat) x,xs[j]? =some x→w.cell? ⟨b,o+j,none⟩=some (.string x):=by
   intro j x hx;have hj:j<ws.length:=by have:=(Rp.1 hx).1;omega
   have h1:aA g (.v (.string x)) ws[j]:=hrl.at_ j _ _ (by rw[Rt,hx];rfl) (so hj);have h2:=an h1;have h3:=hcell j ws[j] 0 (.string x) (so hj) (by rw[h2];rfl);have h4:=h.aO _ _ _ h3;simpa using h4
  have hlt:b<w.heap.size:=by
   have hpos:0<xs.length:=Sv.2 hne;exact World.block_lt_of_cell? w _ (hcells 0 xs[0] (so hpos))
  rw[e2,hv];rw[RM];refine(hc b o c w hcells hlt (by rw[RM]at hlc;exact hlc)).mono ?_;rintro e w' ⟨rfl,hb⟩;exact .inl ⟨r,g,d,S,rfl,.refl g,h.rC hb h0,hd g,rfl,rfl⟩
theorem se{f:FuncId}{us:List Value}{xs:List ByteArray}{e0:TypeId}{S:St}(hm:xs.length≤maxLen)(hne:xs≠[])
 (hc:Kn w0 fun w=>Calls P f us.toArray w fun e w'=>e= .returned (.slice (some ⟨w.heap.size,0,none⟩) xs.length xs.length)∧w'=w.alloc (.cells (xs.map Value.string).toArray e0)):
 ab P w0 f (us.map DV.v) S (fun d S'=>d= .sl 1 true (xs.map fun x=> .v (.string x))∧S'=S):=by
 intro g vs w h hr;have e1:=rU us g vs.toList hr;have e2:vs=us.toArray:=by rw[←e1]
 rw[e2];refine(h.kn hc).mono ?_;rintro e w' ⟨rfl,rfl⟩;obtain⟨hle,hR⟩:=h.xZ (bG w (.cells (xs.map Value.string).toArray e0)) (Ro _) (heap_alloc_new w _);refine .inl ⟨_,_,_,S,rfl,hle,hR,?_,rfl,rfl⟩
 have:=aA.sl (g:=g.aN w.heap.size fun i=>((xs.map Value.string).toArray)[i]?) 1 true (xs.map fun x=>DV.v (.string x)) w.heap.size 0 xs.length (xs.map Value.string) (by simp) (fun _=>by simp) (by simp) hm
  (fun i d u p q=>by
   rw[Rt,Rw]at p q;obtain⟨z,hz,rfl⟩:=p;obtain⟨z',hz',rfl⟩:=q;rw[hz]at hz';cases hz';exact .v _ rfl)
  (fun i u p=>by
   rw[Rt,Rw]at p;obtain⟨z,hz,rfl⟩:=p;rfl)
  (fun u hu x hx=>by
   obtain⟨z,hz,rfl⟩:=RI.1 hu;simp[Value.cells]at hx;subst hx;rfl)
  (fun i u j x p q=>by
   rw[Rt,Rw]at p;obtain⟨z,hz,rfl⟩:=p
   have hj:j=0:=by
    have:=(Rq.1 q).1;simp[Value.cells]at this;omega
   subst hj;simp[Value.cells]at q;subst q;simp only[Gh.aN,if_true,Tb,Sz,SS];rw[List.getElem?_toArray,Rt,hz];rfl)
 simpa using this
end
end Aml
namespace Aml
open Go Go.RowKit
def Same(T:List Nat)(a0 a:Act):Prop:=(∀t,t∈T→a.tmps[t]? =a0.tmps[t]?)∧a.defers=a0.defers∧a.tmps.size=a0.tmps.size
def Kt(T:List Nat)(a0:Act)(Q:Exit→Act→World→Prop)(e:Exit)(a:Act)(w:World):Prop:=match e with
 | .outgrown=>Q .outgrown a w
 |e=>Q e a w∧Same T a0 a
def Hk:Op→Bool
 | .defer _=>true
 |_=>false
def uW(T:List Nat)(o:Oper):Bool:=!Hk o.op&&(match o.dst with|some d=>!T.contains d|none=>true)
section
variable {P:Program} {w0:W0} {F:Fence} {n:Nat} {Q:Exit→Act→World→Prop}
theorem tU{T:List Nat}{a0 a:Act}{o:Oper}(hd:uW T o=true)(h:Same T a0 a)(u:Value):Same T a0 (a.put o.dst u):=by
 refine⟨fun t ht=>?_,(put_defers _ _ _).trans h.2.1,Eq.trans (by cases o.dst <;>simp[Act.put]) h.2.2⟩;unfold uW at hd;simp only[Rm]at hd
 cases hq:o.dst with
 |none=>exact h.1 t ht
 |some d=>
  have hd:=hd.2;rw[hq]at hd;simp only[Sc,List.contains_eq_mem,decide_eq_false_iff_not]at hd;have:d≠t:=fun e=>hd (e▸ht);simp only[Act.put];rw[RF,if_neg this];exact h.1 t ht
theorem jW{ro:Option Nat}{ops:Array Oper}{g0:Gh}{Q:Exit→List DV→St→Prop}{T:List Nat}{a0:Act}:∀(l:List Oper) (fr:List DV) (S:St) (g:Gh) (a:Act) (w:World),l.all (uW T)=true→Same T a0 a→g0.le g→Rel w0 g S w→aa g fr a.tmps.toList→Dk w0 g a w→
 wb P w0 ops (fun fr S=>Q .normal fr S) l fr S→wpListIn (fz ro) 0 P ops (Kt T a0 (Good w0 g0 Q)) l a w
 |[],fr,S,g,a,w,_,hs,k,h1,h2,h3,h=>⟨⟨k.kd h3,g,fr,S,k,h1,h2,h⟩,hs⟩
 |o::rest,fr,S,g,a,w,hl,hs,k,h1,h2,h3,h=>by
  simp only[SU,Rm]at hl;unfold wb at h;unfold wpListIn;rcases fX h2 h with⟨hw,fr',h2',hA⟩|⟨hw,fr',h2',hB⟩
  ·rw[if_pos hw];refine iB hA h1 (fun x _=>fw h2' x) h3 k h2' (Q:=Q) (fun v w' hg=>⟨hg,hs⟩) fun g' d u S' w' k1 k2 k3 k4 k5=>?_;exact jW rest _ _ g' _ _ hl.2 (tU hl.1 hs u) (k.trans k1) k2 (bM (h2'.mono k1) _ k3) (k1.dk k5) k4
  ·rw[if_neg (by simp[hw])];exact⟨fun _ _=>trivial,jW rest _ _ g _ _ hl.2 (tU hl.1 hs undef) k h1 (bM h2' _ (gu g)) (h3.ma (put_defers _ _ _) fun _ _ h _=>h) hB⟩
end
section
variable {P:Program} {w0:W0}
def Ou(T:List Nat)(P:Program)(w0:W0)(c:Code)(fr:List DV)(S:St)(Q:Exit→List DV→St→Prop):Prop:=
 ∀g a0 a w,Rel w0 g S w→aa g fr a.tmps.toList→Dk w0 g a w→Same T a0 a→qa P c (Kt T a0 (Good w0 g Q)) a w
def mQ(t:List Nat):Code→Bool
 | .skip=>true
 | .ret=>true
 | .exit _=>true
 | .seq a b=>mQ t a&&mQ t b
 | .cond _ a b=>mQ t a&&mQ t b
 | .block _ c=>mQ t c
 | .region _ ops false=>ops.toList.all (fun o=>eE o.op&&uW t o)
 |_=>false
theorem Kt.mono{t:List Nat}{v:Act}{Q Q':Exit→Act→World→Prop}(h:∀e a w,Q e a w→Q' e a w){e:Exit}{a:Act}{w:World}(k:Kt t v Q e a w):Kt t v Q' e a w:=by
 cases e <;>first|exact⟨h _ _ _ k.1,k.2⟩|exact h _ _ _ k
theorem di{t:List Nat}:∀(c:Code) {fr:List DV} {S:St} {Q:Exit→List DV→St→Prop},mQ t c=true→vw P w0 [] c fr S Q→Ou t P w0 c fr S Q
 | .skip,fr,S,Q,_,h=>fun g v a w h1 h2 h3 h4=>pb ⟨⟨h3,g,fr,S,.refl g,h1,h2,h⟩,h4⟩
 | .ret,fr,S,Q,_,h=>fun g v a w h1 h2 h3 h4=>sD ⟨⟨h3,g,fr,S,.refl g,h1,h2,h⟩,h4⟩
 | .exit n,fr,S,Q,_,h=>fun g v a w h1 h2 h3 h4=>v8 ⟨⟨h3,g,fr,S,.refl g,h1,h2,h⟩,h4⟩
 | .seq x y,fr,S,Q,ho,h=>fun g v a w h1 h2 h3 h4=>by
  simp only[mQ,Rm]at ho;refine ju (bC (di x ho.1 h g v a w h1 h2 h3 h4) ?_);intro e a' w' hg
  cases e with
  |normal=>
   obtain⟨⟨hd,g',fr',S',k1,k2,k3,k4⟩,ht⟩:=hg;exact bC (di y ho.2 k4 g' v a' w' k2 k3 (k1.dk hd) ht) fun _ _ _ k=>k.mono fun _ _ _ k=>k.of_le k1
  |exit n=>exact hg
  |goto n=>exact hg
  |ret=>exact hg
  |panic ch=>exact hg
  |outgrown=>exact hg
 | .cond c x y,fr,S,Q,ho,h=>fun g v a w h1 h2 h3 h4=>by
  simp only[mQ,Rm]at ho;have h:de (ev fr c) (vw P w0 [] x fr S Q) (vw P w0 [] y fr S Q):=h;have hr:=fw h2 c;unfold de at h;split at h
  ·rename_i b he;rw[he]at hr;exact dN (ky hr) (fun hb=>di x ho.1 (h.1 hb) g v a w h1 h2 h3 h4) (fun hb=>di y ho.2 (h.2 hb) g v a w h1 h2 h3 h4)
  ·exact h.elim
 | .block n c,fr,S,Q,ho,h=>fun g v a w h1 h2 h3 h4=>by
  unfold mQ at ho
  have h:vw P w0 [] c fr S (ij n Q):=by
   unfold vw cD at h;simpa using h
  refine jl (bC (di c ho h g v a w h1 h2 h3 h4) ?_);intro e a' w' hg
  cases e with
  |exit m=>
   obtain⟨⟨hd,g',fr',S',k1,k2,k3,k4⟩,ht⟩:=hg;simp only[Exit.inBlock];simp only[Qp,ij]at k4;split
   ·rename_i e;rw[if_pos e]at k4;exact⟨⟨hd,g',fr',S',k1,k2,k3,k4⟩,ht⟩
   ·rename_i e;rw[if_neg e]at k4;exact⟨⟨hd,g',fr',S',k1,k2,k3,k4⟩,ht⟩
  |normal=>exact hg
  |goto n=>exact hg
  |ret=>exact hg
  |panic ch=>exact hg
  |outgrown=>exact hg
 | .region n ops false,fr,S,Q,ho,h=>fun g v a w h1 h2 h3 h4=>by
  unfold mQ at ho
  have ho1:ops.toList.all (fun o=>eE o.op)=true:=RD.2 fun o hm=>by
   have:=RD.1 ho o hm;rw[Rm]at this;exact this.1
  have ho2:ops.toList.all (uW t)=true:=RD.2 fun o hm=>by
   have:=RD.1 ho o hm;rw[Rm]at this;exact this.2
  have h:qO P w0 ops (fun fr S=>Q .normal fr S) ops.toList fr S:=by
   unfold vw cD at h;simpa using h
  have h:=gF _ ho1 h;have:=fj (P:=P) (id:=n) (l:=ops.toList) (Q:=Kt t v (Good w0 g Q)) (a:=a) (w:=w) fun ro=>jW (ro:=ro) (g0:=g) (Q:=Q) ops.toList fr S g a w ho2 h4 (.refl g) h1 h2 h3 (by simpa using h);simpa using this
 | .region n ops true,fr,S,Q,ho,h=>by cases ho
 | .loop c,fr,S,Q,ho,h=>by cases ho
 | .rangeFunc f ps a b,fr,S,Q,ho,h=>by cases ho
 | .scope c,fr,S,Q,ho,h=>by cases ho
 | .label l,fr,S,Q,ho,h=>by cases ho
 | .goto l,fr,S,Q,ho,h=>by cases ho
 | .refuse w,fr,S,Q,ho,h=>by cases ho
theorem Ou.mono{T:List Nat}{c:Code}{fr:List DV}{S:St}{Q Q':Exit→List DV→St→Prop}(h:Ou T P w0 c fr S Q)(hq:∀e fr S,Q e fr S→Q' e fr S):Ou T P w0 c fr S Q':=
 fun g v a w h1 h2 h3 h4=>bC (h g v a w h1 h2 h3 h4) fun e a w k=>k.mono fun e a w k=>k.mono hq
def iA:ResultVar→Nat
 | .tmp t=>t
 | .cell a _=>a
theorem tF{fn:Func}{rs:List ResultVar}(hrs:fn.results=rs.toArray){a a':Act}(h:∀r,r∈rs→a'.tmps[iA r]? =a.tmps[iA r]?):results fn a'.tmps=results fn a.tmps:=by
 have:∀l:List ResultVar,(∀r,r∈l→a'.tmps[iA r]? =a.tmps[iA r]?)→l.mapM (qv a'.tmps)=l.mapM (qv a.tmps):=by
  intro l
  induction l with
  |nil=>intro _;rfl
  |cons r l ih=>
   intro h
   have e:qv a'.tmps r=qv a.tmps r:=by
    have h1:=h r Rx
    cases r with
    |tmp t=>simp only[qv,iA]at h1 ⊢;rw[RE,RE,h1]
    |cell p t=>simp only[qv,iA]at h1 ⊢;rw[RE,RE,h1]
   rw[List.mapM_cons,List.mapM_cons,e,ih fun r hr=>h r (Rr _ hr)]
 rw[gS,gS,hrs];simp only[List.mapM_toArray,this rs h]
def Idle(P:Program)(cl:FuncId)(bs:List Value):Prop:=∀w,CallsDIn (fz none) 0 P cl bs.toArray .returning w fun e u' w'=>(∃r,e= .returned r)∧u'= .returning∧w'=w
def Ks(P:Program)(w0:W0)(cl:FuncId)(bs:List Value)(pq:DV→St→Prop)(K:St→Prop):Prop:=∀g T w v d,Rel w0 g T w→aA g d v→pq d T→
 CallsDIn (fz none) 0 P cl bs.toArray (.panicking [{v,recovered:=false}]) w fun e u' w'=>(∃r,e= .returned r)∧u'= .panicking [{v,recovered:=true}]∧∃g' T',g.le g'∧Rel w0 g' T' w'∧K T'
theorem gj{F:Fence}{n:Nat}{f:FuncId}{args:Array Value}{u:FrameMode}{w:World}{R R':Ending→FrameMode→World→Prop}(h:CallsDIn F n P f args u w R)(hr:∀e u w,R e u w→R' e u w):CallsDIn F n P f args u w R':=
 ⟨h.1,fun c cs hu hroom=>let⟨e,u',w',fr,hR,x⟩:=h.2 c cs hu hroom;⟨e,u',w',fr,hr _ _ _ hR,x⟩⟩
theorem Cb{f:FuncId}{fn:Func}{p rest:Code}{id t1:Nat}{o1 od:Oper}{rs:List ResultVar}{args:List DV}{S:St}{K:DV→St→Prop}{cl:FuncId}{caps:List Nat}
 (hf:P.funcs[f]? =some fn) (hb:fn.body=some (.seq p (.seq (.region id #[o1,od] false) rest))) (hrs:fn.results=rs.toArray)
 (ho1:o1.op= .makeFunc (.func cl) #[] (caps.map .tmp).toArray∧o1.dst=some t1∧o1.guard=none) (hod:od.op= .defer {callee:= .value (.tmp t1),args:= #[],argTypes:= #[]}∧od.dst=none∧od.guard=none)
 (hcl:okF P cl=true) (hk1:mQ [] p=true) (hk2:mQ (rs.map iA) rest=true) (ht1:(rs.map iA).contains t1=false∧t1<fn.ntmps∧args.length≤t1)
 (hp:vw P w0 [] p (cz (args++List.replicate (fn.ntmps-args.length) ud)) S fun e fr S1=>e= .normal∧∃bs:List Value,caps.map (fun t=>fr.getD t ud)=bs.map .v∧∃pq:DV→St→Prop,
  vw P ⟨w0.w,w0.gh,pq⟩ [] rest (fr.set t1 (.v (.func (.func cl) #[] bs.toArray))) S1 (fun e _ S2=>(e= .normal∨e= .ret)∧jJ P fr S2 rs fun d=>K d S2)∧
  Idle P cl bs∧Ks P w0 cl bs pq fun S2=>jJ P fr S2 rs fun d=>K d S2):ab P w0 f args S K:=by
 intro g vs w h1 h2;refine Calls.mono (R:=Ends w0 (g.aE []) K) ?_ fun e w'=>Ends.aE h1.below.jK;have h1:=h1.aE (w0':=w0) [] rfl h1.below.jK;have h2:aa (g.aE []) args vs.toList:=h2.aE;generalize hg:g.aE []=g0 at h1 h2 ⊢;have hgd:g0.lC=[]:=by rw[←hg];rfl
 refine(ft (ro:=none) (n:=0)).1 (callsIn_of_wp_marks hf hb trivial ?_ rfl);have hlen:args.length=vs.size:=by simpa using h2.len
 have hR0:aa g0 (args++List.replicate (fn.ntmps-args.length) ud) (vs++Array.replicate (fn.ntmps-vs.size) undef).toList:=by rw[hlen];simpa using h2.append (aa.replicate g0 (fn.ntmps-vs.size))
 obtain⟨a0,ha0⟩:∃a0:Act,a0={tmps:=vs++Array.replicate (fn.ntmps-vs.size) undef,defers:=[]}:=⟨_,rfl⟩;rw[←ha0];have hR0:aa g0 (args++List.replicate (fn.ntmps-args.length) ud) a0.tmps.toList:=by rw[ha0];exact hR0
 have hd0:a0.defers=[]:=by rw[ha0]
 have hz0:fn.ntmps≤a0.tmps.size:=by rw[ha0];simp;omega
 refine wpIn_seq (wpIn_mono (di p hk1 hp g0 a0 a0 w h1 hR0 (.nil (hd0.trans hgd.symm)) ⟨fun _ _=>rfl,rfl,rfl⟩ none (.inl rfl)) ?_);intro e a1 w1 hg1
 cases e with
 |exit n=>obtain⟨⟨_,_,_,_,_,_,_,q,_⟩,_⟩:=hg1;cases q
 |goto n=>obtain⟨⟨_,_,_,_,_,_,_,q,_⟩,_⟩:=hg1;cases q
 |ret=>obtain⟨⟨_,_,_,_,_,_,_,q,_⟩,_⟩:=hg1;cases q
 |outgrown=>obtain⟨_,_,_,_,_,_,_,q,_⟩:=hg1;cases q
 |panic ch=>
  obtain⟨⟨_,g',fr',S',k1,k2,k3,v,d,rfl,q1,q2⟩,hs⟩:=hg1;show LeavesInM (fz none) 0 P fn a1.tmps (Ends w0 g0 K) a1.defers (.panicking _) w1;rw[hs.2.1,hd0];exact .inr ⟨v,g',d,S',rfl,k1,k2,q1,q2⟩
 |normal=>
  obtain⟨⟨_,g1,fr1,S1,k1,R1,r1,_,bs,hbs,pq,hrest,hidle,hbr⟩,hs1⟩:=hg1;have hd1:a1.defers=[]:=hs1.2.1.trans hd0;have hz1:t1<a1.tmps.size:=by rw[hs1.2.2];omega
  have hev:((caps.map Operand.tmp).toArray.map a1.eval)=bs.toArray:=by
   have:caps.map (fun t=>a1.eval (.tmp t))=bs:=by
    refine Sh fun i=>?_;have hi:=congrArg (·[i]?) hbs;simp only[Rt]at hi ⊢
    cases hc:caps[i]? with
    |none=>rw[hc]at hi;cases hb:bs[i]? with
     |none=>rfl
     |some x=>rw[hb]at hi;cases hi
    |some t=>
     rw[hc]at hi
     cases hb:bs[i]? with
     |none=>rw[hb]at hi;cases hi
     |some x=>
      rw[hb]at hi;simp only[R6,RC]at hi ⊢;have h:=fw r1 (.tmp t);rw[show ev fr1 (.tmp t)= .v x from hi]at h;exact an h
   rw[←this];simp
  obtain⟨fv,hfv⟩:∃fv:Value,fv= .func (.func cl) #[] bs.toArray:=⟨_,rfl⟩;obtain⟨d,hd⟩:∃d:Deferred,d={target:= .fn (.func cl) bs.toArray,args:= #[]}:=⟨_,rfl⟩
  have hrun1:(execOp a1.eval o1).run P w1= .ok (.value fv) w1:=by
   have:∀(fn:Fn) (first cap:Array Value) (w:World),(Instr.makeFunc fn first cap).run P w= .ok (.func fn first cap) w:=fun _ _ _ _=>rfl;rw[hfv];unfold execOp;rw[ho1.1];simp only[hev];simp[this]
  have he2:(a1.put (some t1) fv).eval (.tmp t1)=fv:=by
   simp only[Act.put,Act.eval];rw[RE,Array.getElem?_setIfInBounds_self_of_lt hz1];rfl
  have hrun2:(execOp (a1.put (some t1) fv).eval od).run P w1= .ok (.defer d) w1:=by
   unfold execOp;rw[hod.1,hd];have he3:=he2;rw[hfv]at he3;rw[hfv];simp only[resolve,he3];simp[Deferred.ofValue]
  refine wpIn_seq (wpIn_region_lit (l:=[o1,od]) ?_);unfold wpListIn;rw[if_pos (by simp[Region.wanted,ho1.2.2])];refine⟨fun _ _=>trivial,?_⟩;rw[show(fz none).round=none from rfl,Oper.semAt_none,hrun1];show wpListIn (fz none) 0 P _ _ [od] (a1.put o1.dst fv) w1;rw[ho1.2.1];unfold wpListIn;rw[if_pos (by simp[Region.wanted,hod.2.2])];refine⟨fun _ _=>trivial,?_⟩;rw[show(fz none).round=none from rfl,Oper.semAt_none,hrun2];obtain⟨a3,ha3⟩:∃a3:Act,a3={a1.put (some t1) fv with defers:=[d]}:=⟨_,rfl⟩;have hd3:a3.defers=[d]:=by rw[ha3]
  have e3:({a1.put (some t1) fv with defers:=d::(a1.put (some t1) fv).defers}:Act).put none undef=a3:=by
   rw[ha3];simp only[Act.put,hd1]
  show rest.wpIn (fz none) 0 P _ (({a1.put (some t1) fv with defers:=d::(a1.put (some t1) fv).defers}:Act).put od.dst undef) w1;rw[hod.2.1,e3];have t3:a3.tmps=(a1.put (some t1) fv).tmps:=by rw[ha3]
  have r3:aa (g1.aE [d]) (fr1.set t1 (.v fv)) a3.tmps.toList:=by
   rw[t3];exact(bM r1 (some t1) (d:= .v fv) (.v _ (by rw[hfv];rfl))).aE
  rw[←hfv]at hrest;have R3:Rel ⟨w0.w,w0.gh,pq⟩ (g1.aE [d]) S1 w1:=R1.aE [d] rfl R1.below.jK
  have slots:∀a4,Same (rs.map iA) a3 a4→results fn a4.tmps=results fn a1.tmps:=by
   intro a4 h4;refine tF hrs fun r hr=>?_;rw[h4.1 _ (Sl hr),t3];simp only[Act.put]
   have:¬t1=iA r:=by
    rintro e;have:=ht1.1;simp only[List.contains_eq_mem,decide_eq_false_iff_not]at this;exact this (e▸Sl hr)
   rw[RF,if_neg this]
  have hinv:∀w,(invoke d.target d.args).run P w= .ok (.enter cl bs.toArray) w:=by
   intro w;unfold okF at hcl;split at hcl
   ·rename_i fn' hfn';simp only[Rm,Sc]at hcl;obtain⟨hb,hname⟩:=hcl;have hbn:¬fn'.body=none:=by intro e;simp[e]at hb
    have hname':¬fn'.name= "runtime.NumGoroutine" :=by simpa using hname
    rw[hd];simp[invoke,callFunc,hfn',hname',hbn]
   ·cases hcl
  have fin:∀(g4:Gh) (S4:St) (w4:World) (a4:Act),Same (rs.map iA) a3 a4→(g1.aE [d]).le g4→Rel w0 g4 S4 w4→jJ P fr1 S4 rs (fun d=>K d S4)→LeavesInM (fz none) 0 P fn a4.tmps (Ends w0 g0 K) [] .returning w4:=by
   intro g4 S4 w4 a4 hs4 k4 R4 hres;obtain⟨v,dd,e1,e2,e3⟩:=zt (P:=P) R4 ((r1.aE (ds:=[d])).mono k4) hrs hres;refine⟨v,by rw[slots a4 hs4];exact e1,.inl ⟨v,g4.aE [],dd,S4,rfl,⟨fun b i u h=>k4.aO _ _ _ (k1.aO _ _ _ h),fun b i u h=>k4.acc _ _ _ (k1.acc _ _ _ h),k4.obj.trans k1.obj,hgd.symm⟩,R4.aE [] rfl R4.below.jK,e2.aE,e3⟩⟩
  refine wpIn_mono (di rest hk2 hrest (g1.aE [d]) a3 a3 w1 R3 r3 (.nil hd3) ⟨fun _ _=>rfl,rfl,rfl⟩ none (.inl rfl)) ?_
  have norm:∀(g4:Gh) (S4:St) (w4:World) (a4:Act),Same (rs.map iA) a3 a4→(g1.aE [d]).le g4→Rel w0 g4 S4 w4→jJ P fr1 S4 rs (fun d=>K d S4)→LeavesInM (fz none) 0 P fn a4.tmps (Ends w0 g0 K) a4.defers .returning w4:=by
   intro g4 S4 w4 a4 hs4 k4 R4 hres;rw[hs4.2.1,hd3];refine⟨by simp,.inr ⟨fun h=>by simp[fz,Fence.wide]at h,.func cl,bs.toArray,cl,bs.toArray,by rw[hd],hinv w4,fun _ _=>trivial,gj (hidle w4) ?_⟩⟩;rintro e u' w' ⟨⟨r,rfl⟩,rfl,rfl⟩;exact fin g4 S4 _ a4 hs4 k4 R4 hres
  intro e a4 w4 hg
  cases e with
  |exit n=>obtain⟨⟨_,_,_,_,_,_,_,q,_⟩,_⟩:=hg;rcases q with q|q <;>cases q
  |goto n=>obtain⟨⟨_,_,_,_,_,_,_,q,_⟩,_⟩:=hg;rcases q with q|q <;>cases q
  |outgrown=>obtain⟨_,_,_,_,_,_,_,q,_⟩:=hg;rcases q with q|q <;>cases q
  |normal=>
   obtain⟨⟨_,g4,fr4,S4,k4,R4,r4,_,hres⟩,hs4⟩:=hg;exact norm g4 S4 w4 a4 hs4 k4 (R4.aE (w0':=w0) g4.lC rfl R4.below.jK) hres
  |ret=>
   obtain⟨⟨_,g4,fr4,S4,k4,R4,r4,_,hres⟩,hs4⟩:=hg;exact norm g4 S4 w4 a4 hs4 k4 (R4.aE (w0':=w0) g4.lC rfl R4.below.jK) hres
  |panic ch=>
   obtain⟨⟨_,g4,fr4,S4,k4,R4,r4,v,d',rfl,q1,q2⟩,hs4⟩:=hg;show LeavesInM (fz none) 0 P fn a4.tmps (Ends w0 g0 K) a4.defers (.panicking _) w4;rw[hs4.2.1,hd3];refine⟨by simp,.inr ⟨fun h=>by simp[fz,Fence.wide]at h,.func cl,bs.toArray,cl,bs.toArray,by rw[hd],hinv w4,fun _ _=>trivial,gj (hbr g4 S4 w4 v d' (R4.aE (w0':=w0) g4.lC rfl R4.below.jK) q1 q2) ?_⟩⟩;rintro e u' w' ⟨⟨r,rfl⟩,rfl,g5,T5,k5,R5,hres⟩;exact fin g5 T5 _ a4 hs4 (k4.trans k5) R5 hres
end
end Aml
namespace Go.Proofs.YtiihljlagmmljaaGreatDoor
open Aml
@[go_sem] theorem tyq.a1:tk Tryz.prog 1= .fn∧zD Tryz.prog 1= .v .nilFunc∧Tryz.prog.cellsOf 1=1∧(Tryz.prog.info? 1).isSome=true∧tk Tryz.prog 2= .int .i64∧zD Tryz.prog 2= .v (.int .i64 0)∧Tryz.prog.cellsOf 2=1∧(Tryz.prog.info? 2).isSome=true∧tk Tryz.prog 3= .int .i64∧zD Tryz.prog 3= .v (.int .i64 0)∧Tryz.prog.cellsOf 3=1∧(Tryz.prog.info? 3).isSome=true∧tk Tryz.prog 4= .one∧zD Tryz.prog 4= .v (.bool false)∧Tryz.prog.cellsOf 4=1∧(Tryz.prog.info? 4).isSome=true∧tk Tryz.prog 5= .int .u8∧zD Tryz.prog 5= .v (.int .u8 0)∧Tryz.prog.cellsOf 5=1∧(Tryz.prog.info? 5).isSome=true∧tk Tryz.prog 6= .int .u8∧Tryz.prog.cellsOf 6=1∧tk Tryz.prog 7= .st [(0,1,false),(1,1,false),(2,1,false),(3,1,false)] 4∧wg Tryz.prog 7=some [.int .i64,.int .i64,.bool,.int .u8]:=by and_intros<;>kernel_rfl
@[go_sem] theorem tyq.a2:Tryz.prog.cellsOf 7=4∧tk Tryz.prog 8= .st [(0,1,false),(1,1,false),(2,1,false),(3,1,false)] 4∧wg Tryz.prog 8=some [.int .i64,.int .i64,.bool,.int .u8]∧Tryz.prog.cellsOf 8=4∧tk Tryz.prog 9= .str∧zD Tryz.prog 9= .v (.string ByteArray.empty)∧Tryz.prog.cellsOf 9=1∧(Tryz.prog.info? 9).isSome=true∧tk Tryz.prog 10= .str∧zD Tryz.prog 12= .v (.int .u64 0)∧zD Tryz.prog 20= .v .nilIface∧Tryz.prog.cellsOf 20=1∧(Tryz.prog.info? 20).isSome=true∧zD Tryz.prog 21= .v (.int .i32 0)∧Tryz.prog.cellsOf 21=1∧(Tryz.prog.info? 21).isSome=true∧zD Tryz.prog 22= .v .nilFunc∧tk Tryz.prog 23= .sl 9 1 16 true∧dh Tryz.prog 23=9∧Tryz.prog.cellsOf 23=1∧(Tryz.prog.info? 23).isSome=true∧tk Tryz.prog 24= .sl 40 1 8 true∧dh Tryz.prog 24=40∧Tryz.prog.cellsOf 24=1:=by and_intros<;>kernel_rfl
@[go_sem] theorem tyq.a3:(Tryz.prog.info? 24).isSome=true∧tk Tryz.prog 25= .sl 3 1 8 true∧dh Tryz.prog 25=3∧zD Tryz.prog 25= .sl 0 true []∧Tryz.prog.cellsOf 25=1∧(Tryz.prog.info? 25).isSome=true∧tk Tryz.prog 26= .sl 49 3 24 true∧dh Tryz.prog 26=49∧Tryz.prog.cellsOf 26=1∧(Tryz.prog.info? 26).isSome=true∧tk Tryz.prog 28= .st [(0,1,false),(1,1,false),(2,1,false),(3,1,false)] 4∧zD Tryz.prog 28= .agg [.sl 0 true [],.sl 0 true [],.sl 0 true [],.sl 0 true []]∧Tryz.prog.cellsOf 28=4∧(Tryz.prog.info? 28).isSome=true∧zD Tryz.prog 31= .v .nilFunc∧(Tryz.prog.info? 32).isSome=true∧zD Tryz.prog 37= .v .nilFunc∧Tryz.prog.cellsOf 37=1∧(Tryz.prog.info? 37).isSome=true∧tk Tryz.prog 38= .sl 5 1 1 true∧dh Tryz.prog 38=5∧zD Tryz.prog 39= .v .nilFunc∧tk Tryz.prog 40= .int .u64∧zD Tryz.prog 40= .v (.int .u64 0):=by and_intros<;>kernel_rfl
@[go_sem] theorem tyq.a4:Tryz.prog.cellsOf 40=1∧(Tryz.prog.info? 40).isSome=true∧tk Tryz.prog 41= .ptr 43∧tk Tryz.prog 43= .st [(0,4,true)] 4∧zD Tryz.prog 43= .agg [.sl 0 true [],.sl 0 true [],.sl 0 true [],.sl 0 true []]∧zD Tryz.prog 45= .v .nilFunc∧zD Tryz.prog 46= .v .nilFunc∧Tryz.prog.cellsOf 46=1∧(Tryz.prog.info? 46).isSome=true∧tk Tryz.prog 49= .st [(0,1,false),(1,1,false),(2,1,false)] 3∧wg Tryz.prog 49=some [.int .i64,.int .i64,.int .i64]∧zD Tryz.prog 49= .agg [.v (.int .i64 0),.v (.int .i64 0),.v (.int .i64 0)]∧Tryz.prog.cellsOf 49=3∧(Tryz.prog.info? 49).isSome=true∧zD Tryz.prog 50= .v .nilFunc∧zD Tryz.prog 51= .v .nilFunc∧Tryz.prog.cellsOf 51=1∧(Tryz.prog.info? 51).isSome=true∧zD Tryz.prog 53= .v (.pointer none)∧Tryz.prog.cellsOf 53=1∧(Tryz.prog.info? 53).isSome=true∧tk Tryz.prog 55= .st [(0,4,true)] 4∧zD Tryz.prog 55= .agg [.sl 0 true [],.sl 0 true [],.sl 0 true [],.sl 0 true []]∧tk Tryz.prog 56= .sl 97 2 24 true:=by and_intros<;>kernel_rfl
@[go_sem] theorem tyq.a5:dh Tryz.prog 56=97∧(Tryz.prog.info? 64).isSome=true∧zD Tryz.prog 66= .v .nilFunc∧zD Tryz.prog 70= .agg [.v (.pointer none),.sl 0 true []]∧zD Tryz.prog 72= .v .nilIface∧zD Tryz.prog 75= .v .nilFunc∧Tryz.prog.cellsOf 75=1∧(Tryz.prog.info? 75).isSome=true∧zD Tryz.prog 76= .v .nilFunc∧Tryz.prog.cellsOf 76=1∧(Tryz.prog.info? 76).isSome=true∧zD Tryz.prog 77= .v .nilFunc∧zD Tryz.prog 80= .v .nilFunc∧Tryz.prog.cellsOf 80=1∧(Tryz.prog.info? 80).isSome=true∧tk Tryz.prog 83= .int .i64∧tk Tryz.prog 84= .sl 116 2 24 true∧dh Tryz.prog 84=116∧zD Tryz.prog 84= .sl 0 true []∧Tryz.prog.cellsOf 84=1∧(Tryz.prog.info? 84).isSome=true∧tk Tryz.prog 88= .ptr 90∧tk Tryz.prog 90= .st [(0,1,false),(1,1,false)] 2∧zD Tryz.prog 90= .agg [.sl 0 true [],.v (.int .i64 0)]:=by and_intros<;>kernel_rfl
@[go_sem] theorem tyq.a6:tk Tryz.prog 97= .st [(0,1,false),(1,1,false)] 2∧zD Tryz.prog 97= .agg [.v (.string ByteArray.empty),.v (.int .i64 0)]∧zD Tryz.prog 105= .v .nilFunc∧tk Tryz.prog 116= .st [(0,1,false),(1,1,false)] 2∧zD Tryz.prog 116= .agg [.v (.string ByteArray.empty),.v (.int .i64 0)]∧Tryz.prog.cellsOf 116=2∧(Tryz.prog.info? 116).isSome=true∧zD Tryz.prog 117= .v .nilFunc∧zD Tryz.prog 119= .v .nilFunc∧zD Tryz.prog 124= .v .nilFunc∧zD Tryz.prog 127= .v .nilFunc∧Tryz.prog.cellsOf 127=1∧(Tryz.prog.info? 127).isSome=true∧tk Tryz.prog 135= .fn∧zD Tryz.prog 138= .v .nilFunc∧zD Tryz.prog 143= .v (.int .u64 0)∧Tryz.prog.cellsOf 143=1∧(Tryz.prog.info? 143).isSome=true∧zD Tryz.prog 145= .v .nilFunc∧Tryz.prog.cellsOf 145=1∧(Tryz.prog.info? 145).isSome=true∧zD Tryz.prog 146= .v .nilFunc∧tk Tryz.prog 154= .ar 64 5 1 false 64∧zD Tryz.prog 164= .v (.pointer none):=by and_intros<;>kernel_rfl
@[go_sem] theorem tyq.a7:zD Tryz.prog 167= .v .nilFunc∧Tryz.prog.cellsOf 167=1∧(Tryz.prog.info? 167).isSome=true∧zD Tryz.prog 168= .agg [.v (.int .u64 0),.v (.int .u64 0),.v (.int .u64 0),.v (.int .u64 0),.v (.int .u64 0),.v (.int .u64 0),.v (.int .u64 0),.v (.int .u64 0),.v (.int .u64 0),.v (.int .u64 0),.v (.int .u64 0),.v (.int .u64 0),.v (.int .u64 0),.v (.int .u64 0),.v (.int .u64 0),.v (.int .u64 0),.v (.int .u64 0),.v (.int .u64 0),.v (.int .u64 0),.v (.int .u64 0)]∧Tryz.prog.cellsOf 168=20∧(Tryz.prog.info? 168).isSome=true∧zD Tryz.prog 171= .v .nilFunc∧Tryz.prog.cellsOf 171=1∧(Tryz.prog.info? 171).isSome=true∧zD Tryz.prog 173= .v .nilFunc∧Tryz.prog.cellsOf 173=1∧(Tryz.prog.info? 173).isSome=true∧okF Tryz.prog 1=false∧okF Tryz.prog 2=true∧okF Tryz.prog 3=true∧okF Tryz.prog 4=true∧okF Tryz.prog 5=true∧okF Tryz.prog 6=true∧okF Tryz.prog 7=true∧okF Tryz.prog 8=true∧okF Tryz.prog 9=true∧okF Tryz.prog 10=true∧okF Tryz.prog 11=true∧okF Tryz.prog 12=true:=by and_intros<;>kernel_rfl
@[go_sem] theorem tyq.a8:okF Tryz.prog 13=true∧okF Tryz.prog 14=true∧okF Tryz.prog 15=true∧okF Tryz.prog 16=true∧okF Tryz.prog 17=true∧okF Tryz.prog 18=true∧okF Tryz.prog 19=true∧okF Tryz.prog 20=true∧okF Tryz.prog 21=true∧okF Tryz.prog 22=true∧okF Tryz.prog 23=true∧okF Tryz.prog 24=true∧okF Tryz.prog 25=true∧okF Tryz.prog 26=true∧okF Tryz.prog 27=true∧okF Tryz.prog 28=true∧okF Tryz.prog 29=true∧okF Tryz.prog 30=true∧okF Tryz.prog 31=true∧okF Tryz.prog 32=true∧okF Tryz.prog 33=true∧okF Tryz.prog 34=true∧okF Tryz.prog 35=true∧okF Tryz.prog 36=true:=by and_intros<;>kernel_rfl
@[go_sem] theorem tyq.a9:okF Tryz.prog 37=true∧okF Tryz.prog 38=true∧okF Tryz.prog 39=true∧okF Tryz.prog 40=true∧okF Tryz.prog 41=true∧okF Tryz.prog 42=true∧okF Tryz.prog 43=true∧okF Tryz.prog 44=true∧okF Tryz.prog 45=true∧okF Tryz.prog 46=true∧okF Tryz.prog 47=true∧okF Tryz.prog 48=true∧okF Tryz.prog 49=true∧okF Tryz.prog 50=true∧okF Tryz.prog 53=true∧okF Tryz.prog 54=true∧okF Tryz.prog 55=true∧okF Tryz.prog 56=true∧okF Tryz.prog 57=true∧okF Tryz.prog 58=true∧okF Tryz.prog 59=true∧okF Tryz.prog 60=true∧okF Tryz.prog 61=true∧okF Tryz.prog 62=true:=by and_intros<;>kernel_rfl
@[go_sem] theorem tyq.a10:okF Tryz.prog 63=true∧okF Tryz.prog 65=true∧okF Tryz.prog 66=true∧okF Tryz.prog 67=true∧okF Tryz.prog 68=true∧okF Tryz.prog 69=true∧okF Tryz.prog 70=true∧okF Tryz.prog 71=true∧okF Tryz.prog 72=true∧okF Tryz.prog 73=true∧okF Tryz.prog 74=true∧okF Tryz.prog 78=true∧okF Tryz.prog 82=true∧okF Tryz.prog 83=true∧okF Tryz.prog 84=true∧okF Tryz.prog 87=true∧okF Tryz.prog 88=true∧okF Tryz.prog 90=true∧okF Tryz.prog 91=true∧okF Tryz.prog 92=true∧okF Tryz.prog 93=true∧okF Tryz.prog 94=true∧okF Tryz.prog 95=true∧okF Tryz.prog 96=true:=by and_intros<;>kernel_rfl
@[go_sem] theorem tyq.a11:okF Tryz.prog 97=true∧okF Tryz.prog 98=true∧okF Tryz.prog 101=true∧okF Tryz.prog 102=true∧okF Tryz.prog 103=true∧okF Tryz.prog 104=true∧okF Tryz.prog 105=true∧okF Tryz.prog 107=true∧okF Tryz.prog 109=true∧okF Tryz.prog 110=true∧okF Tryz.prog 114=true∧okF Tryz.prog 115=true∧okF Tryz.prog 119=true∧okF Tryz.prog 120=true∧okF Tryz.prog 121=true∧okF Tryz.prog 123=true∧okF Tryz.prog 126=true∧okF Tryz.prog 127=true∧okF Tryz.prog 128=true∧okF Tryz.prog 129=true∧okF Tryz.prog 137=false∧okF Tryz.prog 138=true∧okF Tryz.prog 143=true∧okF Tryz.prog 146=true:=by and_intros<;>kernel_rfl
@[go_sem] theorem tyq.a12:okF Tryz.prog 149=true∧okF Tryz.prog 151=true∧okF Tryz.prog 152=true∧okF Tryz.prog 156=true∧okF Tryz.prog 160=true∧okF Tryz.prog 165=true∧okF Tryz.prog 166=true∧okF Tryz.prog 169=true∧okF Tryz.prog 171=true∧okF Tryz.prog 172=true∧okF Tryz.prog 195=false∧okF Tryz.prog 196=false∧okF Tryz.prog 197=false:=by and_intros<;>kernel_rfl
theorem mx:Tryz.prog.follows .mixedOrders=true:=by kernel_rfl
end Go.Proofs.YtiihljlagmmljaaGreatDoor
namespace Lat
def bt(o:List Nat)(a b:Nat):Bool:=(o.getD a 0).testBit b
def aC(up:List Nat)(a:Nat):Nat:=up.getD a 0%2^up.length
def bf(up:List Nat):List Nat:=(List.range up.length).map fun a=>aC up a ||| 2^a
def kJ(c:Nat)(o:List Nat)(a:Nat):List Nat:=if bt o a c then o.set a (o.getD a 0 ||| o.getD c 0)else o
def dJ(c:Nat)(o:List Nat)(k:Nat):List Nat:=(List.range k).foldl (kJ c) o
def bE(up:List Nat)(k:Nat):List Nat:=(List.range k).foldl (fun o c=>dJ c o up.length) (bf up)
def aV(up:List Nat):List Nat:=bE up up.length
theorem ah(up:List Nat):(bf up).length=up.length:=by simp[bf]
theorem fq{f:Nat→Nat}{n a:Nat}(h:a<n):((List.range n).map f).getD a 0=f a:=by
 rw[Rl,Rt,R9 h];rfl
theorem dn{up:List Nat}{a b:Nat}(h:a<up.length):bt (bf up) a b=((decide (b<up.length)&&bt up a b)||decide (a=b)):=by
 unfold bt bf;rw[fq h,Nat.testBit_or,aC,Nat.testBit_mod_two_pow,TG]
theorem Bg(c:Nat)(o:List Nat)(a:Nat):(kJ c o a).length=o.length:=by
 unfold kJ;split <;>simp
theorem FM{c:Nat}{o:List Nat}{a x b:Nat}(h:a<o.length):bt (kJ c o a) x b=(if x=a then bt o a b||(bt o a c&&bt o c b)else bt o x b):=by
 unfold kJ;split
 ·rename_i hc;by_cases e:x=a
  ·subst e;rw[if_pos rfl,hc,Tk];unfold bt;rw[Rl,List.getElem?_set_self h];simp[Nat.testBit_or]
  ·rw[if_neg e];unfold bt;rw[Rl,List.getElem?_set_ne (fun q=>e q.symm),←Rl]
 ·rename_i hc;have hc:bt o a c=false:=by simpa using hc
  by_cases e:x=a
  ·subst e;rw[if_pos rfl,hc,Bool.false_and,Bool.or_false]
  ·rw[if_neg e]
theorem uz(c:Nat)(o:List Nat):dJ c o 0=o:=rfl
theorem fT(c:Nat)(o:List Nat)(k:Nat):dJ c o (k+1)=kJ c (dJ c o k) k:=by
 unfold dJ;rw[Tv,Tj];rfl
theorem jX(c:Nat)(o:List Nat)(k:Nat):(dJ c o k).length=o.length:=by
 induction k with
 |zero=>rfl
 |succ k ih=>rw[fT,Bg,ih]
theorem qQ{c:Nat}{o:List Nat}:∀{k:Nat},k≤o.length→∀x b,bt (dJ c o k) x b=(if x<k then bt o x b||(bt o x c&&bt o c b)else bt o x b)
 |0,_,x,b=>by rw[uz,if_neg (by omega)]
 |k+1,hk,x,b=>by
  have ih:=fun x b=>qQ (c:=c) (o:=o) (k:=k) (by omega) x b;rw[fT,FM (by rw[jX];omega)]
  have hc:∀b,bt (dJ c o k) c b=bt o c b:=fun b=>by
   rw[ih];split
   ·cases bt o c b <;>simp
   ·rfl
  by_cases e:x=k
  ·subst e;rw[if_pos rfl,if_pos (by omega),ih,if_neg (by omega),ih,if_neg (by omega),hc]
  ·rw[if_neg e,ih];by_cases h:x<k
   ·rw[if_pos h,if_pos (by omega)]
   ·rw[if_neg h,if_neg (by omega)]
theorem mG(up:List Nat):bE up 0=bf up:=rfl
theorem gi(up:List Nat)(k:Nat):bE up (k+1)=dJ k (bE up k) up.length:=by
 unfold bE;rw[Tv,Tj];rfl
theorem dp(up:List Nat)(k:Nat):(bE up k).length=up.length:=by
 induction k with
 |zero=>exact ah up
 |succ k ih=>rw[gi,jX,ih]
theorem gM{up:List Nat}{k x b:Nat}(hx:x<up.length):bt (bE up (k+1)) x b=(bt (bE up k) x b||(bt (bE up k) x k&&bt (bE up k) k b)):=by
 rw[gi,qQ (by rw[dp];exact Ro _),if_pos hx]
theorem jh{o:List Nat}{a b:Nat}(h:o.length≤a):bt o a b=false:=by
 unfold bt;rw[Rl,Ry h];simp
theorem ef{o:List Nat}{a b:Nat}(h:bt o a b=true):a<o.length:=by
 rcases Sj a o.length with h'|h'
 ·exact h'
 ·rw[jh h']at h;cases h
theorem lI{up:List Nat}:∀{k:Nat},k≤up.length→∀x b,bt (bE up k) x b=true→b<up.length
 |0,_,x,b,h=>by
  have hx:=ef h;rw[mG,ah]at hx;rw[mG,dn hx]at h;simp at h;rcases h with h|h
  ·exact h.1
  ·omega
 |k+1,hk,x,b,h=>by
  have hx:=ef h;rw[dp]at hx;rw[gM hx,SF,Rm]at h;rcases h with h|h
  ·exact lI (by omega) _ _ h
  ·exact lI (by omega) _ _ h.2
theorem oC{up:List Nat}:∀{k:Nat},k≤up.length→∀x b,bt (bf up) x b=true→bt (bE up k) x b=true
 |0,_,x,b,h=>h
 |k+1,hk,x,b,h=>by
  have hx:=ef h;rw[ah]at hx;rw[gM hx,oC (by omega) _ _ h];rfl
theorem kS{up:List Nat}:∀{k:Nat},k≤up.length→∀x c b,c<k→bt (bE up k) x c=true→bt (bE up k) c b=true→bt (bE up k) x b=true
 |0,_,x,c,b,h,_,_=>by omega
 |k+1,hk,x,c,b,hc,h1,h2=>by
  have hx:x<up.length:=by have:=ef h1;rwa [dp]at this
  have hc':c<up.length:=by omega
  have T:=fun x c b=>kS (up:=up) (k:=k) (by omega) x c b;rw[gM hx]at h1 ⊢;rw[gM hc']at h2;simp only[SF,Rm]at h1 h2 ⊢;by_cases e:c=k
  ·subst e;refine .inr ⟨?_,?_⟩
   ·rcases h1 with h|h
    ·exact h
    ·exact h.1
   ·rcases h2 with h|h
    ·exact h
    ·exact h.2
  ·have hlt:c<k:=by omega
   rcases h1 with h1|h1 <;>rcases h2 with h2|h2
   ·exact .inl (T _ _ _ hlt h1 h2)
   ·exact .inr ⟨T _ _ _ hlt h1 h2.1,h2.2⟩
   ·exact .inr ⟨h1.1,T _ _ _ hlt h1.2 h2⟩
   ·exact .inr ⟨h1.1,h2.2⟩
theorem eW{up:List Nat}{R:Nat→Nat→Prop}(h0:∀a b,bt (bf up) a b=true→R a b)(ht:∀a b c,R a b→R b c→R a c):∀{k:Nat},k≤up.length→∀x b,bt (bE up k) x b=true→R x b
 |0,_,x,b,h=>h0 x b h
 |k+1,hk,x,b,h=>by
  have hx:x<up.length:=by have:=ef h;rwa [dp]at this
  rw[gM hx,SF,Rm]at h;rcases h with h|h
  ·exact eW h0 ht (by omega) _ _ h
  ·exact ht _ _ _ (eW h0 ht (by omega) _ _ h.1) (eW h0 ht (by omega) _ _ h.2)
theorem jq(up:List Nat):(aV up).length=up.length:=dp up _
theorem tm{up:List Nat}{x b:Nat}(h:bt (aV up) x b=true):b<up.length:=lI (Ro _) _ _ h
theorem sI{up:List Nat}{x b:Nat}(h:bt (bf up) x b=true):bt (aV up) x b=true:=oC (Ro _) _ _ h
theorem re{up:List Nat}{x c b:Nat}(h1:bt (aV up) x c=true)(h2:bt (aV up) c b=true):bt (aV up) x b=true:=kS (Ro _) _ _ _ (tm h1) h1 h2
theorem qP{up:List Nat}{R:Nat→Nat→Prop}(h0:∀a b,bt (bf up) a b=true→R a b)(ht:∀a b c,R a b→R b c→R a c){x b:Nat}(h:bt (aV up) x b=true):R x b:=eW h0 ht (Ro _) _ _ h
theorem fu{o p:List Nat}(hl:o.length=p.length)(h:∀a b,bt o a b=bt p a b):o=p:=by
 refine Sh fun a=>?_;by_cases ha:a<o.length
 ·rw[so ha,so (hl▸ha)];congr 1;refine TA fun b=>?_;have:=h a b;unfold bt at this
  rwa [Rl,so ha,Rl,so (hl▸ha)]at this
 ·rw[Ry (by omega),Ry (by omega)]
structure Cl(up:List Nat):Prop where
 lt:∀a b,bt up a b=true→b<up.length
 refl:∀a,a<up.length→bt up a a=true
 trans:∀a b c,bt up a b=true→bt up b c=true→bt up a c=true
theorem Ll(up:List Nat):Cl (aV up):=
 ⟨fun a b h=>by rw[jq];exact tm h,fun a h=>sI (by rw[jq]at h;rw[dn h];simp),fun a b c=>re⟩
theorem oy{up:List Nat}(h:Cl up):bf up=up:=by
 refine fu (ah up) fun a b=>?_;rcases Sj a up.length with ha|ha
 ·rw[dn ha]
  cases e:bt up a b with
  |true=>simp[h.lt a b e]
  |false=>
   have:¬a=b:=by rintro rfl;rw[h.refl a ha]at e;cases e
   simp[this]
 ·rw[jh (by rw[ah];exact ha),jh ha]
theorem mj{up:List Nat}(h:Cl up):aV up=up:=by
 refine fu (jq up) fun a b=>?_
 cases e:bt up a b with
 |true=>exact sI (by rw[oy h];exact e)
 |false=>
  cases e2:bt (aV up) a b with
  |false=>rfl
  |true=>
   have:=qP (R:=fun a b=>bt up a b=true) (fun a b q=>by rw[oy h]at q;exact q) (fun a b c=>h.trans a b c) e2;rw[this]at e;cases e
theorem pM{up:List Nat}:aV up=up↔Cl up:=⟨fun h=>h▸Ll up,mj⟩
theorem yk{up o:List Nat}(hl:o.length=up.length)(h0:∀a b,bt (bf up) a b=true→bt o a b=true)(h1:∀a b,bt o a b=true→bt (aV up) a b=true)(ht:∀a b c,bt o a b=true→bt o b c=true→bt o a c=true):o=aV up:=by
 refine fu (by rw[jq,hl]) fun a b=>?_
 cases e:bt (aV up) a b with
 |true=>exact qP (R:=fun a b=>bt o a b=true) h0 ht e
 |false=>
  cases e2:bt o a b with
  |false=>rfl
  |true=>rw[h1 a b e2]at e;cases e
theorem yp{up:List Nat}{a:Nat}(x:Nat)(h:(aV up)[a]? =some x):x<2^up.length:=by
 refine Nat.lt_pow_two_of_testBit _ fun i hi=>?_
 cases e:x.testBit i with
 |false=>rfl
 |true=>
  have:bt (aV up) a i=true:=by unfold bt;rw[Rl,h];exact e
  have:=tm this;omega
def cY(up:List Nat)(a b:Nat):Bool:=decide (up.length≤64)&&decide (a<up.length)&&decide (b<up.length)&&bt up a b
def BO(up:List Nat)(a b:Int):Bool:=decide (0≤a)&&decide (0≤b)&&cY up a.toNat b.toNat
theorem ck{up:List Nat}{a b:Nat}:cY up a b=true↔up.length≤64∧a<up.length∧b<up.length∧bt up a b=true:=by
 unfold cY;simp[and_assoc]
def eO(up:List Nat)(a k:Nat):Nat:=(List.range k).foldl (fun x i=>if cY up i a then x ||| 2^i else x) 0
def bY(up:List Nat)(a:Nat):Nat:=eO up a up.length
theorem kc(up:List Nat)(a k:Nat):eO up a (k+1)=if cY up k a then eO up a k ||| 2^k else eO up a k:=by
 unfold eO;rw[Tv,Tj];rfl
theorem gI(up:List Nat)(a:Nat):∀k i,(eO up a k).testBit i=(decide (i<k)&&cY up i a)
 |0,i=>by simp[eO]
 |k+1,i=>by
  rw[kc];split
  ·rename_i h;rw[Nat.testBit_or,gI up a k,TG];by_cases e:k=i
   ·subst e;simp[h]
   ·have:(i<k+1)=(i<k):=by simp;omega
    simp[this,e]
  ·rename_i h;rw[gI up a k];by_cases e:k=i
   ·subst e;simp[h]
   ·have:(i<k+1)=(i<k):=by simp;omega
    simp[this]
theorem F1(up:List Nat)(a k:Nat):eO up a k<2^k:=Nat.lt_pow_two_of_testBit _ fun i hi=>by rw[gI];simp;omega
theorem mb(up:List Nat)(a i:Nat):(bY up a).testBit i=cY up i a:=by
 unfold bY;rw[gI]
 cases e:cY up i a with
 |false=>simp
 |true=>simp[(ck.1 e).2.1]
theorem po{x k:Nat}(h:x.testBit k=false):x ||| 2^k=x+2^k:=by
 refine TA fun i=>?_
 have hm:x/2^k%2=0:=by
  rw[SM]at h;have:=of_decide_eq_false h;omega
 have hx:x=2^(k+1)*(x/2^(k+1))+x%2^k:=by
  have h1:=Nat.div_add_mod x (2^k);have h2:=Nat.div_add_mod (x/2^k) 2;rw[Nat.div_div_eq_div_mul,←SK]at h2;rw[hm]at h2
  have:2^k*(x/2^k)=2^(k+1)*(x/2^(k+1)):=by
   rw[←h2,SK,Nat.mul_assoc];simp
  omega
 have hlt:x%2^k<2^k:=Nat.mod_lt _ (SG k);have hp:2^(k+1)=2*2^k:=by rw[SK];omega
 have hlt2:x%2^k+2^k<2^(k+1):=by omega
 rw[Nat.testBit_or,TG];rcases Ti i k with hi|hi|hi
 ·rw[Te,Nat.testBit_two_pow_add_gt hi];have:¬k=i:=by omega
  simp[this]
 ·subst hi;rw[Te,Nat.testBit_two_pow_add_eq,h];simp
 ·have hne:¬k=i:=by omega
  conv=>rhs;rw[hx,Sy,Nat.testBit_two_pow_mul_add _ hlt2]
  conv=>lhs;rw[hx,Nat.testBit_two_pow_mul_add _ (by omega:x%2^k<2^(k+1))]
  rw[if_neg (by omega),if_neg (by omega)];simp[hne]
theorem Ar(up:List Nat)(a k:Nat):eO up a (k+1)=if cY up k a then eO up a k+2^k else eO up a k:=by
 rw[kc];split
 ·rw[po (by rw[gI];simp)]
 ·rfl
def ay(x:Nat):List Nat:=(List.range 64).filter fun i=>x.testBit i
theorem gE{x i:Nat}:i∈ay x↔i<64∧x.testBit i=true:=by simp[ay]
def EL(le:Nat→Nat→Bool)(n a b c:Nat):Prop:=c<n∧le a c=true∧le b c=true∧∀d,d<n→le a d=true→le b d=true→le c d=true
def jM(le:Nat→Nat→Bool)(n:Nat)(a b:Nat):Prop:=∃c,EL le n a b c
structure qi(up:List Nat):Prop where
 pos:1≤up.length
 le:up.length≤64
 cl:Cl up
 Ej:∀a b,bt up a b=true→bt up b a=true→a=b
 join:∀a b,b<a→a<up.length→jM (cY up) up.length a b
 meet:∀a b,b<a→a<up.length→jM (fun x y=>cY up y x) up.length a b
end Lat
namespace Lat
def KW(le:Nat→Nat→Bool)(n a b c:Nat):Prop:=EL le n a b c∧∀d,d<c→¬EL le n a b d
open Classical in
noncomputable def jF(le:Nat→Nat→Bool)(n a b:Nat):Int:=if h:∃c,KW le n a b c then(Classical.choose h:Nat)else -1
theorem zE{le:Nat→Nat→Bool}{n a b c:Nat}(h0:∀d,d<c→¬EL le n a b d)(h:EL le n a b c):jF le n a b=(c:Int):=by
 unfold jF;have hx:∃c,KW le n a b c:=⟨c,h,h0⟩;rw[dif_pos hx];have h2:=Classical.choose_spec hx
 have:Classical.choose hx=c:=by
  rcases Ti (Classical.choose hx) c with q|q|q
  ·exact absurd h2.1 (h0 _ q)
  ·exact q
  ·exact absurd h (h2.2 _ q)
 rw[this]
theorem yH{le:Nat→Nat→Bool}{n a b:Nat}(h:∀d,¬EL le n a b d):jF le n a b= -1:=by
 unfold jF;rw[dif_neg];rintro⟨c,hc,_⟩;exact h c hc
theorem rT{le:Nat→Nat→Bool}{n a b:Nat}:jF le n a b<0↔¬jM le n a b:=by
 constructor
 ·rintro hneg ⟨c,hc⟩
  have:∀m c,c≤m→EL le n a b c→∃c,KW le n a b c:=by
   intro m
   induction m with
   |zero=>intro c h1 h2;exact⟨c,h2,fun d hd=>by omega⟩
   |succ m ih=>
    intro c h1 h2;by_cases q:∃d,d<c∧EL le n a b d
    ·obtain⟨d,q1,q2⟩:=q;exact ih d (by omega) q2
    ·exact⟨c,h2,fun d hd h=>q ⟨d,hd,h⟩⟩
  obtain⟨c',h⟩:=this c c (Ro _) hc;rw[zE h.2 h.1]at hneg;omega
 ·intro h;rw[yH fun d hd=>h ⟨d,hd⟩];omega
theorem Bj{up:List Nat}(hl:up.length≤64)(x y:Nat):cY ((List.range up.length).map (bY up)) x y=cY up y x:=by
 have hlen:((List.range up.length).map (bY up)).length=up.length:=by simp
 by_cases hx:x<up.length
 ·have e:bt ((List.range up.length).map (bY up)) x y=cY up y x:=by
   unfold bt;rw[fq hx,mb]
  cases q:cY up y x with
  |true=>
   have:=ck.1 q;exact ck.2 ⟨by omega,by omega,by omega,by rw[e,q]⟩
  |false=>
   cases r:cY ((List.range up.length).map (bY up)) x y with
   |false=>rfl
   |true=>have:=(ck.1 r).2.2.2;rw[e,q]at this;cases this
 ·cases q:cY up y x with
  |true=>have:=ck.1 q;omega
  |false=>
   cases r:cY ((List.range up.length).map (bY up)) x y with
   |false=>rfl
   |true=>have:=ck.1 r;omega
end Lat
namespace Lat
structure Jo(up o:List Nat):Prop where
 len:o.length=up.length
 lt:∀x,x∈o→x<2^up.length
 sub:∀a b,bt (bf up) a b=true→bt o a b=true
 inc:∀a b,bt o a b=true→bt (aV up) a b=true
theorem gG{o:List Nat}{a b x:Nat}(h:o[a]? =some x):bt o a b=x.testBit b:=by
 unfold bt;rw[Rl,h];rfl
theorem nU{n x y:Nat}(hx:x<2^n)(hy:y<2^n):x ||| y<2^n:=Nat.or_lt_two_pow hx hy
theorem fQ{n k:Nat}(h:k<n):2^k<2^n:=Nat.pow_lt_pow_right (by omega) h
theorem nC{up:List Nat}:∀x,x∈bf up→x<2^up.length:=by
 intro x hx;obtain⟨a,ha,rfl⟩:=RI.1 hx;have:=Si.1 ha;exact nU (Nat.mod_lt _ (SG _)) (fQ this)
theorem oH{o:List Nat}{a:Nat}:o.getD a 0∈o∨o.getD a 0=0:=by
 rw[Rl]
 cases h:o[a]? with
 |none=>exact .inr rfl
 |some x=>exact .inl (Rj h)
theorem DE{n c:Nat}{o:List Nat}{a:Nat}(h:∀x,x∈o→x<2^n):∀x,x∈kJ c o a→x<2^n:=by
 unfold kJ;split
 ·intro x hx
  have hg:∀i,o.getD i 0<2^n:=fun i=>by
   rcases oH (o:=o) (a:=i)with q|q
   ·exact h _ q
   ·rw[q];exact SG _
  rcases SO hx with q|q
  ·exact h x q
  ·rw[q];exact nU (hg _) (hg _)
 ·exact h
theorem rj{n c:Nat}{o:List Nat}(h:∀x,x∈o→x<2^n)(k:Nat):∀x,x∈dJ c o k→x<2^n:=by
 induction k with
 |zero=>exact h
 |succ k ih=>rw[fT];exact DE ih
theorem xJ{up:List Nat}(k:Nat):∀x,x∈bE up k→x<2^up.length:=by
 induction k with
 |zero=>exact nC
 |succ k ih=>rw[gi];exact rj ih _
theorem HQ(up:List Nat):Jo up (bf up):=⟨ah up,nC,fun _ _ h=>h,fun _ _ h=>sI h⟩
theorem pP{o:List Nat}{a c x i j:Nat}(hx:o[a]? =some x):bt (o.set a (x ||| 2^c)) i j=(if i=a then bt o i j||decide (c=j)else bt o i j):=by
 have ha:a<o.length:=(Rp.1 hx).1;by_cases e:i=a
 ·subst e;rw[if_pos rfl,gG (List.getElem?_set_self ha),gG hx,Nat.testBit_or,TG]
 ·rw[if_neg e];unfold bt;rw[Rl,List.getElem?_set_ne (fun q=>e q.symm),←Rl]
theorem Ig{up o:List Nat}(h:Jo up o){a b c x:Nat}(hx:o[a]? =some x)(hc:c<up.length)(h1:bt o a b=true)(h2:bt o b c=true):Jo up (o.set a (x ||| 2^c)):=by
 refine⟨by rw[SZ];exact h.len,fun y hy=>?_,fun i j hij=>?_,fun i j hij=>?_⟩
 ·rcases SO hy with q|q
  ·exact h.lt y q
  ·rw[q];exact nU (h.lt _ (Rj hx)) (fQ hc)
 ·rw[pP hx,h.sub i j hij];split <;>rfl
 ·rw[pP hx]at hij;split at hij
  ·rename_i e;subst e;rw[SF,decide_eq_true_eq]at hij;rcases hij with q|q
   ·exact h.inc _ _ q
   ·subst q;exact re (h.inc _ _ h1) (h.inc _ _ h2)
  ·exact h.inc _ _ hij
theorem H7{up o:List Nat}(h:Jo up o)(ht:∀a b c,a<up.length→b<up.length→c<up.length→bt o a b=true→bt o b c=true→bt o a c=true):o=aV up:=by
 have hb:∀a b,bt o a b=true→a<up.length∧b<up.length:=fun a b q=>⟨by rw[←h.len];exact ef q,tm (h.inc _ _ q)⟩;exact yk h.len h.sub h.inc fun a b c h1 h2=>ht a b c (hb _ _ h1).1 (hb _ _ h1).2 (hb _ _ h2).2 h1 h2
theorem zS:∀{o:List Nat} {a x y:Nat},o[a]? =some x→(o.set a y).sum+x=o.sum+y
 |[],a,x,y,h=>by simp at h
 |z::o,0,x,y,h=>by
  simp at h;subst h;simp only[List.set_cons_zero,Tl];omega
 |z::o,a+1,x,y,h=>by
  simp only[SE]at h;have:=zS (y:=y) h;simp only[List.set_cons_succ,Tl];omega
theorem Ge{n:Nat}:∀{o:List Nat},(∀x,x∈o→x<2^n)→o.sum≤o.length*2^n
 |[],_=>by simp
 |x::o,h=>by
  have h1:=h x Rx;have h2:=Ge fun y hy=>h y (Rr _ hy);rw[Tl,Ru,Sr];omega
def zg(n:Nat)(o:List Nat):Nat:=n*2^n-o.sum
theorem D2{up o:List Nat}(h:Jo up o){a c x:Nat}(hx:o[a]? =some x)(hc:c<up.length)(hn:bt o a c=false)(h':Jo up (o.set a (x ||| 2^c))):zg up.length (o.set a (x ||| 2^c))<zg up.length o:=by
 have h1:=zS (y:=x ||| 2^c) hx;have h2:=Ge h'.lt;rw[h'.len]at h2;rw[gG hx]at hn;rw[po hn]at h1 h2 ⊢;have:=SG c;unfold zg;omega
def fL(up:List Nat)(a b:Nat):List Nat:=(List.range up.length).map fun i=>if i<a then(aC up i ||| 2^i)else if i=a then(aC up i ||| 2^i)%2^b else 0
theorem iP(up:List Nat)(a b:Nat):(fL up a b).length=up.length:=by simp[fL]
theorem AR(up:List Nat):fL up 0 0=List.replicate up.length 0:=by
 refine Sh fun i=>?_;unfold fL;by_cases h:i<up.length
 ·rw[Rt,R9 h,RW,if_pos h];simp only[R6,Nat.not_lt_zero,if_false,Nat.pow_zero,Nat.mod_one];split <;>rfl
 ·rw[Ry (by simp;omega),Ry (by simp;omega)]
theorem tr{up:List Nat}{a b:Nat}(h:a<up.length):(fL up a b)[a]? =some ((aC up a ||| 2^a)%2^b):=by
 unfold fL;rw[Rt,R9 h];simp
theorem Em{up:List Nat}{a:Nat}(h:a<up.length):fL up a up.length=fL up (a+1) 0:=by
 unfold fL;refine Tm fun i hi=>?_;have hi:=Si.1 hi;by_cases h1:i<a
 ·rw[if_pos h1,if_pos (by omega)]
 ·by_cases h2:i=a
  ·subst h2;rw[if_neg h1,if_pos rfl,if_pos (by omega)];exact SA (nU (Nat.mod_lt _ (SG _)) (fQ hi))
  ·rw[if_neg h1,if_neg h2,if_neg (by omega)];split
   ·rw[Nat.pow_zero,Nat.mod_one]
   ·rfl
theorem Bo(up:List Nat):fL up up.length 0=bf up:=by
 unfold fL bf;refine Tm fun i hi=>?_;rw[if_pos (Si.1 hi)]
theorem A6{up:List Nat}{a b:Nat}(h:a<up.length)(hb:b<up.length):fL up a (b+1)=(if a=b∨bt up a b=true then(fL up a b).set a ((aC up a ||| 2^a)%2^b+2^b)else fL up a b):=by
 have e:(aC up a ||| 2^a).testBit b=(bt up a b||decide (a=b)):=by
  have:=dn (up:=up) (b:=b) h;unfold bt bf at this;rw[fq h]at this;rw[this];simp[hb,bt]
 have e2:(aC up a ||| 2^a)%2^(b+1)=(aC up a ||| 2^a)%2^b+(if a=b∨bt up a b=true then 2^b else 0):=by
  have e0:(aC up a ||| 2^a)%2^(b+1)=(aC up a ||| 2^a)%2^b+2^b*((aC up a ||| 2^a)/2^b%2):=by rw[SK,Nat.mod_mul]
  rw[SM]at e;rw[e0];by_cases q:a=b∨bt up a b=true
  ·rw[if_pos q];have:(bt up a b||decide (a=b))=true:=by rcases q with q|q <;>simp[q]
   rw[this]at e;rw[of_decide_eq_true e,Tb]
  ·rw[if_neg q];have:(bt up a b||decide (a=b))=false:=by simp only[not_or,Bool.not_eq_true]at q;simp[q.1,q.2]
   rw[this]at e;have:=of_decide_eq_false e;rw[show(aC up a ||| 2^a)/2^b%2=0 by omega,Nat.mul_zero]
 refine Sh fun i=>?_;by_cases hi:i<up.length
 ·by_cases e3:i=a
  ·subst e3;rw[tr hi,e2];split
   ·rw[List.getElem?_set_self (by rw[iP];exact hi)]
   ·rw[tr hi,SS]
  ·have:(fL up a (b+1))[i]? =(fL up a b)[i]? :=by
    unfold fL;rw[Rt,R9 hi,Rt,R9 hi];simp only[R6,if_neg e3]
   rw[this];split
   ·rw[List.getElem?_set_ne (fun q=>e3 q.symm)]
   ·rfl
 ·rw[Ry (by rw[iP];omega)];split
  ·rw[Ry (by rw[SZ,iP];omega)]
  ·rw[Ry (by rw[iP];omega)]
end Lat
namespace Lat
structure uy(up:List Nat)(a b:Nat):Prop where
 lt:bt up a b=true→b<up.length
 refl:a=b→bt up a b=true
 Ej:bt up a b=true→a≠b→bt up b a=false
 trans:∀c,c<up.length→bt up a b=true→bt up b c=true→bt up a c=true
def oB(up:List Nat)(a b:Nat):Prop:=jM (cY up) up.length a b∧jM (fun x y=>cY up y x) up.length a b
theorem EF{up:List Nat}(hb:∀x,x∈up→x<2^64)(h1:1≤up.length)(h2:up.length≤64):qi up↔(∀a,a<up.length→∀b,b<64→uy up a b)∧∀a,a<up.length→∀b,b<a→oB up a b:=by
 have h64:∀a b,bt up a b=true→b<64:=by
  intro a b h;rcases Sj b 64 with q|q
  ·exact q
  ·exfalso
   have ha:=ef h;have e:up[a]? =some up[a]:=so ha;rw[gG e]at h;have hx:=hb _ (Rj e);have:=Nat.testBit_lt_two_pow (Sx hx (SV (by omega) q));rw[this]at h;cases h
 constructor
 ·intro h;refine⟨fun a ha b hb=>⟨h.cl.lt a b,fun e=>e▸h.cl.refl a ha,fun q hne=>?_,fun c hc=>h.cl.trans a b c⟩,fun a ha b hb=>⟨h.join a b hb ha,h.meet a b hb ha⟩⟩
  cases e:bt up b a with
  |false=>rfl
  |true=>exact absurd (h.Ej a b q e) hne
 ·rintro⟨h3,h4⟩;refine⟨h1,h2,⟨fun a b q=>(h3 a (ef q) b (h64 _ _ q)).lt q,fun a ha=>(h3 a ha a (by omega)).refl rfl,fun a b c q r=>?_⟩,fun a b q r=>?_,fun a b hb ha=>(h4 a ha b hb).1,fun a b hb ha=>(h4 a ha b hb).2⟩
  ·have hc:=(h3 b (ef r) c (h64 _ _ r)).lt r;exact(h3 a (ef q) b (h64 _ _ q)).trans c hc q r
  ·by_cases e:a=b
   ·exact e
   ·have:=(h3 a (ef q) b (h64 _ _ q)).Ej q e;rw[r]at this;cases this
end Lat
namespace Lat
def o4(x k:Nat):Prop:=x.testBit k=true∧∀i,i<k→x.testBit i=false
theorem KQ{x:Nat}(h0:x≠0)(hx:x<18446744073709551616):∃k,k<64∧o4 x k:=by
 have h1:∃k,x.testBit k=true:=by
  refine Classical.byContradiction fun h=>h0 (TA fun i=>?_);rw[Nat.zero_testBit]
  cases e:x.testBit i with
  |false=>rfl
  |true=>exact absurd ⟨i,e⟩ h
 obtain⟨k0,hk0⟩:=h1
 have:∀m k,k≤m→x.testBit k=true→∃k,o4 x k:=by
  intro m
  induction m with
  |zero=>intro k h1 h2;exact⟨k,h2,fun i hi=>by omega⟩
  |succ m ih=>
   intro k h1 h2;by_cases q:∃d,d<k∧x.testBit d=true
   ·obtain⟨d,q1,q2⟩:=q;exact ih d (by omega) q2
   ·refine⟨k,h2,fun i hi=>?_⟩
    cases e:x.testBit i with
    |false=>rfl
    |true=>exact absurd ⟨i,hi,e⟩ q
 obtain⟨k,hk⟩:=this k0 k0 (Ro _) hk0;refine⟨k,?_,hk⟩;refine Nat.lt_of_not_le fun h=>?_;have h2:(2:Nat)^64≤2^k:=SV (by decide) h;have:=Nat.testBit_lt_two_pow (x:=x) (i:=k) (by omega);have hk1:=hk.1;rw[this]at hk1;cases hk1
theorem DW{x k:Nat}(h:o4 x k):x=2^k*(2*(x/2^(k+1))+1):=by
 have h1:x%2^k=0:=by
  refine TA fun i=>?_;rw[Nat.testBit_mod_two_pow,Nat.zero_testBit];by_cases hi:i<k
  ·rw[h.2 i hi];simp
  ·simp[hi]
 have h2:x/2^k%2=1:=by
  have:=h.1;rw[SM]at this;exact of_decide_eq_true this
 have h3:=Nat.div_add_mod x (2^k);have h4:=Nat.div_add_mod (x/2^k) 2;rw[Nat.div_div_eq_div_mul,←SK,h2]at h4;rw[h4];omega
theorem xR{k m i:Nat}:(2^k*(2*m+1)).testBit i=(decide (k≤i)&&(if i=k then true else m.testBit (i-k-1))):=by
 rw[Nat.testBit_two_pow_mul];by_cases h:k≤i
 ·simp only[h,decide_true,Tk];by_cases e:i=k
  ·subst e;rw[Nat.sub_self,if_pos rfl,Nat.testBit_zero];simp
  ·rw[if_neg e];obtain⟨j,hj⟩:∃j,i-k=j+1:=⟨i-k-1,by omega⟩;rw[hj,Nat.testBit_succ,show(2*m+1)/2=m by omega];rfl
 ·simp[h]
theorem Cp{x k:Nat}(h:o4 x k):∀i,(x &&& (x-1)).testBit i=(x.testBit i&&decide (i≠k)):=by
 intro i;have e:=DW h;generalize x/2^(k+1)=m at e;have hp:=SG k
 have e1:x-1=2^(k+1)*m+(2^k-1):=by
  rw[e,Nat.mul_add,Tb,SK,Nat.mul_assoc];omega
 rw[Nat.testBit_and,e1,Nat.testBit_two_pow_mul_add _ (by rw[SK];omega)];by_cases hi:i<k+1
 ·rw[if_pos hi];by_cases e2:i=k
  ·subst e2;have:(2^i-1).testBit i=false:=Nat.testBit_lt_two_pow (by omega);rw[this];simp
  ·rw[h.2 i (by omega)];simp
 ·rw[if_neg hi,e,xR];have h1:k≤i:=by omega
  have h2:¬i=k:=by omega
  simp[h1,h2,show i-(k+1)=i-k-1 by omega]
theorem H8{x k:Nat}(h:o4 x k)(hk:k<64)(hx:x<18446744073709551616):x &&& (18446744073709551616-x)=2^k:=by
 have e:=DW h;generalize hm:x/2^(k+1)=m at e;have hp:=SG k;have h64:2^k*2^(64-k)=18446744073709551616:=by rw[←Nat.pow_add,show k+(64-k)=64 by omega]
 have h63:2^(64-k)=2*2^(63-k):=by rw[show 64-k=(63-k)+1 by omega,SK];omega
 have hml:m<2^(63-k):=by
  rw[←hm];refine Nat.div_lt_of_lt_mul ?_;rw[←Nat.pow_add,show k+1+(63-k)=64 by omega];exact hx
 have e1:18446744073709551616-x=2^k*(2*(2^(63-k)-(m+1))+1):=by
  rw[←h64,e,←Nat.mul_sub];congr 1;omega
 refine TA fun i=>?_;rw[Nat.testBit_and,e1]
 conv=>lhs;lhs;rw[e]
 rw[xR,xR,TG];by_cases h1:k≤i
 ·by_cases h2:i=k
  ·subst h2;simp
  ·have h3:¬k=i:=fun q=>h2 q.symm;have hc:=Nat.testBit_two_pow_sub_succ hml (i-k-1);simp only[h1,h2,h3,decide_true,decide_false,Tk,if_false];rw[hc];cases m.testBit (i-k-1) <;>simp
 ·have h3:¬k=i:=by omega
  simp[h1,h3]
theorem wH:ay 0=[]:=by
 unfold ay;rw[List.filter_eq_nil_iff];intro i _;simp
theorem range_split{k n:Nat}(h:k<n):List.range n=List.range k++k::((List.range (n-k-1)).map (k+1+·)):=by
 refine Sh fun i=>?_;rcases Ti i k with h1|h1|h1
 ·rw[R9 (by omega),RV (by simpa using h1),R9 h1]
 ·subst h1;rw[R9 h,RO (by simp),SJ,Nat.sub_self];rfl
 ·rw[RO (by simp;omega),SJ];obtain⟨j,hj⟩:∃j,i-k=j+1:=⟨i-k-1,by omega⟩;rw[hj,SE,Rt];by_cases hi:i<n
  ·rw[R9 hi,R9 (by omega)];simp only[R6,RC];omega
  ·rw[Ry (by simp;omega),Ry (by simp;omega)];rfl
theorem Af{x k:Nat}(h:o4 x k)(hk:k<64):ay x=k::ay (x &&& (x-1)):=by
 have hc:=Cp h;unfold ay;rw[range_split hk,TL,TL,TC,TC]
 have e1:∀y:Nat,(∀i,i<k→y.testBit i=false)→(List.range k).filter (fun i=>y.testBit i)=[]:=fun y hy=>by
  rw[List.filter_eq_nil_iff];intro i hi;rw[hy i (Si.1 hi)];simp
 have e2:(x &&& (x-1)).testBit k=false:=by rw[hc];simp
 rw[e1 x h.2,e1 _ (fun i hi=>by rw[hc,h.2 i hi];rfl),e2];simp only[h.1,if_true,Sb,Sw,if_false];congr 1;refine List.filter_congr fun i hi=>?_;obtain⟨j,_,rfl⟩:=RI.1 hi;rw[hc];have:k+1+j≠k:=by omega
 simp[this]
end Lat
namespace Go.Proofs.YtiihljlagmmljaaGreatDoor
open Aml Go Lat
@[go_sem] def eH (up:List Nat):DV:= .sl 1 false (up.map fun x:Nat=>dU (x:Int))
def dD(up:List Nat):Prop:=∀x,x∈up→x<18446744073709551616
theorem dD.at_{up:List Nat}(h:dD up){i x:Nat}(hx:up[i]? =some x):x<18446744073709551616:=h x (Rj hx)
def IJ(up:List Nat)(a:Int):Bool:=decide (up.length≤64∧0≤a∧a<(up.length:Int))
theorem nE{up:List Nat}{a:Int}:IJ up a=true↔up.length≤64∧0≤a∧a<(up.length:Int):=decide_eq_true_iff
theorem tf(w0:W0)(up:List Nat)(a:Int)(S:St):ab Tryz.prog w0 104 [eH up,dI a] S (fun d S'=>d=dB (IJ up a)∧S'=S):=by
 unfold IJ;refine cR [] mx Tryz.func104 rfl rfl (by kernel_rfl) ?_;simp(maxDischargeDepth:=12) (maxSteps:=1000000) -implicitDefEqProofs only[Tryz.ntmps104,go_sem,Nat.reduceAdd,Nat.reduceSub,Nat.reduceMul,Nat.reduceLeDiff,Nat.reduceEqDiff,Nat.reduceGT,Nat.reduceBEq,reduceCtorEq,↓reduceIte,Int.reduceToNat,Int.reduceLE,Int.reduceLT,Int.reduceNe,Int.reduceEq];refine⟨fun h1=>⟨fun h2=>⟨fun h3=>⟨by omega,by omega,by omega⟩,fun h3=>h3.2.2⟩,fun h2 h3=>by omega⟩,fun h1 h2=>by omega⟩
theorem Qi(n:Nat):((n:Int).tdiv 2)=((n/2:Nat):Int):=rfl
theorem Qh(n:Nat):((n:Int).tmod 2)=((n%2:Nat):Int):=rfl
theorem EY(x i:Nat):x/2^i/2=x/2^(i+1):=by rw[Nat.div_div_eq_div_mul,SK]
theorem py{k:Nat}(h:k<64):2^k<18446744073709551616:=Nat.pow_lt_pow_right (by omega) (show k<64 from h)
theorem wN{x:Nat}(h:x<18446744073709551616):IntKind.u64.wrap (x:Int)=(x:Int):=Nu (by omega) (by omega)
theorem ax{i:Nat}(h:i<4611686018427387905):IntKind.i64.wrap ((i:Int)+1)=((i+1:Nat):Int):=by rw[kx (by omega) (by omega)];omega
theorem pA(w0:W0)(x k:Nat)(hx:x<18446744073709551616)(hk:k<4611686018427387904)(S:St):ab Tryz.prog w0 50 [dU (x:Int),dI (k:Int)] S (fun d S'=>d=dB (x.testBit k)∧S'=S):=by
 refine cR [] mx Tryz.func50 rfl rfl (by kernel_rfl) ?_;simp(maxDischargeDepth:=12) (maxSteps:=1000000) -implicitDefEqProofs only[Tryz.ntmps50,go_sem,Nat.reduceAdd,Nat.reduceSub,Nat.reduceMul,Nat.reduceLeDiff,Nat.reduceEqDiff,Nat.reduceGT,Nat.reduceBEq,reduceCtorEq,↓reduceIte,Int.reduceToNat,Int.reduceLE,Int.reduceLT,Int.reduceNe,Int.reduceEq];refine bw [] k [0,1,5] (fun i=>[(0,dU ((x/2^i:Nat):Int)),(5,dI i)]) (fun _=>S) (fun _=>True) mx (by kernel_rfl) ?_ ?_
 ·simp(maxDischargeDepth:=12) (maxSteps:=1000000) -implicitDefEqProofs only[go_sem,Nat.reduceAdd,Nat.reduceSub,Nat.reduceMul,Nat.reduceLeDiff,Nat.reduceEqDiff,Nat.reduceGT,Nat.reduceBEq,reduceCtorEq,↓reduceIte,Int.reduceToNat,Int.reduceLE,Int.reduceLT,Int.reduceNe,Int.reduceEq];exact(Nat.div_one x).symm
 ·intro i hi _;simp(maxDischargeDepth:=12) (maxSteps:=1000000) -implicitDefEqProofs only[go_sem,Nat.reduceAdd,Nat.reduceSub,Nat.reduceMul,Nat.reduceLeDiff,Nat.reduceEqDiff,Nat.reduceGT,Nat.reduceBEq,reduceCtorEq,↓reduceIte,Int.reduceToNat,Int.reduceLE,Int.reduceLT,Int.reduceNe,Int.reduceEq];refine⟨fun h=>⟨h,?_,ax (by omega)⟩,fun h=>?_⟩
  ·have:=Nat.div_le_self (x/2^i) 2;have:=Nat.div_le_self x (2^i);rw[Qi,wN (by omega),EY]
  ·have e:i=k:=by omega
   subst e;rw[Qh,SM];exact decide_eq_decide.2 ⟨fun h=>by omega,fun h=>by omega⟩
theorem Cu(w0:W0)(k:Nat)(hk:k<64)(S:St):ab Tryz.prog w0 62 [dI (k:Int)] S (fun d S'=>d=dU ((2^k:Nat):Int)∧S'=S):=by
 refine cR [] mx Tryz.func62 rfl rfl (by kernel_rfl) ?_;simp(maxDischargeDepth:=12) (maxSteps:=1000000) -implicitDefEqProofs only[Tryz.ntmps62,go_sem,Nat.reduceAdd,Nat.reduceSub,Nat.reduceMul,Nat.reduceLeDiff,Nat.reduceEqDiff,Nat.reduceGT,Nat.reduceBEq,reduceCtorEq,↓reduceIte,Int.reduceToNat,Int.reduceLE,Int.reduceLT,Int.reduceNe,Int.reduceEq];refine bw [] k [0,3,4] (fun i=>[(3,dU ((2^i:Nat):Int)),(4,dI i)]) (fun _=>S) (fun _=>True) mx (by kernel_rfl) ?_ ?_
 ·simp(maxDischargeDepth:=12) (maxSteps:=1000000) -implicitDefEqProofs only[go_sem,Nat.reduceAdd,Nat.reduceSub,Nat.reduceMul,Nat.reduceLeDiff,Nat.reduceEqDiff,Nat.reduceGT,Nat.reduceBEq,reduceCtorEq,↓reduceIte,Int.reduceToNat,Int.reduceLE,Int.reduceLT,Int.reduceNe,Int.reduceEq];rfl
 ·intro i hi _;simp(maxDischargeDepth:=12) (maxSteps:=1000000) -implicitDefEqProofs only[go_sem,Nat.reduceAdd,Nat.reduceSub,Nat.reduceMul,Nat.reduceLeDiff,Nat.reduceEqDiff,Nat.reduceGT,Nat.reduceBEq,reduceCtorEq,↓reduceIte,Int.reduceToNat,Int.reduceLE,Int.reduceLT,Int.reduceNe,Int.reduceEq];refine⟨fun h=>⟨h,?_,ax (by omega)⟩,fun h=>by rw[show i=k by omega]⟩;have h1:((2^i:Nat):Int)*2=((2^(i+1):Nat):Int):=by rw[SK];push_cast;rfl
  have h2:=py (show i+1≤63+0 by omega|>fun h=>Nat.lt_succ_of_le h);rw[h1,wN h2]
theorem ee{x y:Nat}(hx:x<18446744073709551616)(hy:y<18446744073709551616):iE .and .u64 (x:Int) (y:Int)=((x &&& y:Nat):Int):=by
 have h1:(BitVec.ofInt 64 (x:Int)).toNat=x:=by rw[BitVec.ofInt_natCast,BitVec.toNat_ofNat];exact SA hx
 have h2:(BitVec.ofInt 64 (y:Int)).toNat=y:=by rw[BitVec.ofInt_natCast,BitVec.toNat_ofNat];exact SA hy
 show IntKind.u64.wrap (((BitVec.ofInt 64 (x:Int) &&& BitVec.ofInt 64 (y:Int)).toNat:Nat):Int)=_;rw[BitVec.toNat_and,h1,h2];exact wN (Nat.lt_of_le_of_lt Nat.and_le_left hx)
theorem jm{x y:Nat}(hx:x<18446744073709551616)(hy:y<18446744073709551616):iE .or .u64 (x:Int) (y:Int)=((x ||| y:Nat):Int):=by
 have h1:(BitVec.ofInt 64 (x:Int)).toNat=x:=by rw[BitVec.ofInt_natCast,BitVec.toNat_ofNat];exact SA hx
 have h2:(BitVec.ofInt 64 (y:Int)).toNat=y:=by rw[BitVec.ofInt_natCast,BitVec.toNat_ofNat];exact SA hy
 show IntKind.u64.wrap (((BitVec.ofInt 64 (x:Int) ||| BitVec.ofInt 64 (y:Int)).toNat:Nat):Int)=_;rw[BitVec.toNat_or,h1,h2];exact wN (Nat.or_lt_two_pow (n:=64) hx hy)
theorem Ms{x k:Nat}(hk:k<64):((x:Int)).fdiv (2^min k 64)=((x/2^k:Nat):Int):=by
 rw[Tu (by omega),Int.fdiv_eq_ediv_of_nonneg _ (by exact Int.le_of_lt (Int.pow_pos (by decide)))]
 push_cast;rfl
theorem JJ{x k:Nat}(hx:x<18446744073709551616)(hk:k<64):decide (iE .and .u64 ((x:Int).fdiv (2^min k 64)) 1=1)=x.testBit k:=by
 rw[Ms hk];have:=Nat.div_le_self x (2^k);have e:=ee (x:=x/2^k) (y:=1) (by omega) (by omega);rw[show((1:Nat):Int)=1 from rfl]at e;rw[e,Nat.and_one_is_mod,SM];exact decide_eq_decide.2 ⟨fun h=>by omega,fun h=>by omega⟩
theorem lz{up:List Nat}{a b:Int}:BO up a b=true↔up.length≤64∧0≤a∧a<(up.length:Int)∧0≤b∧b<(up.length:Int)∧bt up a.toNat b.toNat=true:=by
 unfold BO;simp only[Rm,decide_eq_true_eq,ck];constructor
 ·rintro⟨⟨h1,h2⟩,h3,h4,h5,h6⟩;exact⟨h3,h1,by omega,h2,by omega,h6⟩
 ·rintro⟨h1,h2,h3,h4,h5,h6⟩;exact⟨⟨h2,h4⟩,h1,by omega,by omega,h6⟩
theorem kg{up:List Nat}{a b:Int}(h:¬(up.length≤64∧0≤a∧a<(up.length:Int)∧0≤b∧b<(up.length:Int))):false=BO up a b:=by
 cases e:BO up a b with
 |false=>rfl
 |true=>rw[lz]at e;exact absurd ⟨e.1,e.2.1,e.2.2.1,e.2.2.2.1,e.2.2.2.2.1⟩ h
theorem Fz{up:List Nat}{a b:Int}(h1:up.length≤64)(h2:0≤a)(h3:a<(up.length:Int))(h4:0≤b)(h5:b<(up.length:Int)){x:Nat}(hx:up[a.toNat]? =some x):BO up a b=x.testBit b.toNat:=by
 have e:bt up a.toNat b.toNat=x.testBit b.toNat:=by unfold bt;rw[Rl,hx];rfl
 rw[←e]
 cases q:bt up a.toNat b.toNat with
 |true=>exact lz.2 ⟨h1,h2,h3,h4,h5,q⟩
 |false=>
  cases r:BO up a b with
  |false=>rfl
  |true=>rw[lz,q]at r;exact absurd r.2.2.2.2.2 (by simp)
theorem sW(w0:W0)(up:List Nat)(hu:dD up)(a b:Int)(S:St):ab Tryz.prog w0 109 [eH up,dI a,dI b] S (fun d S'=>d=dB (BO up a b)∧S'=S):=by
 refine cR [] mx Tryz.func109 rfl rfl (by kernel_rfl) ?_;simp(maxDischargeDepth:=12) (maxSteps:=1000000) -implicitDefEqProofs only[Tryz.ntmps109,go_sem,Nat.reduceAdd,Nat.reduceSub,Nat.reduceMul,Nat.reduceLeDiff,Nat.reduceEqDiff,Nat.reduceGT,Nat.reduceBEq,reduceCtorEq,↓reduceIte,Int.reduceToNat,Int.reduceLE,Int.reduceLT,Int.reduceNe,Int.reduceEq];refine⟨fun h1=>⟨fun h2=>⟨fun h3=>⟨fun h4=>⟨fun h5=>⟨h2,h3,fun x hx=>?_⟩,fun h5=>kg (by omega)⟩,fun h4=>kg (by omega)⟩,fun h3=>kg (by omega)⟩,fun h2=>kg (by omega)⟩,fun h1=>kg (by omega)⟩;obtain⟨n,rfl⟩:∃n:Nat,b=(n:Int):=⟨b.toNat,by omega⟩;refine aq (pA _ x n (hu.at_ hx) (by omega) _) ?_;simp(maxDischargeDepth:=12) (maxSteps:=1000000) -implicitDefEqProofs only[go_sem,Nat.reduceAdd,Nat.reduceSub,Nat.reduceMul,Nat.reduceLeDiff,Nat.reduceEqDiff,Nat.reduceGT,Nat.reduceBEq,reduceCtorEq,↓reduceIte,Int.reduceToNat,Int.reduceLE,Int.reduceLT,Int.reduceNe,Int.reduceEq];exact(Fz (by omega) h2 h3 h4 h5 hx).symm
theorem vi(w0:W0)(up:List Nat)(hu:dD up)(a b:Int)(S:St):ab Tryz.prog w0 66 [eH up,dI a,dI b] S (fun d S'=>d=dB (BO up a b)∧S'=S):=by
 refine cR [] mx Tryz.func66 rfl rfl (by kernel_rfl) ?_;simp(maxDischargeDepth:=12) (maxSteps:=1000000) -implicitDefEqProofs only[Tryz.ntmps66,go_sem,Nat.reduceAdd,Nat.reduceSub,Nat.reduceMul,Nat.reduceLeDiff,Nat.reduceEqDiff,Nat.reduceGT,Nat.reduceBEq,reduceCtorEq,↓reduceIte,Int.reduceToNat,Int.reduceLE,Int.reduceLT,Int.reduceNe,Int.reduceEq];refine aq (tf _ up a _) ?_;simp(maxDischargeDepth:=12) (maxSteps:=1000000) -implicitDefEqProofs only[go_sem,Nat.reduceAdd,Nat.reduceSub,Nat.reduceMul,Nat.reduceLeDiff,Nat.reduceEqDiff,Nat.reduceGT,Nat.reduceBEq,reduceCtorEq,↓reduceIte,Int.reduceToNat,Int.reduceLE,Int.reduceLT,Int.reduceNe,Int.reduceEq];refine⟨fun h1=>aq (tf _ up b _) ?_,fun h1=>?_⟩
 ·rw[nE]at h1;simp(maxDischargeDepth:=12) (maxSteps:=1000000) -implicitDefEqProofs only[go_sem,Nat.reduceAdd,Nat.reduceSub,Nat.reduceMul,Nat.reduceLeDiff,Nat.reduceEqDiff,Nat.reduceGT,Nat.reduceBEq,reduceCtorEq,↓reduceIte,Int.reduceToNat,Int.reduceLE,Int.reduceLT,Int.reduceNe,Int.reduceEq];refine⟨fun h2=>?_,fun h2=>?_⟩
  ·rw[nE]at h2;refine⟨h1.2.1,h1.2.2,fun x hx=>⟨h2.2.1,?_⟩⟩;obtain⟨n,rfl⟩:∃n:Nat,b=(n:Int):=⟨b.toNat,by omega⟩;have e:=Fz h1.1 h1.2.1 h1.2.2 h2.2.1 h2.2.2 hx;rw[e,Int.toNat_natCast,←JJ (hu.at_ hx) (by omega)]
  ·exact kg fun h=>by rw[IJ,decide_eq_false_iff_not]at h2;exact h2 ⟨h.1,h.2.2.2.1,h.2.2.2.2⟩
 ·exact kg fun h=>by rw[IJ,decide_eq_false_iff_not]at h1;exact h1 ⟨h.1,h.2.1,h.2.2.1⟩
theorem r7(w0:W0)(up:List Nat)(hu:dD up)(a:Nat)(ha:a<up.length)(hl:up.length≤64)(S:St):ab Tryz.prog w0 55 [eH up,dI (a:Int)] S (fun d S'=>d=dU ((aC up a:Nat):Int)∧S'=S):=by
 have hw:∀x,up[a]? =some x→aC up a=x%2^up.length:=fun x hx=>by
  unfold aC;rw[Rl,hx];rfl
 refine cR [] mx Tryz.func55 rfl rfl (by kernel_rfl) ?_;simp(maxDischargeDepth:=12) (maxSteps:=1000000) -implicitDefEqProofs only[Tryz.ntmps55,go_sem,Nat.reduceAdd,Nat.reduceSub,Nat.reduceMul,Nat.reduceLeDiff,Nat.reduceEqDiff,Nat.reduceGT,Nat.reduceBEq,reduceCtorEq,↓reduceIte,Int.reduceToNat,Int.reduceLE,Int.reduceLT,Int.reduceNe,Int.reduceEq];refine⟨fun h=>⟨ha,fun x hx=>?_⟩,fun h=>⟨ha,fun x hx=>?_⟩⟩
 ·have:=hu.at_ hx;rw[hw x hx,show up.length=64 by omega];exact(SA (show x<2^64 from this)).symm
 ·have hlt:up.length<64:=by omega
  have h1:=py hlt;have h2:0<2^up.length:=SG _;have e:(1:Int)*2^min up.length 64=((2^up.length:Nat):Int):=by rw[Tu (by omega),Int.one_mul];push_cast;rfl
  have e2:((2^up.length:Nat):Int)-1=((2^up.length-1:Nat):Int):=by omega
  rw[e,wN h1,e2,wN (by omega),ee (hu.at_ hx) (by omega),Nat.and_two_pow_sub_one_eq_mod,hw x hx]
theorem dH(up:List Nat)(a b:Nat):BO up (a:Int) (b:Int)=cY up a b:=by
 unfold BO;rw[Int.toNat_natCast,Int.toNat_natCast];simp
theorem ja{up:List Nat}{a i:Nat}(h:i≤64):eO up a i<18446744073709551616:=
 Sx (F1 up a i) (SV (by omega) h)
theorem CA{i:Nat}(h:i<64):IntKind.u64.wrap (1*2^min i 64)=((2^i:Nat):Int):=by
 have e:(1:Int)*2^min i 64=((2^i:Nat):Int):=by rw[Tu (by omega),Int.one_mul];push_cast;rfl
 rw[e,wN (py h)]
theorem Jf(w0:W0)(up:List Nat)(hu:dD up)(a:Nat)(hl:up.length≤64)(S:St):ab Tryz.prog w0 107 [eH up,dI (a:Int)] S (fun d S'=>d=dU ((bY up a:Nat):Int)∧S'=S):=by
 refine cR [] mx Tryz.func107 rfl rfl (by kernel_rfl) ?_;simp(maxDischargeDepth:=12) (maxSteps:=1000000) -implicitDefEqProofs only[Tryz.ntmps107,go_sem,Nat.reduceAdd,Nat.reduceSub,Nat.reduceMul,Nat.reduceLeDiff,Nat.reduceEqDiff,Nat.reduceGT,Nat.reduceBEq,reduceCtorEq,↓reduceIte,Int.reduceToNat,Int.reduceLE,Int.reduceLT,Int.reduceNe,Int.reduceEq];refine bw [] up.length [0,1,5,8,9] (fun i=>[(5,dU ((eO up a i:Nat):Int)),(9,dI i)]) (fun _=>S) (fun _=>True) mx (by kernel_rfl) ?_ ?_
 ·simp(maxDischargeDepth:=12) (maxSteps:=1000000) -implicitDefEqProofs only[go_sem,Nat.reduceAdd,Nat.reduceSub,Nat.reduceMul,Nat.reduceLeDiff,Nat.reduceEqDiff,Nat.reduceGT,Nat.reduceBEq,reduceCtorEq,↓reduceIte,Int.reduceToNat,Int.reduceLE,Int.reduceLT,Int.reduceNe,Int.reduceEq];rfl
 ·intro i hi _;simp(maxDischargeDepth:=12) (maxSteps:=1000000) -implicitDefEqProofs only[go_sem,Nat.reduceAdd,Nat.reduceSub,Nat.reduceMul,Nat.reduceLeDiff,Nat.reduceEqDiff,Nat.reduceGT,Nat.reduceBEq,reduceCtorEq,↓reduceIte,Int.reduceToNat,Int.reduceLE,Int.reduceLT,Int.reduceNe,Int.reduceEq];refine⟨fun h=>aq (vi _ up hu i a _) ?_,fun h=>by rw[show i=up.length by omega];rfl⟩;simp(maxDischargeDepth:=12) (maxSteps:=1000000) -implicitDefEqProofs only[go_sem,Nat.reduceAdd,Nat.reduceSub,Nat.reduceMul,Nat.reduceLeDiff,Nat.reduceEqDiff,Nat.reduceGT,Nat.reduceBEq,reduceCtorEq,↓reduceIte,Int.reduceToNat,Int.reduceLE,Int.reduceLT,Int.reduceNe,Int.reduceEq];have e:=kc up a i;rw[dH];refine⟨fun q=>⟨h,?_,ax (by omega)⟩,fun q=>⟨h,?_,ax (by omega)⟩⟩
  ·rw[q,if_pos rfl]at e;rw[CA (by omega),jm (ja (by omega)) (py (by omega)),←e]
  ·rw[q]at e;rw[e];rfl
theorem MO(w0:W0)(up:List Nat)(hu:dD up)(a:Nat)(hl:up.length≤64)(S:St):ab Tryz.prog w0 129 [eH up,dI (a:Int)] S (fun d S'=>d=dU ((bY up a:Nat):Int)∧S'=S):=by
 refine cR [] mx Tryz.func129 rfl rfl (by kernel_rfl) ?_;simp(maxDischargeDepth:=12) (maxSteps:=1000000) -implicitDefEqProofs only[Tryz.ntmps129,go_sem,Nat.reduceAdd,Nat.reduceSub,Nat.reduceMul,Nat.reduceLeDiff,Nat.reduceEqDiff,Nat.reduceGT,Nat.reduceBEq,reduceCtorEq,↓reduceIte,Int.reduceToNat,Int.reduceLE,Int.reduceLT,Int.reduceNe,Int.reduceEq];refine bw [] up.length [0,1,5,6] (fun i=>[(5,dU ((eO up a i:Nat):Int)),(6,dI i)]) (fun _=>S) (fun _=>True) mx (by kernel_rfl) ?_ ?_
 ·simp(maxDischargeDepth:=12) (maxSteps:=1000000) -implicitDefEqProofs only[go_sem,Nat.reduceAdd,Nat.reduceSub,Nat.reduceMul,Nat.reduceLeDiff,Nat.reduceEqDiff,Nat.reduceGT,Nat.reduceBEq,reduceCtorEq,↓reduceIte,Int.reduceToNat,Int.reduceLE,Int.reduceLT,Int.reduceNe,Int.reduceEq];rfl
 ·intro i hi _;simp(maxDischargeDepth:=12) (maxSteps:=1000000) -implicitDefEqProofs only[go_sem,Nat.reduceAdd,Nat.reduceSub,Nat.reduceMul,Nat.reduceLeDiff,Nat.reduceEqDiff,Nat.reduceGT,Nat.reduceBEq,reduceCtorEq,↓reduceIte,Int.reduceToNat,Int.reduceLE,Int.reduceLT,Int.reduceNe,Int.reduceEq];refine⟨fun h=>aq (sW _ up hu i a _) ?_,fun h=>by rw[show i=up.length by omega];rfl⟩;simp(maxDischargeDepth:=12) (maxSteps:=1000000) -implicitDefEqProofs only[go_sem,Nat.reduceAdd,Nat.reduceSub,Nat.reduceMul,Nat.reduceLeDiff,Nat.reduceEqDiff,Nat.reduceGT,Nat.reduceBEq,reduceCtorEq,↓reduceIte,Int.reduceToNat,Int.reduceLE,Int.reduceLT,Int.reduceNe,Int.reduceEq];have e:=Ar up a i;rw[dH];refine⟨fun q=>aq (Cu _ i (by omega) _) ?_,fun q=>⟨h,?_,ax (by omega)⟩⟩
  ·rw[q,if_pos rfl]at e;have h1:=ja (up:=up) (a:=a) (show i+1≤64 by omega);simp(maxDischargeDepth:=12) (maxSteps:=1000000) -implicitDefEqProofs only[go_sem,Nat.reduceAdd,Nat.reduceSub,Nat.reduceMul,Nat.reduceLeDiff,Nat.reduceEqDiff,Nat.reduceGT,Nat.reduceBEq,reduceCtorEq,↓reduceIte,Int.reduceToNat,Int.reduceLE,Int.reduceLT,Int.reduceNe,Int.reduceEq];refine⟨h,?_,ax (by omega)⟩;have e2:((eO up a i:Nat):Int)+((2^i:Nat):Int)=((eO up a (i+1):Nat):Int):=by rw[e];push_cast;rfl
   rw[e2,wN h1]
  ·rw[q]at e;rw[e];rfl
theorem GF(w0:W0)(up:List Nat)(hu:dD up)(hl:up.length≤64)(S:St):ab Tryz.prog w0 110 [eH up] S (fun d S'=>d=eH ((List.range up.length).map (bY up))∧S'=S):=by
 refine cR [] mx Tryz.func110 rfl rfl (by kernel_rfl) ?_;simp(maxDischargeDepth:=12) (maxSteps:=1000000) -implicitDefEqProofs only[Tryz.ntmps110,go_sem,Nat.reduceAdd,Nat.reduceSub,Nat.reduceMul,Nat.reduceLeDiff,Nat.reduceEqDiff,Nat.reduceGT,Nat.reduceBEq,reduceCtorEq,↓reduceIte,Int.reduceToNat,Int.reduceLE,Int.reduceLT,Int.reduceNe,Int.reduceEq];refine vU 3 1 rfl (by omega) fun l=>?_;refine bw [] up.length [0,3,4] (fun i=>[(3,.acc l.n i),(4,dI i)]) (fun i=>⟨S.box,(l.n,.arr 1 (((List.range i).map (bY up)).map fun x:Nat=>dU (x:Int)))::S.acc⟩) (fun _=>True) mx (by kernel_rfl) ?_ ?_
 ·simp(maxDischargeDepth:=12) (maxSteps:=1000000) -implicitDefEqProofs only[go_sem,Nat.reduceAdd,Nat.reduceSub,Nat.reduceMul,Nat.reduceLeDiff,Nat.reduceEqDiff,Nat.reduceGT,Nat.reduceBEq,reduceCtorEq,↓reduceIte,Int.reduceToNat,Int.reduceLE,Int.reduceLT,Int.reduceNe,Int.reduceEq];exact .refl _
 ·intro i hi _;simp(maxDischargeDepth:=12) (maxSteps:=1000000) -implicitDefEqProofs only[go_sem,Nat.reduceAdd,Nat.reduceSub,Nat.reduceMul,Nat.reduceLeDiff,Nat.reduceEqDiff,Nat.reduceGT,Nat.reduceBEq,reduceCtorEq,↓reduceIte,Int.reduceToNat,Int.reduceLE,Int.reduceLT,Int.reduceNe,Int.reduceEq];refine⟨fun h=>aq (MO _ up hu i hl _) ?_,fun h=>?_⟩
  ·have e:(List.range (i+1)).map (bY up)=(List.range i).map (bY up)++[bY up i]:=by rw[Tv,R8];rfl
   have hm8:maxLen=9223372036854775807:=rfl;have hlr:(List.range i).length=i:=SJ;simp(maxDischargeDepth:=12) (maxSteps:=1000000) -implicitDefEqProofs only[go_sem,Nat.reduceAdd,Nat.reduceSub,Nat.reduceMul,Nat.reduceLeDiff,Nat.reduceEqDiff,Nat.reduceGT,Nat.reduceBEq,reduceCtorEq,↓reduceIte,Int.reduceToNat,Int.reduceLE,Int.reduceLT,Int.reduceNe,Int.reduceEq];refine⟨hlr,by omega,by omega,h,⟨?_,ax (by omega)⟩,?_⟩
   ·rw[hlr];exact .refl _
   ·rw[R8,R8];exact .refl _
  ·have e:i=up.length:=by omega
   subst e;exact⟨by simp,.refl _⟩
theorem JW(w0:W0)(l m:List Nat)(h0:l.length≤4611686018427387904)(S:St):ab Tryz.prog w0 65 [eH l,eH m] S (fun d S'=>d=dB (decide (l=m))∧S'=S):=by
 refine cR [] mx Tryz.func65 rfl rfl (by kernel_rfl) ?_;simp(maxDischargeDepth:=12) (maxSteps:=1000000) -implicitDefEqProofs only[Tryz.ntmps65,go_sem,Nat.reduceAdd,Nat.reduceSub,Nat.reduceMul,Nat.reduceLeDiff,Nat.reduceEqDiff,Nat.reduceGT,Nat.reduceBEq,reduceCtorEq,↓reduceIte,Int.reduceToNat,Int.reduceLE,Int.reduceLT,Int.reduceNe,Int.reduceEq];refine⟨fun h1 h2=>h1 (congrArg List.length h2),fun h=>?_⟩;have h:l.length=m.length:=by omega
 refine bw [] l.length [0,1,12,13] (fun i=>[(13,dI i)]) (fun i=>S) (fun i=>∀j,j<i→l[j]? =m[j]?) mx (by kernel_rfl) ?_ ?_
 ·simp(maxDischargeDepth:=12) (maxSteps:=1000000) -implicitDefEqProofs only[go_sem,Nat.reduceAdd,Nat.reduceSub,Nat.reduceMul,Nat.reduceLeDiff,Nat.reduceEqDiff,Nat.reduceGT,Nat.reduceBEq,reduceCtorEq,↓reduceIte,Int.reduceToNat,Int.reduceLE,Int.reduceLT,Int.reduceNe,Int.reduceEq];intro j hj;omega
 ·intro i hi hinv;simp(maxDischargeDepth:=12) (maxSteps:=1000000) -implicitDefEqProofs only[go_sem,Nat.reduceAdd,Nat.reduceSub,Nat.reduceMul,Nat.reduceLeDiff,Nat.reduceEqDiff,Nat.reduceGT,Nat.reduceBEq,reduceCtorEq,↓reduceIte,Int.reduceToNat,Int.reduceLE,Int.reduceLT,Int.reduceNe,Int.reduceEq];refine⟨fun hlt=>⟨hlt,fun x hx=>⟨by omega,fun y hy=>⟨fun hne e=>?_,fun he=>⟨hlt,fun j hj=>?_,ax (by omega)⟩⟩⟩⟩,fun hge=>?_⟩
  ·rw[e,hy]at hx;exact hne (RG hx).symm
  ·by_cases e:j=i
   ·subst e;rw[hx,hy,Decidable.not_not.1 he]
   ·exact hinv j (by omega)
  ·refine Sh fun j=>?_;by_cases hj:j<l.length
   ·exact hinv j (by omega)
   ·rw[Ry (by omega),Ry (by omega)]
theorem JG(w0:W0)(up:List Nat)(hu:dD up)(hl:up.length≤64)(a b:Nat)(S:St):ab Tryz.prog w0 71 [eH up,dI (a:Int),dI (b:Int)] S (fun d S'=>d=dI (jF (cY up) up.length a b)∧S'=S):=by
 refine cR [] mx Tryz.func71 rfl rfl (by kernel_rfl) ?_;simp(maxDischargeDepth:=12) (maxSteps:=1000000) -implicitDefEqProofs only[Tryz.ntmps71,go_sem,Nat.reduceAdd,Nat.reduceSub,Nat.reduceMul,Nat.reduceLeDiff,Nat.reduceEqDiff,Nat.reduceGT,Nat.reduceBEq,reduceCtorEq,↓reduceIte,Int.reduceToNat,Int.reduceLE,Int.reduceLT,Int.reduceNe,Int.reduceEq];refine bw [] up.length [0,1,2,7] (fun i=>[(7,dI i)]) (fun _=>S) (fun i=>∀c,c<i→¬EL (cY up) up.length a b c) mx (by kernel_rfl) ?_ ?_
 ·simp(maxDischargeDepth:=12) (maxSteps:=1000000) -implicitDefEqProofs only[go_sem,Nat.reduceAdd,Nat.reduceSub,Nat.reduceMul,Nat.reduceLeDiff,Nat.reduceEqDiff,Nat.reduceGT,Nat.reduceBEq,reduceCtorEq,↓reduceIte,Int.reduceToNat,Int.reduceLE,Int.reduceLT,Int.reduceNe,Int.reduceEq];intro c hc;omega
 ·intro i hi hinv;simp(maxDischargeDepth:=12) (maxSteps:=1000000) -implicitDefEqProofs only[go_sem,Nat.reduceAdd,Nat.reduceSub,Nat.reduceMul,Nat.reduceLeDiff,Nat.reduceEqDiff,Nat.reduceGT,Nat.reduceBEq,reduceCtorEq,↓reduceIte,Int.reduceToNat,Int.reduceLE,Int.reduceLT,Int.reduceNe,Int.reduceEq];refine⟨fun h=>aq (sW _ up hu a i _) ?_,fun h=>?_⟩
  ·simp(maxDischargeDepth:=12) (maxSteps:=1000000) -implicitDefEqProofs only[go_sem,Nat.reduceAdd,Nat.reduceSub,Nat.reduceMul,Nat.reduceLeDiff,Nat.reduceEqDiff,Nat.reduceGT,Nat.reduceBEq,reduceCtorEq,↓reduceIte,Int.reduceToNat,Int.reduceLE,Int.reduceLT,Int.reduceNe,Int.reduceEq,dH];refine⟨fun h1=>aq (sW _ up hu b i _) ?_,fun h1=>?_⟩
   all_goals
    try (simp(maxDischargeDepth:=12) (maxSteps:=1000000) -implicitDefEqProofs only[go_sem,Nat.reduceAdd,Nat.reduceSub,Nat.reduceMul,Nat.reduceLeDiff,Nat.reduceEqDiff,Nat.reduceGT,Nat.reduceBEq,reduceCtorEq,↓reduceIte,Int.reduceToNat,Int.reduceLE,Int.reduceLT,Int.reduceNe,Int.reduceEq,dH])
    refine bS [] [0,1,2,7,8,9] (σ:=Nat×Bool) (fun s=>[(8,dB s.2),(9,dI s.1)]) (fun _=>S) (fun s=>s.1≤up.length∧(s.2=true↔cY up a i=true∧cY up b i=true∧∀d,d<s.1→cY up a d=true→cY up b d=true→cY up i d=true)) (fun s=>up.length-s.1) (0,cY up a i&&cY up b i) mx (by kernel_rfl) ⟨⟨RL _,?_⟩,?_⟩ ?_
    ·dsimp only;rw[Rm];exact⟨fun h=>⟨h.1,h.2,fun d hd=>by omega⟩,fun h=>⟨h.1,h.2.1⟩⟩
    ·try (simp(maxDischargeDepth:=12) (maxSteps:=1000000) -implicitDefEqProofs only[go_sem,Nat.reduceAdd,Nat.reduceSub,Nat.reduceMul,Nat.reduceLeDiff,Nat.reduceEqDiff,Nat.reduceGT,Nat.reduceBEq,reduceCtorEq,↓reduceIte,Int.reduceToNat,Int.reduceLE,Int.reduceLT,Int.reduceNe,Int.reduceEq,h1])
    ·rintro⟨d,f⟩ ⟨hd,hf⟩;dsimp only at hd hf
     have hT:f=true→¬d<up.length→(i:Int)=jF (cY up) up.length a b:=fun q q2=>by
      obtain⟨k1,k2,k3⟩:=hf.1 q;exact(zE hinv ⟨h,k1,k2,fun d' hd'=>k3 d' (by omega)⟩).symm
     have hF:f=false→i<up.length∧(∀(c:Nat),c<i+1→¬EL (cY up) up.length a b c)∧IntKind.i64.wrap ((i:Int)+1)=((i+1:Nat):Int):=fun q=>by
      refine⟨h,fun c hc hj=>?_,ax (by omega)⟩;by_cases e:c=i
      ·subst e;have:=hf.2 ⟨hj.2.1,hj.2.2.1,fun d' hd'=>hj.2.2.2 d' (by omega)⟩;rw[q]at this;cases this
      ·exact hinv c (by omega) hj
     simp(maxDischargeDepth:=12) (maxSteps:=1000000) -implicitDefEqProofs only[go_sem,Nat.reduceAdd,Nat.reduceSub,Nat.reduceMul,Nat.reduceLeDiff,Nat.reduceEqDiff,Nat.reduceGT,Nat.reduceBEq,reduceCtorEq,↓reduceIte,Int.reduceToNat,Int.reduceLE,Int.reduceLT,Int.reduceNe,Int.reduceEq];refine⟨fun hlt=>⟨fun q=>aq (sW _ up hu a d _) ?_,fun q=>⟨fun q'=>absurd (q.symm.trans q') (by simp),hF⟩⟩,fun hge=>⟨fun q=>hT q hge,hF⟩⟩;simp(maxDischargeDepth:=12) (maxSteps:=1000000) -implicitDefEqProofs only[go_sem,Nat.reduceAdd,Nat.reduceSub,Nat.reduceMul,Nat.reduceLeDiff,Nat.reduceEqDiff,Nat.reduceGT,Nat.reduceBEq,reduceCtorEq,↓reduceIte,Int.reduceToNat,Int.reduceLE,Int.reduceLT,Int.reduceNe,Int.reduceEq,dH]
     have step:∀f':Bool,(f'=true↔(cY up a d=true→cY up b d=true→cY up i d=true))→(f'=true↔cY up a i=true∧cY up b i=true∧∀d',d'<d+1→cY up a d'=true→cY up b d'=true→cY up i d'=true):=fun f' hf'=>by
      obtain⟨k1,k2,k3⟩:=hf.1 q;rw[hf'];constructor
      ·intro hq;refine⟨k1,k2,fun d' hd'=>?_⟩;by_cases e:d'=d
       ·subst e;exact hq
       ·exact k3 d' (by omega)
      ·intro hq;exact hq.2.2 d (by omega)
     refine⟨fun g1=>aq (sW _ up hu b d _) ?_,fun g1=>⟨(d+1,true),⟨by show d+1≤_;omega,step true ⟨fun _ g=>absurd (g1.symm.trans g) (by simp),fun _=>rfl⟩⟩,by show up.length-(d+1)<_;omega,rfl,ax (by omega)⟩⟩;simp(maxDischargeDepth:=12) (maxSteps:=1000000) -implicitDefEqProofs only[go_sem,Nat.reduceAdd,Nat.reduceSub,Nat.reduceMul,Nat.reduceLeDiff,Nat.reduceEqDiff,Nat.reduceGT,Nat.reduceBEq,reduceCtorEq,↓reduceIte,Int.reduceToNat,Int.reduceLE,Int.reduceLT,Int.reduceNe,Int.reduceEq,dH];refine⟨fun g2=>⟨(d+1,true),⟨by show d+1≤_;omega,step true ⟨fun _ _ g=>absurd (g2.symm.trans g) (by simp),fun _=>rfl⟩⟩,by show up.length-(d+1)<_;omega,rfl,ax (by omega)⟩,fun g2=>aq (sW _ up hu i d _) ?_⟩;simp(maxDischargeDepth:=12) (maxSteps:=1000000) -implicitDefEqProofs only[go_sem,Nat.reduceAdd,Nat.reduceSub,Nat.reduceMul,Nat.reduceLeDiff,Nat.reduceEqDiff,Nat.reduceGT,Nat.reduceBEq,reduceCtorEq,↓reduceIte,Int.reduceToNat,Int.reduceLE,Int.reduceLT,Int.reduceNe,Int.reduceEq,dH];exact⟨(d+1,cY up i d),⟨by show d+1≤_;omega,step _ ⟨fun g _ _=>g,fun g=>g g1 g2⟩⟩,by show up.length-(d+1)<_;omega,rfl,ax (by omega)⟩
  ·have e:i=up.length:=by omega
   subst e;exact(yH fun d hd=>hinv d hd.1 hd).symm
theorem AP(up:List Nat)(hl:up.length≤64):dD ((List.range up.length).map (bY up)):=by
 intro x hx;obtain⟨a,_,rfl⟩:=RI.1 hx;exact ja hl
theorem M7(w0:W0)(up:List Nat)(hu:dD up)(hl:up.length≤64)(a b:Nat)(S:St):ab Tryz.prog w0 72 [eH up,dI (a:Int),dI (b:Int)] S (fun d S'=>d=dI (jF (fun x y=>cY up y x) up.length a b)∧S'=S):=by
 have e:jF (fun x y=>cY up y x) up.length a b=jF (cY ((List.range up.length).map (bY up))) ((List.range up.length).map (bY up)).length a b:=by
  rw[show cY ((List.range up.length).map (bY up))=fun x y=>cY up y x from funext fun x=>funext fun y=>Bj hl x y];simp
 have hlen:((List.range up.length).map (bY up)).length=up.length:=by simp
 rw[e];refine cR [] mx Tryz.func72 rfl rfl (by kernel_rfl) ?_;simp(maxDischargeDepth:=12) (maxSteps:=1000000) -implicitDefEqProofs only[Tryz.ntmps72,go_sem,Nat.reduceAdd,Nat.reduceSub,Nat.reduceMul,Nat.reduceLeDiff,Nat.reduceEqDiff,Nat.reduceGT,Nat.reduceBEq,reduceCtorEq,↓reduceIte,Int.reduceToNat,Int.reduceLE,Int.reduceLT,Int.reduceNe,Int.reduceEq];refine⟨fun h=>by omega,fun h=>aq (GF _ up hu hl _) ?_⟩;simp(maxDischargeDepth:=12) (maxSteps:=1000000) -implicitDefEqProofs only[go_sem,Nat.reduceAdd,Nat.reduceSub,Nat.reduceMul,Nat.reduceLeDiff,Nat.reduceEqDiff,Nat.reduceGT,Nat.reduceBEq,reduceCtorEq,↓reduceIte,Int.reduceToNat,Int.reduceLE,Int.reduceLT,Int.reduceNe,Int.reduceEq];refine aq (JG _ _ (AP up hl) (by omega) a b _) ?_;simp(maxDischargeDepth:=12) (maxSteps:=1000000) -implicitDefEqProofs only[go_sem,Nat.reduceAdd,Nat.reduceSub,Nat.reduceMul,Nat.reduceLeDiff,Nat.reduceEqDiff,Nat.reduceGT,Nat.reduceBEq,reduceCtorEq,↓reduceIte,Int.reduceToNat,Int.reduceLE,Int.reduceLT,Int.reduceNe,Int.reduceEq]
@[go_sem] def nD (l:List Nat):List DV:=l.map fun x:Nat=>dU (x:Int)
theorem nY{n x:Nat}(hn:n≤64)(h:x<2^n):x<18446744073709551616:=Sx h (SV (by omega) hn)
def Ck(o:List Nat)(a b c:Nat):Prop:=bt o a b=true→bt o b c=true→bt o a c=true
theorem Fv(w0:W0)(up:List Nat)(hu:dD up)(hl:up.length≤64)(S:St):ab Tryz.prog w0 21 [eH up] S (fun d S'=>d=eH (aV up)∧S'=S):=by
 have hm8:maxLen=9223372036854775807:=rfl;refine cR [] mx Tryz.func21 rfl rfl (by kernel_rfl) ?_;simp(maxDischargeDepth:=12) (maxSteps:=1000000) -implicitDefEqProofs only[Tryz.ntmps21,go_sem,Nat.reduceAdd,Nat.reduceSub,Nat.reduceMul,Nat.reduceLeDiff,Nat.reduceEqDiff,Nat.reduceGT,Nat.reduceBEq,reduceCtorEq,↓reduceIte,Int.reduceToNat,Int.reduceLE,Int.reduceLT,Int.reduceNe,Int.reduceEq];refine⟨fun h=>by omega,fun _=>?_⟩;refine vU 3 1 rfl (by omega) fun l=>?_;refine bw [] up.length [0,3,11,12] (fun i=>[(3,.acc l.n i),(12,dI i)]) (fun i=>⟨S.box,(l.n,.arr 1 (nD ((bf up).take i)))::S.acc⟩) (fun _=>True) mx (by kernel_rfl) ?_ ?_
 ·simp(maxDischargeDepth:=12) (maxSteps:=1000000) -implicitDefEqProofs only[go_sem,Nat.reduceAdd,Nat.reduceSub,Nat.reduceMul,Nat.reduceLeDiff,Nat.reduceEqDiff,Nat.reduceGT,Nat.reduceBEq,reduceCtorEq,↓reduceIte,Int.reduceToNat,Int.reduceLE,Int.reduceLT,Int.reduceNe,Int.reduceEq]
 ·intro i hi _;simp(maxDischargeDepth:=12) (maxSteps:=1000000) -implicitDefEqProofs only[go_sem,Nat.reduceAdd,Nat.reduceSub,Nat.reduceMul,Nat.reduceLeDiff,Nat.reduceEqDiff,Nat.reduceGT,Nat.reduceBEq,reduceCtorEq,↓reduceIte,Int.reduceToNat,Int.reduceLE,Int.reduceLT,Int.reduceNe,Int.reduceEq];refine⟨fun h=>dL (r7 _ up hu i h hl _) ?_,fun h=>?_⟩
  ·have hlo:((bf up).take i).length=i:=by rw[RA,ah];omega
   have hwl:aC up i<18446744073709551616:=nY hl (Nat.mod_lt _ (SG _))
   have ho:(bf up).take (i+1)=(bf up).take i++[aC up i ||| 2^i]:=by
    rw[Sm];congr 1;unfold bf;rw[Rt,R9 h];rfl
   have hb:iE .or .u64 (aC up i:Int) (IntKind.u64.wrap (1*2^min i 64))=((aC up i ||| 2^i:Nat):Int):=by rw[CA (by omega),jm hwl (py (by omega))]
   simp(maxDischargeDepth:=12) (maxSteps:=1000000) -implicitDefEqProofs only[go_sem,Nat.reduceAdd,Nat.reduceSub,Nat.reduceMul,Nat.reduceLeDiff,Nat.reduceEqDiff,Nat.reduceGT,Nat.reduceBEq,reduceCtorEq,↓reduceIte,Int.reduceToNat,Int.reduceLE,Int.reduceLT,Int.reduceNe,Int.reduceEq,hlo,hb];have hmn:min i (bf up).length=i:=by rw[ah];omega
   refine⟨hmn,by omega,by omega,h,⟨?_,ax (by omega)⟩,?_⟩
   ·rw[hmn];exact .refl _
   ·rw[ho,R8];exact .refl _
  ·have e:i=up.length:=by omega
   subst e;rw[RN (by rw[ah];exact Ro _)];refine bw [] up.length [3,26,27] (fun c=>[(27,dI c)]) (fun c=>⟨S.box,(l.n,.arr 1 (nD (bE up c)))::S.acc⟩) (fun _=>True) mx (by kernel_rfl) ?_ ?_
   ·simp(maxDischargeDepth:=12) (maxSteps:=1000000) -implicitDefEqProofs only[go_sem,Nat.reduceAdd,Nat.reduceSub,Nat.reduceMul,Nat.reduceLeDiff,Nat.reduceEqDiff,Nat.reduceGT,Nat.reduceBEq,reduceCtorEq,↓reduceIte,Int.reduceToNat,Int.reduceLE,Int.reduceLT,Int.reduceNe,Int.reduceEq];exact .refl _
   ·intro c hc _;simp(maxDischargeDepth:=12) (maxSteps:=1000000) -implicitDefEqProofs only[go_sem,Nat.reduceAdd,Nat.reduceSub,Nat.reduceMul,Nat.reduceLeDiff,Nat.reduceEqDiff,Nat.reduceGT,Nat.reduceBEq,reduceCtorEq,↓reduceIte,Int.reduceToNat,Int.reduceLE,Int.reduceLT,Int.reduceNe,Int.reduceEq];refine⟨fun hlt=>?_,fun hge=>?_⟩
    ·refine bw [] up.length [3,5,26,27,31,32] (fun a=>[(32,dI a)]) (fun a=>⟨S.box,(l.n,.arr 1 (nD (dJ c (bE up c) a)))::S.acc⟩) (fun _=>True) mx (by kernel_rfl) ?_ ?_
     ·simp(maxDischargeDepth:=12) (maxSteps:=1000000) -implicitDefEqProofs only[go_sem,Nat.reduceAdd,Nat.reduceSub,Nat.reduceMul,Nat.reduceLeDiff,Nat.reduceEqDiff,Nat.reduceGT,Nat.reduceBEq,reduceCtorEq,↓reduceIte,Int.reduceToNat,Int.reduceLE,Int.reduceLT,Int.reduceNe,Int.reduceEq];exact .refl _
     ·intro a ha _;have hrl:(dJ c (bE up c) a).length=up.length:=by rw[jX,dp]
      simp(maxDischargeDepth:=12) (maxSteps:=1000000) -implicitDefEqProofs only[go_sem,Nat.reduceAdd,Nat.reduceSub,Nat.reduceMul,Nat.reduceLeDiff,Nat.reduceEqDiff,Nat.reduceGT,Nat.reduceBEq,reduceCtorEq,↓reduceIte,Int.reduceToNat,Int.reduceLE,Int.reduceLT,Int.reduceNe,Int.reduceEq,hrl];have hrb:∀x,x∈dJ c (bE up c) a→x<18446744073709551616:=fun x hx=>nY hl (rj (xJ c) a x hx);have hst:=fT c (bE up c) a;refine⟨fun h2=>⟨h2,h2,fun x hx=>?_⟩,fun h2=>?_⟩
      ·have hxb:=hrb x (Rj hx)
       have hb:(iE .and .u64 ((x:Int).fdiv (2^min c 64)) 1=1)↔bt (dJ c (bE up c) a) a c=true:=by
        rw[gG hx,←JJ hxb (by omega),decide_eq_true_eq]
       unfold kJ at hst;refine⟨fun q=>⟨h2,h2,fun y hy=>⟨hlt,hlt,fun z hz=>⟨h2,h2,fun _ _=>⟨h2,ax (by omega),?_⟩⟩⟩⟩,fun q=>⟨h2,ax (by omega),?_⟩⟩
       ·rw[if_pos (hb.1 q),Rl,hy,Rl,hz]at hst;rw[hst,jm (hrb y (Rj hy)) (hrb z (Rj hz)),List.map_set];exact .refl _
       ·rw[if_neg (fun g=>q (hb.2 g))]at hst;rw[hst];exact .refl _
      ·have e:a=up.length:=by omega
       subst e;refine⟨hlt,ax (by omega),?_⟩;rw[gi];exact .refl _
    ·have e:c=up.length:=by omega
     subst e;exact⟨dp up _,.refl _⟩
theorem JY(w0:W0)(up:List Nat)(hu:dD up)(hl:up.length≤64)(S:St):ab Tryz.prog w0 28 [eH up] S (fun d S'=>d=eH (aV up)∧S'=S):=by
 have hm8:maxLen=9223372036854775807:=rfl;refine cR [] mx Tryz.func28 rfl rfl (by kernel_rfl) ?_;simp(maxDischargeDepth:=12) (maxSteps:=1000000) -implicitDefEqProofs only[Tryz.ntmps28,go_sem,Nat.reduceAdd,Nat.reduceSub,Nat.reduceMul,Nat.reduceLeDiff,Nat.reduceEqDiff,Nat.reduceGT,Nat.reduceBEq,reduceCtorEq,↓reduceIte,Int.reduceToNat,Int.reduceLE,Int.reduceLT,Int.reduceNe,Int.reduceEq];refine⟨fun h=>by omega,fun _=>⟨by omega,by omega,fun l=>?_⟩⟩
 have hz:(List.replicate up.length (DV.v (.int .u64 0)))=nD (fL up 0 0):=by
  unfold nD;rw[AR,List.map_replicate];rfl
 rw[hz];refine bw [] up.length [0,3,4] (fun a=>[(4,dI a)]) (fun a=>⟨S.box,(l.n,.arr 1 (nD (fL up a 0)))::S.acc⟩) (fun _=>True) mx (by kernel_rfl) ?_ ?_
 ·simp(maxDischargeDepth:=12) (maxSteps:=1000000) -implicitDefEqProofs only[go_sem,Nat.reduceAdd,Nat.reduceSub,Nat.reduceMul,Nat.reduceLeDiff,Nat.reduceEqDiff,Nat.reduceGT,Nat.reduceBEq,reduceCtorEq,↓reduceIte,Int.reduceToNat,Int.reduceLE,Int.reduceLT,Int.reduceNe,Int.reduceEq]
 ·intro a ha _;simp(maxDischargeDepth:=12) (maxSteps:=1000000) -implicitDefEqProofs only[go_sem,Nat.reduceAdd,Nat.reduceSub,Nat.reduceMul,Nat.reduceLeDiff,Nat.reduceEqDiff,Nat.reduceGT,Nat.reduceBEq,reduceCtorEq,↓reduceIte,Int.reduceToNat,Int.reduceLE,Int.reduceLT,Int.reduceNe,Int.reduceEq];refine⟨fun hla=>?_,fun hge=>?_⟩
  ·refine bw [] up.length [0,3,4,5] (fun b=>[(5,dI b)]) (fun b=>⟨S.box,(l.n,.arr 1 (nD (fL up a b)))::S.acc⟩) (fun _=>True) mx (by kernel_rfl) ?_ ?_
   ·simp(maxDischargeDepth:=12) (maxSteps:=1000000) -implicitDefEqProofs only[go_sem,Nat.reduceAdd,Nat.reduceSub,Nat.reduceMul,Nat.reduceLeDiff,Nat.reduceEqDiff,Nat.reduceGT,Nat.reduceBEq,reduceCtorEq,↓reduceIte,Int.reduceToNat,Int.reduceLE,Int.reduceLT,Int.reduceNe,Int.reduceEq]
   ·intro b hb _;have hol:(fL up a b).length=up.length:=iP up a b;simp(maxDischargeDepth:=12) (maxSteps:=1000000) -implicitDefEqProofs only[go_sem,Nat.reduceAdd,Nat.reduceSub,Nat.reduceMul,Nat.reduceLeDiff,Nat.reduceEqDiff,Nat.reduceGT,Nat.reduceBEq,reduceCtorEq,↓reduceIte,Int.reduceToNat,Int.reduceLE,Int.reduceLT,Int.reduceNe,Int.reduceEq,hol];refine⟨fun hlb=>?_,fun hge=>?_⟩
    ·have hst:=A6 hla hlb;have hat:=tr (b:=b) hla
     have hm:(aC up a ||| 2^a)%2^b+2^b<18446744073709551616:=by
      have h1:=Nat.mod_lt (aC up a ||| 2^a) (SG b);have h2:=py (show b<64 by omega);have h3:2^(b+1)=2*2^b:=by rw[SK];omega
      have h4:2^(b+1)≤2^64:=SV (by omega) (by omega);omega
     have hw1:∀x:Nat,(fL up a b)[a]? =some x→IntKind.u64.wrap ((x:Int)+((2^b:Nat):Int))=((x+2^b:Nat):Int):=fun x hx=>by
      rw[hat]at hx;cases hx;rw[←wN hm];push_cast;rfl
     refine⟨fun e=>⟨hla,hla,fun x hx=>dL (Cu _ b (by omega) _) ?_⟩,fun e=>⟨hla,fun y hy=>aq (pA _ y b (hu.at_ hy) (by omega) _) ?_⟩⟩
     ·rw[if_pos (.inl e)]at hst;rw[hst];rw[hat]at hx;cases hx;simp(maxDischargeDepth:=12) (maxSteps:=1000000) -implicitDefEqProofs only[go_sem,Nat.reduceAdd,Nat.reduceSub,Nat.reduceMul,Nat.reduceLeDiff,Nat.reduceEqDiff,Nat.reduceGT,Nat.reduceBEq,reduceCtorEq,↓reduceIte,Int.reduceToNat,Int.reduceLE,Int.reduceLT,Int.reduceNe,Int.reduceEq,hol,hw1 _ hat];refine⟨hla,hla,fun _ _=>⟨hlb,ax (by omega),?_⟩⟩;rw[List.map_set];exact .refl _
     ·simp(maxDischargeDepth:=12) (maxSteps:=1000000) -implicitDefEqProofs only[go_sem,Nat.reduceAdd,Nat.reduceSub,Nat.reduceMul,Nat.reduceLeDiff,Nat.reduceEqDiff,Nat.reduceGT,Nat.reduceBEq,reduceCtorEq,↓reduceIte,Int.reduceToNat,Int.reduceLE,Int.reduceLT,Int.reduceNe,Int.reduceEq,hol];rw[gG hy]at hst;refine⟨fun q=>⟨hla,hla,fun x hx=>dL (Cu _ b (by omega) _) ?_⟩,fun q=>⟨hlb,ax (by omega),?_⟩⟩
      ·rw[if_pos (.inr q)]at hst;rw[hst];rw[hat]at hx;cases hx;simp(maxDischargeDepth:=12) (maxSteps:=1000000) -implicitDefEqProofs only[go_sem,Nat.reduceAdd,Nat.reduceSub,Nat.reduceMul,Nat.reduceLeDiff,Nat.reduceEqDiff,Nat.reduceGT,Nat.reduceBEq,reduceCtorEq,↓reduceIte,Int.reduceToNat,Int.reduceLE,Int.reduceLT,Int.reduceNe,Int.reduceEq,hol,hw1 _ hat];refine⟨hla,hla,fun _ _=>⟨hlb,ax (by omega),?_⟩⟩;rw[List.map_set];exact .refl _
      ·rw[if_neg (by rintro(g|g);exact e g;rw[q]at g;cases g)]at hst;rw[hst];exact .refl _
    ·have e:b=up.length:=by omega
     subst e;refine⟨hla,ax (by omega),?_⟩;rw[Em hla];exact .refl _
  ·have e:a=up.length:=by omega
   subst e;rw[Bo];refine bS [] [0,3,6] (σ:=List Nat×Bool) (fun s=>[(6,dB s.2)]) (fun s=>⟨S.box,(l.n,.arr 1 (nD s.1))::S.acc⟩) (fun s=>Jo up s.1∧(s.2=false→s.1=aV up)) (fun s=>2*zg up.length s.1+s.2.toNat) (bf up,true) mx (by kernel_rfl) ⟨⟨HQ up,fun h=>by cases h⟩,?_⟩ ?_
   ·simp(maxDischargeDepth:=12) (maxSteps:=1000000) -implicitDefEqProofs only[go_sem,Nat.reduceAdd,Nat.reduceSub,Nat.reduceMul,Nat.reduceLeDiff,Nat.reduceEqDiff,Nat.reduceGT,Nat.reduceBEq,reduceCtorEq,↓reduceIte,Int.reduceToNat,Int.reduceLE,Int.reduceLT,Int.reduceNe,Int.reduceEq]
   ·rintro⟨o,f⟩ ⟨hj,hf⟩;dsimp only at hj hf;have hol:=hj.len;simp(maxDischargeDepth:=12) (maxSteps:=1000000) -implicitDefEqProofs only[go_sem,Nat.reduceAdd,Nat.reduceSub,Nat.reduceMul,Nat.reduceLeDiff,Nat.reduceEqDiff,Nat.reduceGT,Nat.reduceBEq,reduceCtorEq,↓reduceIte,Int.reduceToNat,Int.reduceLE,Int.reduceLT,Int.reduceNe,Int.reduceEq,hol];refine⟨fun q=>?_,fun q=>?_⟩
    rotate_left
    ·rw[hf q];exact .refl _
    refine bS [] [0,3,6,7] (σ:=List Nat×Bool×Nat) (fun s=>[(6,dB s.2.1),(7,dI s.2.2)]) (fun s=>⟨S.box,(l.n,.arr 1 (nD s.1))::S.acc⟩) (fun s=>Jo up s.1∧s.2.2≤up.length∧(s.2.1=true→zg up.length s.1<zg up.length o)∧(s.2.1=false→s.1=o∧∀a b c,a<s.2.2→b<up.length→c<up.length→Ck o a b c)) (fun s=>up.length-s.2.2) (o,false,0) mx (by kernel_rfl) ⟨⟨hj,RL _,fun h=>(by cases h),fun _=>⟨rfl,fun a b c ha=>absurd ha (Nat.not_lt_zero _)⟩⟩,?_⟩ ?_
    ·simp(maxDischargeDepth:=12) (maxSteps:=1000000) -implicitDefEqProofs only[go_sem,Nat.reduceAdd,Nat.reduceSub,Nat.reduceMul,Nat.reduceLeDiff,Nat.reduceEqDiff,Nat.reduceGT,Nat.reduceBEq,reduceCtorEq,↓reduceIte,Int.reduceToNat,Int.reduceLE,Int.reduceLT,Int.reduceNe,Int.reduceEq]
    ·rintro⟨o1,f1,a⟩ ⟨hj1,ha,ht1,hf1⟩;dsimp only at hj1 ha ht1 hf1;have hol1:=hj1.len;simp(maxDischargeDepth:=12) (maxSteps:=1000000) -implicitDefEqProofs only[go_sem,Nat.reduceAdd,Nat.reduceSub,Nat.reduceMul,Nat.reduceLeDiff,Nat.reduceEqDiff,Nat.reduceGT,Nat.reduceBEq,reduceCtorEq,↓reduceIte,Int.reduceToNat,Int.reduceLE,Int.reduceLT,Int.reduceNe,Int.reduceEq,hol1];refine⟨fun hla=>?_,fun hge=>?_⟩
     ·refine bS [] [0,3,6,7,8] (σ:=List Nat×Bool×Nat) (fun s=>[(6,dB s.2.1),(8,dI s.2.2)]) (fun s=>⟨S.box,(l.n,.arr 1 (nD s.1))::S.acc⟩) (fun s=>Jo up s.1∧s.2.2≤up.length∧(s.2.1=true→zg up.length s.1<zg up.length o)∧(s.2.1=false→s.1=o∧(∀a' b c,a'<a→b<up.length→c<up.length→Ck o a' b c)∧∀b c,b<s.2.2→c<up.length→Ck o a b c)) (fun s=>up.length-s.2.2) (o1,f1,0) mx (by kernel_rfl) ⟨⟨hj1,RL _,ht1,fun h=>⟨(hf1 h).1,(hf1 h).2,fun b c hb=>absurd hb (Nat.not_lt_zero _)⟩⟩,?_⟩ ?_
      ·simp(maxDischargeDepth:=12) (maxSteps:=1000000) -implicitDefEqProofs only[go_sem,Nat.reduceAdd,Nat.reduceSub,Nat.reduceMul,Nat.reduceLeDiff,Nat.reduceEqDiff,Nat.reduceGT,Nat.reduceBEq,reduceCtorEq,↓reduceIte,Int.reduceToNat,Int.reduceLE,Int.reduceLT,Int.reduceNe,Int.reduceEq]
      ·rintro⟨o2,f2,b⟩ ⟨hj2,hb,ht2,hf2⟩;dsimp only at hj2 hb ht2 hf2;have hol2:=hj2.len;simp(maxDischargeDepth:=12) (maxSteps:=1000000) -implicitDefEqProofs only[go_sem,Nat.reduceAdd,Nat.reduceSub,Nat.reduceMul,Nat.reduceLeDiff,Nat.reduceEqDiff,Nat.reduceGT,Nat.reduceBEq,reduceCtorEq,↓reduceIte,Int.reduceToNat,Int.reduceLE,Int.reduceLT,Int.reduceNe,Int.reduceEq,hol2];refine⟨fun hlb=>?_,fun hge=>?_⟩
       ·refine bS [] [0,3,6,7,8,9] (σ:=List Nat×Bool×Nat) (fun s=>[(6,dB s.2.1),(9,dI s.2.2)]) (fun s=>⟨S.box,(l.n,.arr 1 (nD s.1))::S.acc⟩) (fun s=>Jo up s.1∧s.2.2≤up.length∧(s.2.1=true→zg up.length s.1<zg up.length o)∧(s.2.1=false→s.1=o∧(∀a' b c,a'<a→b<up.length→c<up.length→Ck o a' b c)∧(∀b' c,b'<b→c<up.length→Ck o a b' c)∧∀c,c<s.2.2→Ck o a b c)) (fun s=>up.length-s.2.2) (o2,f2,0) mx (by kernel_rfl) ⟨⟨hj2,RL _,ht2,fun h=>⟨(hf2 h).1,(hf2 h).2.1,(hf2 h).2.2,fun c hc=>absurd hc (Nat.not_lt_zero _)⟩⟩,?_⟩ ?_
        ·simp(maxDischargeDepth:=12) (maxSteps:=1000000) -implicitDefEqProofs only[go_sem,Nat.reduceAdd,Nat.reduceSub,Nat.reduceMul,Nat.reduceLeDiff,Nat.reduceEqDiff,Nat.reduceGT,Nat.reduceBEq,reduceCtorEq,↓reduceIte,Int.reduceToNat,Int.reduceLE,Int.reduceLT,Int.reduceNe,Int.reduceEq]
        ·rintro⟨o3,f3,c⟩ ⟨hj3,hc,ht3,hf3⟩;dsimp only at hj3 hc ht3 hf3;have hol3:=hj3.len;have hsz:∀(i x:Nat),o3[i]? =some x→x<18446744073709551616:=fun i x hx=>nY hl (hj3.lt x (Rj hx))
         have stay:c<up.length→(f3=false→Ck o a b c)→(Jo up o3∧c+1≤up.length∧(f3=true→zg up.length o3<zg up.length o)∧(f3=false→o3=o∧(∀a' b c,a'<a→b<up.length→c<up.length→Ck o a' b c)∧(∀b' c,b'<b→c<up.length→Ck o a b' c)∧∀c',c'<c+1→Ck o a b c')):=fun hlc hck=>by
          refine⟨hj3,hlc,ht3,fun g=>?_⟩;obtain⟨g1,g2,g3,g4⟩:=hf3 g;refine⟨g1,g2,g3,fun c' hc'=>?_⟩;by_cases e:c'=c
          ·subst e;exact hck g
          ·exact g4 c' (by omega)
         simp(maxDischargeDepth:=12) (maxSteps:=1000000) -implicitDefEqProofs only[go_sem,Nat.reduceAdd,Nat.reduceSub,Nat.reduceMul,Nat.reduceLeDiff,Nat.reduceEqDiff,Nat.reduceGT,Nat.reduceBEq,reduceCtorEq,↓reduceIte,Int.reduceToNat,Int.reduceLE,Int.reduceLT,Int.reduceNe,Int.reduceEq,hol3];refine⟨fun hlc=>⟨hla,hla,fun x hx=>aq (pA _ x b (hsz _ _ hx) (by omega) _) ?_⟩,fun hge=>?_⟩
         rotate_left
         ·have e:c=up.length:=by omega
          subst e;refine⟨(o3,f3,b+1),⟨hj3,hlb,ht3,fun g=>?_⟩,by show up.length-(b+1)<_;omega,⟨rfl,ax (by omega)⟩,.refl _⟩;obtain⟨g1,g2,g3,g4⟩:=hf3 g;refine⟨g1,g2,fun b' c hb' hc'=>?_⟩;by_cases e:b'=b
          ·subst e;exact g4 c hc'
          ·exact g3 b' c (by show b'<b;have:b'<b+1:=hb';omega) hc'
         simp(maxDischargeDepth:=12) (maxSteps:=1000000) -implicitDefEqProofs only[go_sem,Nat.reduceAdd,Nat.reduceSub,Nat.reduceMul,Nat.reduceLeDiff,Nat.reduceEqDiff,Nat.reduceGT,Nat.reduceBEq,reduceCtorEq,↓reduceIte,Int.reduceToNat,Int.reduceLE,Int.reduceLT,Int.reduceNe,Int.reduceEq,hol3];have hbx:=gG (b:=b) hx;refine⟨fun q1=>⟨hlb,hlb,fun y hy=>aq (pA _ y c (hsz _ _ hy) (by omega) _) ?_⟩,fun q1=>⟨(o3,f3,c+1),stay hlc fun g=>?_,by show up.length-(c+1)<_;omega,⟨rfl,ax (by omega)⟩,.refl _⟩⟩
         rotate_left
         ·intro g1;rw[←(hf3 g).1,hbx,q1]at g1;cases g1
         simp(maxDischargeDepth:=12) (maxSteps:=1000000) -implicitDefEqProofs only[go_sem,Nat.reduceAdd,Nat.reduceSub,Nat.reduceMul,Nat.reduceLeDiff,Nat.reduceEqDiff,Nat.reduceGT,Nat.reduceBEq,reduceCtorEq,↓reduceIte,Int.reduceToNat,Int.reduceLE,Int.reduceLT,Int.reduceNe,Int.reduceEq,hol3];have hby:=gG (b:=c) hy;refine⟨fun q2=>⟨hla,hla,fun z hz=>aq (pA _ z c (hsz _ _ hz) (by omega) _) ?_⟩,fun q2=>⟨(o3,f3,c+1),stay hlc fun g=>?_,by show up.length-(c+1)<_;omega,⟨rfl,ax (by omega)⟩,.refl _⟩⟩
         rotate_left
         ·intro _ g1;rw[←(hf3 g).1,hby,q2]at g1;cases g1
         simp(maxDischargeDepth:=12) (maxSteps:=1000000) -implicitDefEqProofs only[go_sem,Nat.reduceAdd,Nat.reduceSub,Nat.reduceMul,Nat.reduceLeDiff,Nat.reduceEqDiff,Nat.reduceGT,Nat.reduceBEq,reduceCtorEq,↓reduceIte,Int.reduceToNat,Int.reduceLE,Int.reduceLT,Int.reduceNe,Int.reduceEq,hol3];have hbz:=gG (b:=c) hz;refine⟨fun q3=>⟨(o3,f3,c+1),stay hlc fun g _ _=>by rw[←(hf3 g).1,hbz,q3],by show up.length-(c+1)<_;omega,⟨rfl,ax (by omega)⟩,.refl _⟩,fun q3=>⟨hla,hla,fun z' hz'=>dL (Cu _ c (by omega) _) ?_⟩⟩;rw[hz]at hz';cases hz';have hn:bt o3 a c=false:=by rw[hbz];exact q3
         have hj4:=Ig hj3 hz hlc (by rw[hbx];exact q1) (by rw[hby];exact q2);have hg:=D2 hj3 hz hlc hn hj4;have hor:=po (x:=z) (k:=c) q3
         have hww:IntKind.u64.wrap ((z:Int)+((2^c:Nat):Int))=((z ||| 2^c:Nat):Int):=by
          have h1:=nY hl (nU (hj3.lt z (Rj hz)) (fQ hlc));rw[←wN h1,hor];push_cast;rfl
         simp(maxDischargeDepth:=12) (maxSteps:=1000000) -implicitDefEqProofs only[go_sem,Nat.reduceAdd,Nat.reduceSub,Nat.reduceMul,Nat.reduceLeDiff,Nat.reduceEqDiff,Nat.reduceGT,Nat.reduceBEq,reduceCtorEq,↓reduceIte,Int.reduceToNat,Int.reduceLE,Int.reduceLT,Int.reduceNe,Int.reduceEq,hol3,hww];refine⟨hla,hla,fun _ _=>⟨(o3.set a (z ||| 2^c),true,c+1),⟨hj4,hlc,fun _=>?_,fun g=>by cases g⟩,by show up.length-(c+1)<_;omega,⟨rfl,ax (by omega)⟩,?_⟩⟩
         ·cases h3:f3 with
          |true=>exact Nat.lt_trans hg (ht3 h3)
          |false=>rw[←(hf3 h3).1];exact hg
         ·show Aml.Sub ⟨S.box,(l.n,.arr 1 ((o3.set a (z ||| 2^c)).map _))::S.acc⟩ _;rw[List.map_set];exact .refl _
       ·have e:b=up.length:=by omega
        subst e;refine⟨(o2,f2,a+1),⟨hj2,hla,ht2,fun g=>?_⟩,by show up.length-(a+1)<_;omega,⟨rfl,ax (by omega)⟩,.refl _⟩;obtain⟨g1,g2,g3⟩:=hf2 g;refine⟨g1,fun a' b c ha' hb' hc'=>?_⟩;by_cases e:a'=a
        ·subst e;exact g3 b c hb' hc'
        ·exact g2 a' b c (by have:a'<a+1:=ha';omega) hb' hc'
     ·have e:a=up.length:=by omega
      subst e;have hb1:f1.toNat≤1:=by cases f1 <;>simp
      refine⟨(o1,f1),⟨hj1,fun g=>?_⟩,?_,rfl,.refl _⟩
      ·obtain⟨g1,g2⟩:=hf1 g;show o1=_;rw[g1];exact H7 hj fun a b c ha hb hc=>g2 a b c ha hb hc
      ·show 2*zg up.length o1+f1.toNat<2*zg up.length o+f.toNat;rw[q]
       cases h1:f1 with
       |true=>have:=ht1 h1;show _+1<_+1;omega
       |false=>rw[(hf1 h1).1];show _+0<_+1;omega
theorem ON(w0:W0)(up:List Nat)(hu:dD up)(h0:up.length≤4611686018427387904)(S:St):ab Tryz.prog w0 40 [eH up] S (fun d S'=>d=dB (pB (qi up))∧S'=S):=by
 refine cR [] mx Tryz.func40 rfl rfl (by kernel_rfl) ?_;simp(maxDischargeDepth:=12) (maxSteps:=1000000) -implicitDefEqProofs only[Tryz.ntmps40,go_sem,Nat.reduceAdd,Nat.reduceSub,Nat.reduceMul,Nat.reduceLeDiff,Nat.reduceEqDiff,Nat.reduceGT,Nat.reduceBEq,reduceCtorEq,↓reduceIte,Int.reduceToNat,Int.reduceLE,Int.reduceLT,Int.reduceNe,Int.reduceEq];refine⟨fun h hp=>?_,fun h=>⟨fun h' hp=>?_,fun h'=>?_⟩⟩
 ·have:=hp.pos;omega
 ·have:=hp.le;omega
 have hl:up.length≤64:=by omega
 have hpos:1≤up.length:=by omega
 have hiff:=EF (up:=up) (fun x hx=>hu x hx) hpos hl;rw[hiff];refine bw [] up.length [0,3] (fun a=>[(3,dI a)]) (fun _=>S) (fun a=>∀a',a'<a→∀b,b<64→uy up a' b) mx (by kernel_rfl) ?_ ?_
 ·simp(maxDischargeDepth:=12) (maxSteps:=1000000) -implicitDefEqProofs only[go_sem,Nat.reduceAdd,Nat.reduceSub,Nat.reduceMul,Nat.reduceLeDiff,Nat.reduceEqDiff,Nat.reduceGT,Nat.reduceBEq,reduceCtorEq,↓reduceIte,Int.reduceToNat,Int.reduceLE,Int.reduceLT,Int.reduceNe,Int.reduceEq];intro a' ha';omega
 ·intro a ha hA;simp(maxDischargeDepth:=12) (maxSteps:=1000000) -implicitDefEqProofs only[go_sem,Nat.reduceAdd,Nat.reduceSub,Nat.reduceMul,Nat.reduceLeDiff,Nat.reduceEqDiff,Nat.reduceGT,Nat.reduceBEq,reduceCtorEq,↓reduceIte,Int.reduceToNat,Int.reduceLE,Int.reduceLT,Int.reduceNe,Int.reduceEq];refine⟨fun hla=>?_,fun hge=>?_⟩
  ·have A3:∀b:Nat,((bt up a b=true∧up.length≤b)∨(a=b∧bt up a b=false)∨(bt up a b=true∧a≠b∧bt up b a=true))→¬uy up a b:=by
    rintro b (⟨q1,q2⟩|⟨q1,q2⟩|⟨q1,q2,q3⟩) h
    ·have:=h.lt q1;omega
    ·rw[h.refl q1]at q2;cases q2
    ·rw[h.Ej q1 q2]at q3;cases q3
   refine bw [10] 64 [0,3,4] (fun b=>[(4,dI b)]) (fun _=>S) (fun b=>∀b',b'<b→uy up a b') mx (by kernel_rfl) ?_ ?_
   ·simp(maxDischargeDepth:=12) (maxSteps:=1000000) -implicitDefEqProofs only[go_sem,Nat.reduceAdd,Nat.reduceSub,Nat.reduceMul,Nat.reduceLeDiff,Nat.reduceEqDiff,Nat.reduceGT,Nat.reduceBEq,reduceCtorEq,↓reduceIte,Int.reduceToNat,Int.reduceLE,Int.reduceLT,Int.reduceNe,Int.reduceEq];intro b' hb';omega
   ·intro b hb hB;simp(maxDischargeDepth:=12) (maxSteps:=1000000) -implicitDefEqProofs only[go_sem,Nat.reduceAdd,Nat.reduceSub,Nat.reduceMul,Nat.reduceLeDiff,Nat.reduceEqDiff,Nat.reduceGT,Nat.reduceBEq,reduceCtorEq,↓reduceIte,Int.reduceToNat,Int.reduceLE,Int.reduceLT,Int.reduceNe,Int.reduceEq];refine⟨fun hlb=>⟨hla,fun x hx=>aq (pA _ x b (hu.at_ hx) (by omega) _) ?_⟩,fun hge=>?_⟩
    ·have hbx:=gG (b:=b) hx;simp(maxDischargeDepth:=12) (maxSteps:=1000000) -implicitDefEqProofs only[go_sem,Nat.reduceAdd,Nat.reduceSub,Nat.reduceMul,Nat.reduceLeDiff,Nat.reduceEqDiff,Nat.reduceGT,Nat.reduceBEq,reduceCtorEq,↓reduceIte,Int.reduceToNat,Int.reduceLE,Int.reduceLT,Int.reduceNe,Int.reduceEq];refine Nn (σ:=Bool) [] [0,3,4,5,65] (fun f=>[(65,dB f)]) (fun _=>S) (fun f=>f=true↔((bt up a b=true∧up.length≤b)∨(a=b∧bt up a b=false)∨(bt up a b=true∧a≠b∧bt up b a=true))) mx (by kernel_rfl) ?_ ?_
     ·rw[hbx]
      cases hto:x.testBit b with
      |true=>
       simp(maxDischargeDepth:=12) (maxSteps:=1000000) -implicitDefEqProofs only[go_sem,Nat.reduceAdd,Nat.reduceSub,Nat.reduceMul,Nat.reduceLeDiff,Nat.reduceEqDiff,Nat.reduceGT,Nat.reduceBEq,reduceCtorEq,↓reduceIte,Int.reduceToNat,Int.reduceLE,Int.reduceLT,Int.reduceNe,Int.reduceEq,hto];have st:∀q:¬up.length≤b,∀e:¬a=b,(∃s:Bool,(s=true↔up.length≤b∨¬a=b∧bt up b a=true)∧bt up b a=s):=fun q e=>⟨bt up b a,⟨fun g=> .inr ⟨e,g⟩,fun g=>g.elim (fun g=>absurd g q) (fun g=>g.2)⟩,rfl⟩;refine⟨fun q=>⟨true,⟨fun _=> .inl q,fun _=>rfl⟩,rfl⟩,fun q=>⟨fun e=>⟨fun ne=>absurd e ne,fun _=>⟨false,⟨fun g=>(by cases g),fun g=>g.elim (fun g=>absurd g q) (fun g=>absurd e g.1)⟩,rfl⟩⟩,fun e=>⟨fun _=>⟨by omega,fun y hy=>aq (pA _ y a (hu.at_ hy) (by omega) _) ?_⟩,fun ne=>absurd e ne⟩⟩⟩;simp(maxDischargeDepth:=12) (maxSteps:=1000000) -implicitDefEqProofs only[go_sem,Nat.reduceAdd,Nat.reduceSub,Nat.reduceMul,Nat.reduceLeDiff,Nat.reduceEqDiff,Nat.reduceGT,Nat.reduceBEq,reduceCtorEq,↓reduceIte,Int.reduceToNat,Int.reduceLE,Int.reduceLT,Int.reduceNe,Int.reduceEq];rw[←gG (b:=a) hy];exact st q e
      |false=>
       simp(maxDischargeDepth:=12) (maxSteps:=1000000) -implicitDefEqProofs only[go_sem,Nat.reduceAdd,Nat.reduceSub,Nat.reduceMul,Nat.reduceLeDiff,Nat.reduceEqDiff,Nat.reduceGT,Nat.reduceBEq,reduceCtorEq,↓reduceIte,Int.reduceToNat,Int.reduceLE,Int.reduceLT,Int.reduceNe,Int.reduceEq,hto];exact⟨fun e=>⟨true,⟨fun _=>e,fun _=>rfl⟩,rfl⟩,fun e=>⟨false,⟨fun g=>(by cases g),fun g=>absurd g e⟩,rfl⟩⟩
     ·intro f hf;simp(maxDischargeDepth:=12) (maxSteps:=1000000) -implicitDefEqProofs only[go_sem,Nat.reduceAdd,Nat.reduceSub,Nat.reduceMul,Nat.reduceLeDiff,Nat.reduceEqDiff,Nat.reduceGT,Nat.reduceBEq,reduceCtorEq,↓reduceIte,Int.reduceToNat,Int.reduceLE,Int.reduceLT,Int.reduceNe,Int.reduceEq];refine⟨fun q hp=>A3 b (hf.1 q) (hp.1 a hla b (by omega)),fun q=>?_⟩;have hno:¬((bt up a b=true∧up.length≤b)∨(a=b∧bt up a b=false)∨(bt up a b=true∧a≠b∧bt up b a=true)):=fun g=>by rw[hf.2 g]at q;cases q
      refine bw [] up.length [0,3,4,5,6] (fun c=>[(6,dI c)]) (fun _=>S) (fun c=>∀c',c'<c→bt up a b=true→bt up b c'=true→bt up a c'=true) mx (by kernel_rfl) ?_ ?_
      ·simp(maxDischargeDepth:=12) (maxSteps:=1000000) -implicitDefEqProofs only[go_sem,Nat.reduceAdd,Nat.reduceSub,Nat.reduceMul,Nat.reduceLeDiff,Nat.reduceEqDiff,Nat.reduceGT,Nat.reduceBEq,reduceCtorEq,↓reduceIte,Int.reduceToNat,Int.reduceLE,Int.reduceLT,Int.reduceNe,Int.reduceEq];intro c hc;omega
      ·intro c hc hC
       have done:(bt up a b=true→∀c',c'<up.length→bt up b c'=true→bt up a c'=true)→((b:Int)<64∧(∀b',b'<b+1→uy up a b')∧IntKind.i64.wrap ((b:Int)+1)=((b+1:Nat):Int)):=fun hq=>by
        refine⟨hlb,fun b' hb'=>?_,ax (by omega)⟩;by_cases e:b'=b
        ·subst e;refine⟨fun g=>?_,fun g=>?_,fun g1 g2=>?_,fun c hc g1 g2=>hq g1 c hc g2⟩
         ·exact Nat.lt_of_not_le fun g2=>hno (.inl ⟨g,g2⟩)
         ·cases h:bt up a b' with
          |true=>rfl
          |false=>exact absurd (.inr (.inl ⟨g,h⟩)) hno
         ·cases h:bt up b' a with
          |false=>rfl
          |true=>exact absurd (.inr (.inr ⟨g1,g2,h⟩)) hno
        ·exact hB b' (by omega)
       rw[hbx]at hC done hno;simp(maxDischargeDepth:=12) (maxSteps:=1000000) -implicitDefEqProofs only[go_sem,Nat.reduceAdd,Nat.reduceSub,Nat.reduceMul,Nat.reduceLeDiff,Nat.reduceEqDiff,Nat.reduceGT,Nat.reduceBEq,reduceCtorEq,↓reduceIte,Int.reduceToNat,Int.reduceLE,Int.reduceLT,Int.reduceNe,Int.reduceEq];refine⟨fun hlc=>⟨fun q5=>⟨?_,fun y hy=>aq (pA _ y c (hu.at_ hy) (by omega) _) ?_⟩,fun q5=>?_⟩,fun hge=>?_⟩
       ·exact Nat.lt_of_not_le fun g2=>hno (.inl ⟨q5,g2⟩)
       ·have hby:=gG (b:=c) hy;simp(maxDischargeDepth:=12) (maxSteps:=1000000) -implicitDefEqProofs only[go_sem,Nat.reduceAdd,Nat.reduceSub,Nat.reduceMul,Nat.reduceLeDiff,Nat.reduceEqDiff,Nat.reduceGT,Nat.reduceBEq,reduceCtorEq,↓reduceIte,Int.reduceToNat,Int.reduceLE,Int.reduceLT,Int.reduceNe,Int.reduceEq];refine⟨fun q6=>⟨hla,fun z hz=>aq (pA _ z c (hu.at_ hz) (by omega) _) ?_⟩,fun q6=>⟨hlc,fun c' hc' g1 g2=>?_,ax (by omega)⟩⟩
        ·have hbz:=gG (b:=c) hz;simp(maxDischargeDepth:=12) (maxSteps:=1000000) -implicitDefEqProofs only[go_sem,Nat.reduceAdd,Nat.reduceSub,Nat.reduceMul,Nat.reduceLeDiff,Nat.reduceEqDiff,Nat.reduceGT,Nat.reduceBEq,reduceCtorEq,↓reduceIte,Int.reduceToNat,Int.reduceLE,Int.reduceLT,Int.reduceNe,Int.reduceEq];refine⟨fun q7=>⟨hlc,fun c' hc' g1 g2=>?_,ax (by omega)⟩,fun q7 hp=>?_⟩
         rotate_left
         ·have:=(hp.1 a hla b (by omega)).trans c hlc (by rw[hbx];exact q5) (by rw[hby];exact q6);rw[hbz,q7]at this;cases this
         ·by_cases e:c'=c
          ·subst e;rw[hbz];exact q7
          ·exact hC c' (by omega) (by rw[←hbx];exact g1) g2
        ·by_cases e:c'=c
         ·subst e;rw[hby,q6]at g2;cases g2
         ·exact hC c' (by omega) (by rw[←hbx];exact g1) g2
       ·have:=done fun g=>by rw[q5]at g;cases g
        exact⟨by omega,this.2⟩
       ·have e:c=up.length:=by omega
        subst e;have:=done fun g c' hc' g2=>hC c' hc' g g2;exact⟨by omega,this.2⟩
    ·have e:b=64:=by omega
     subst e;refine⟨hla,fun a' ha'=>?_,ax (by omega)⟩;by_cases e:a'=a
     ·subst e;exact hB
     ·exact hA a' (by omega)
  ·have e:a=up.length:=by omega
   subst e;refine bw [] up.length [0,8] (fun a=>[(8,dI a)]) (fun _=>S) (fun a=>∀a',a'<a→∀b,b<a'→oB up a' b) mx (by kernel_rfl) ?_ ?_
   ·simp(maxDischargeDepth:=12) (maxSteps:=1000000) -implicitDefEqProofs only[go_sem,Nat.reduceAdd,Nat.reduceSub,Nat.reduceMul,Nat.reduceLeDiff,Nat.reduceEqDiff,Nat.reduceGT,Nat.reduceBEq,reduceCtorEq,↓reduceIte,Int.reduceToNat,Int.reduceLE,Int.reduceLT,Int.reduceNe,Int.reduceEq];intro a' ha';omega
   ·intro a ha3 hP;simp(maxDischargeDepth:=12) (maxSteps:=1000000) -implicitDefEqProofs only[go_sem,Nat.reduceAdd,Nat.reduceSub,Nat.reduceMul,Nat.reduceLeDiff,Nat.reduceEqDiff,Nat.reduceGT,Nat.reduceBEq,reduceCtorEq,↓reduceIte,Int.reduceToNat,Int.reduceLE,Int.reduceLT,Int.reduceNe,Int.reduceEq];refine⟨fun hla=>?_,fun hge=>?_⟩
    ·refine bw [] a [0,8,9] (fun b=>[(9,dI b)]) (fun _=>S) (fun b=>∀b',b'<b→oB up a b') mx (by kernel_rfl) ?_ ?_
     ·simp(maxDischargeDepth:=12) (maxSteps:=1000000) -implicitDefEqProofs only[go_sem,Nat.reduceAdd,Nat.reduceSub,Nat.reduceMul,Nat.reduceLeDiff,Nat.reduceEqDiff,Nat.reduceGT,Nat.reduceBEq,reduceCtorEq,↓reduceIte,Int.reduceToNat,Int.reduceLE,Int.reduceLT,Int.reduceNe,Int.reduceEq];intro b' hb';omega
     ·intro b hb hB;simp(maxDischargeDepth:=12) (maxSteps:=1000000) -implicitDefEqProofs only[go_sem,Nat.reduceAdd,Nat.reduceSub,Nat.reduceMul,Nat.reduceLeDiff,Nat.reduceEqDiff,Nat.reduceGT,Nat.reduceBEq,reduceCtorEq,↓reduceIte,Int.reduceToNat,Int.reduceLE,Int.reduceLT,Int.reduceNe,Int.reduceEq];refine⟨fun hlb=>aq (JG _ up hu hl a b _) ?_,fun hge=>?_⟩
      ·simp(maxDischargeDepth:=12) (maxSteps:=1000000) -implicitDefEqProofs only[go_sem,Nat.reduceAdd,Nat.reduceSub,Nat.reduceMul,Nat.reduceLeDiff,Nat.reduceEqDiff,Nat.reduceGT,Nat.reduceBEq,reduceCtorEq,↓reduceIte,Int.reduceToNat,Int.reduceLE,Int.reduceLT,Int.reduceNe,Int.reduceEq];refine⟨fun q hp=>?_,fun q=>aq (M7 _ up hu hl a b _) ?_⟩
       ·exact(rT.1 q) (hp.2 a hla b hlb).1
       ·simp(maxDischargeDepth:=12) (maxSteps:=1000000) -implicitDefEqProofs only[go_sem,Nat.reduceAdd,Nat.reduceSub,Nat.reduceMul,Nat.reduceLeDiff,Nat.reduceEqDiff,Nat.reduceGT,Nat.reduceBEq,reduceCtorEq,↓reduceIte,Int.reduceToNat,Int.reduceLE,Int.reduceLT,Int.reduceNe,Int.reduceEq];refine⟨fun q2 hp=>?_,fun q2=>⟨hlb,fun b' hb'=>?_,ax (by omega)⟩⟩
        ·exact(rT.1 q2) (hp.2 a hla b hlb).2
        ·by_cases e:b'=b
         ·subst e;exact⟨RH.1 fun g=>q (rT.2 g),RH.1 fun g=>q2 (rT.2 g)⟩
         ·exact hB b' (by omega)
      ·have e:b=a:=by omega
       subst e;refine⟨hla,fun a' ha'=>?_,ax (by omega)⟩;by_cases e:a'=b
       ·subst e;exact hB
       ·exact hP a' (by omega)
    ·have e:a=up.length:=by omega
     subst e;exact⟨hA,hP⟩
def Mi:List Int:=[0,1,56,2,57,49,28,3,61,58,42,50,38,29,17,4,62,47,59,36,45,43,51,22,53,39,33,30,24,18,12,5,63,55,48,27,60,41,37,16,46,35,44,21,52,32,23,11,54,26,40,15,34,20,31,10,25,14,19,9,13,8,7,6]
def Mp:List Value:=Mi.map fun z=> .int .u8 z
def cV(w0:W0):Prop:=s8 w0 2 Mp
def Jq(k:Nat):Int:=(IntKind.u64.wrap (((2^k:Nat):Int)*285870213051353865)).fdiv (2^min 58 64)
theorem Jy:∀k:Fin 64,0≤Jq k.val∧Jq k.val<64∧Mi[(Jq k.val).toNat]? =some (k.val:Int):=by decide +kernel
theorem ND(k:Nat)(hk:k<64):Mp.drop ((Jq k).toNat*1)= .int .u8 (k:Int)::Mp.drop ((Jq k).toNat+1):=by
 obtain⟨h1,h2,h3⟩:=Jy ⟨k,hk⟩;dsimp only at h1 h2 h3;rw[Tb];obtain⟨hlt,hv⟩:=Rp.1 h3;have hd:Mi.drop (Jq k).toNat=(k:Int)::Mi.drop ((Jq k).toNat+1):=by rw[List.drop_eq_getElem_cons hlt,hv]
 unfold Mp;rw[←List.map_drop,hd,Rz,List.map_drop]
theorem Qw(w0:W0)(hg:cV w0)(x k:Nat)(hx:x<18446744073709551616)(hk:k<64)(h:o4 x k)(S:St):ab Tryz.prog w0 115 [dU (x:Int)] S (fun d S'=>d=dI (k:Int)∧S'=S):=by
 have hG:=D1 hg;have hne:x≠0:=by rintro rfl;have:=h.1;simp at this
 have hb:iE .and .u64 (x:Int) (IntKind.u64.wrap (0-(x:Int)))=((2^k:Nat):Int):=by
  have e:IntKind.u64.wrap (0-(x:Int))=((18446744073709551616-x:Nat):Int):=by
   show(0-(x:Int))%18446744073709551616=_;omega
  rw[e,ee hx (by omega),H8 h hk hx]
 obtain⟨h1,h2,_⟩:=Jy ⟨k,hk⟩;have h4:=ND k hk;unfold Jq at h1 h2 h4;dsimp only at h1 h2;refine cR [] mx Tryz.func115 rfl rfl (by kernel_rfl) ?_;simp(maxDischargeDepth:=12) (maxSteps:=1000000) -implicitDefEqProofs only[Tryz.ntmps115,go_sem,Nat.reduceAdd,Nat.reduceSub,Nat.reduceMul,Nat.reduceLeDiff,Nat.reduceEqDiff,Nat.reduceGT,Nat.reduceBEq,reduceCtorEq,↓reduceIte,Int.reduceToNat,Int.reduceLE,Int.reduceLT,Int.reduceNe,Int.reduceEq,hG,hb];refine⟨fun q=>by omega,fun _=>⟨h1,h2,?_,?_⟩⟩
 ·show _≤64;omega
 ·rw[h4];simp(maxDischargeDepth:=12) (maxSteps:=1000000) -implicitDefEqProofs only[go_sem,Nat.reduceAdd,Nat.reduceSub,Nat.reduceMul,Nat.reduceLeDiff,Nat.reduceEqDiff,Nat.reduceGT,Nat.reduceBEq,reduceCtorEq,↓reduceIte,Int.reduceToNat,Int.reduceLE,Int.reduceLT,Int.reduceNe,Int.reduceEq];exact kx (by omega) (by omega)
theorem sO{ro:Option Nat}{P:Program}{ops:Array Oper}{Q:Exit→Act→World→Prop}{o:Oper}{rest:List Oper}{a:Act}{w w':World}{v:Value}(hg:o.guard=none)(hn:∀c,o.op≠ .defer c)(hr:(execOp a.eval o).run P w= .ok (.value v) w')
 (h:wpListIn (fz ro) 0 P ops Q rest (a.put o.dst v) w'):wpListIn (fz ro) 0 P ops Q (o::rest) a w:=by
 unfold wpListIn;rw[if_pos (by simp[Region.wanted,hg])];refine⟨fun _ _=>trivial,?_⟩;rw[Oper.semAt_eq _ _ _ hn,hr];exact h
theorem list_round{ro:Option Nat}{P:Program}{ops:Array Oper}{Q:Exit→Act→World→Prop}{o:Oper}{rest:List Oper}{a:Act}{w w':World}{l:Nat}{f:FuncId}{tmps:Array Value}{assign body:Code}{R:Ending→World→Prop}(hg:o.guard=none)(hn:∀c,o.op≠ .defer c)(hr:(execOp a.eval o).run P w= .ok (.round l f tmps assign body) w')
 (hR:RoundIn (fz ro) 0 P l f tmps assign body w' R) (h:∀e w'',R e w''→∃v,e= .returned v∧wpListIn (fz ro) 0 P ops Q rest (a.put o.dst v) w''):wpListIn (fz ro) 0 P ops Q (o::rest) a w:=by
 unfold wpListIn;rw[if_pos (by simp[Region.wanted,hg])];refine⟨fun _ _=>trivial,?_⟩;rw[Oper.semAt_eq _ _ _ hn,hr];refine⟨fun h=>by simp[fz,Fence.wide]at h,hR.mono fun e w'' k=>?_⟩;obtain⟨v,rfl,h⟩:=h e w'' k;exact h
theorem yb{g g':Gh}{ds:List DV}{us:List Value}(h:aa g ds us)(hp:∀d,d∈ds→(∃u,d= .v u)∨d= .any):aa g' ds us:=by
 refine⟨h.len,fun i d u h1 h2=>?_⟩;have hr:=h.at_ i d u h1 h2;rcases hp d (Rj h1)with⟨u',rfl⟩|rfl
 ·cases hr with
  |v _ ho=>exact .v _ ho
 ·exact .any _
def eF(l b:Nat):List DV:=wk [0,1] (cz ([.v (.func (.yield l) #[] #[]),.v (.pointer (some ⟨b,0,none⟩))]++List.replicate 14 ud))
def L1(l b k:Nat):List DV:=wk [0,1,3] (cz ([.v (.func (.yield l) #[] #[]),.v (.pointer (some ⟨b,0,none⟩)),.any,dI (k:Int)]++List.replicate 12 .any))
theorem C5(w0:W0)(hpq:∀d S,¬w0.pq d S)(hg:cV w0){l b x:Nat}(hx:x<18446744073709551616)(X:List Nat→Nat→St)(hb:∀pre y,lk (X pre y).box b=some [dU (y:Int)])
 (hup:∀pre (y y':Nat),(⟨up (X pre y).box b [dU (y':Int)],(X pre y).acc⟩:St)=X pre y') (Inv:List Nat→Prop) (hI0:Inv []) (G:Gh→Prop) (hGle:∀g g',G g→g.le g'→G g') (hGd:∀g,G g→g.lC=[]) (J:World→Prop)
 (hround:∀pre k y g w,pre++k::ay y=ay x→Inv pre→Rel w0 g (X pre y) w→G g→∃fn tmps assign body,(Instr.yield l #[.int .i64 (k:Int)]).run Tryz.prog w= .ok (.round l fn tmps assign body) w∧
  ∀ro,RoundIn (fz ro) 0 Tryz.prog l fn tmps assign body w fun e w'=>(e= .returned (.bool true)∧Inv (pre++[k])∧∃g',Rel w0 g' (X (pre++[k]) y) w'∧G g')∨(e= .returned (.bool false)∧J w'))
 (g:Gh) (w:World) (hR:Rel w0 g (X [] x) w) (hG:G g):
 Calls Tryz.prog 114 #[.func (.yield l) #[] #[],.pointer (some ⟨b,0,none⟩)] w fun e w'=>(∃r,e= .returned r)∧((Inv (ay x)∧∃g',Rel w0 g' (X (ay x) 0) w'∧G g')∨J w'):=by
 refine(ft (ro:=none) (n:=0)).1 (callsIn_of_wp_marks Tryz.func114 rfl trivial ?_ rfl);refine wpIn_mono (Q:=fun e a w'=>(e= .normal∨e= .ret)∧a.defers=[]∧((Inv (ay x)∧∃g',Rel w0 g' (X (ay x) 0) w'∧G g')∨J w')) ?_ ?_
 rotate_left
 ·rintro e a w' ⟨he,hd,hq⟩;have hres:(results Tryz.f114 a.tmps).run Tryz.prog w'= .ok (.tuple #[]) w':=by simp[results,Tryz.results114]
  rcases he with rfl|rfl
  ·show LeavesInM _ _ _ _ _ _ a.defers _ _;rw[hd];exact⟨_,hres,⟨_,rfl⟩,hq⟩
  ·show LeavesInM _ _ _ _ _ _ a.defers _ _;rw[hd];exact⟨_,hres,⟨_,rfl⟩,hq⟩
 refine(jl (kC (fun m a w=>∃pre y g,Inv pre∧m=(ay y).length∧pre++ay y=ay x∧y<18446744073709551616∧Rel w0 g (X pre y) w∧aa g (eF l b) a.tmps.toList∧a.defers=[]∧G g) (m:=(ay x).length) ⟨[],x,g,hI0,rfl,rfl,hx,hR,?_,rfl,hG⟩ ?_)) none (.inl rfl)
 ·unfold eF;have h0:aa g [.v (.func (.yield l) #[] #[]),.v (.pointer (some ⟨b,0,none⟩))] [.func (.yield l) #[] #[],.pointer (some ⟨b,0,none⟩)]:=aa.cons (.v _ rfl) (aa.cons (.v _ rfl) (aa.nil g));have h1:=h0.append (aa.replicate g 14);have h2:=fV [0,1] h1;exact h2
 rintro m a w ⟨pre,y,g,hinv,rfl,hpre,hy,hR,hr,hd,hG⟩;have hdk:Dk w0 g a w:= .nil (hd.trans (hGd g hG).symm);have same0:∀a:Act,Aml.Same [] a a:=fun a=>⟨fun _ _=>rfl,rfl,rfl⟩;refine ju (bC (di (P:=Tryz.prog) (w0:=w0) (t:=[]) (fr:=eF l b) (S:=X pre y) (Q:=fun e fr S=>(e= .normal∧y≠0∧S=X pre y∧wk [0,1] fr=eF l b)∨(e= .exit 0∧y=0∧S=X pre y)) _ (by kernel_rfl) ?_ g a a w hR hr hdk (same0 a)) ?_)
 ·unfold eF;have hb1:=hb pre y;simp(maxDischargeDepth:=12) (maxSteps:=1000000) -implicitDefEqProofs only[go_sem,Nat.reduceAdd,Nat.reduceSub,Nat.reduceMul,Nat.reduceLeDiff,Nat.reduceEqDiff,Nat.reduceGT,Nat.reduceBEq,reduceCtorEq,↓reduceIte,Int.reduceToNat,Int.reduceLE,Int.reduceLT,Int.reduceNe,Int.reduceEq,hb1];omega
 intro e a1 w1 hk
 cases e with
 |ret=>obtain⟨⟨_,_,_,_,_,_,_,q⟩,_⟩:=hk;rcases q with q|q <;>cases q.1
 |goto n=>obtain⟨⟨_,_,_,_,_,_,_,q⟩,_⟩:=hk;rcases q with q|q <;>cases q.1
 |outgrown=>obtain⟨_,_,_,_,_,_,_,q⟩:=hk;rcases q with q|q <;>cases q.1
 |panic ch=>obtain⟨⟨_,_,_,_,_,_,_,_,_,_,_,q⟩,_⟩:=hk;exact(hpq _ _ q).elim
 |exit n=>
  obtain⟨⟨_,g1,fr1,S1,k1,R1,r1,q⟩,hs⟩:=hk;rcases q with⟨q,_⟩|⟨q,rfl,rfl⟩
  ·cases q
  ·cases q;rw[wH,RU]at hpre;change Exit.inBlock 0 (fun e a w'=>(e= .normal∨e= .ret)∧a.defers=[]∧((Inv (ay x)∧∃g',Rel w0 g' (X (ay x) 0) w'∧G g')∨J w')) (.exit 0) a1 w1;simp only[Exit.inBlock,if_true];exact⟨.inl (by trivial),hs.2.1.trans hd,.inl ⟨hpre▸hinv,g1,hpre▸R1,hGle _ _ hG k1⟩⟩
 |normal=>
  obtain⟨⟨hd1,g1,fr1,S1,k1,R1,r1,q⟩,hs1⟩:=hk;rcases q with⟨_,hy0,rfl,hfr1⟩|⟨q,_⟩
  rotate_left
  ·cases q
  have hG1:=hGle _ _ hG k1;have hdf1:a1.defers=[]:=hs1.2.1.trans hd;have r1':aa g1 (eF l b) a1.tmps.toList:=hfr1▸fV [0,1] r1;obtain⟨k,hk64,hlow⟩:=KQ hy0 hy;have hbits:=Af hlow hk64;have hy2':y &&& (y-1)<18446744073709551616:=Nat.lt_of_le_of_lt Nat.and_le_left hy;show qa Tryz.prog (.block 1 _) _ a1 w1;refine jl (ju (bC (di (P:=Tryz.prog) (w0:=w0) (t:=[]) (fr:=eF l b) (S:=X pre y) (Q:=fun e fr S=>e= .normal∧S=X pre y∧wk [0,1,3] fr=L1 l b k) _ (by kernel_rfl) ?_ g1 a1 a1 w1 R1 r1' (.nil (hdf1.trans (hGd g1 hG1).symm)) (same0 a1)) ?_))
  ·unfold eF L1;have hb1:=hb pre y;simp(maxDischargeDepth:=12) (maxSteps:=1000000) -implicitDefEqProofs only[go_sem,Nat.reduceAdd,Nat.reduceSub,Nat.reduceMul,Nat.reduceLeDiff,Nat.reduceEqDiff,Nat.reduceGT,Nat.reduceBEq,reduceCtorEq,↓reduceIte,Int.reduceToNat,Int.reduceLE,Int.reduceLT,Int.reduceNe,Int.reduceEq,hb1];refine aq (Qw _ hg y k hy hk64 hlow _) ?_;simp(maxDischargeDepth:=12) (maxSteps:=1000000) -implicitDefEqProofs only[go_sem,Nat.reduceAdd,Nat.reduceSub,Nat.reduceMul,Nat.reduceLeDiff,Nat.reduceEqDiff,Nat.reduceGT,Nat.reduceBEq,reduceCtorEq,↓reduceIte,Int.reduceToNat,Int.reduceLE,Int.reduceLT,Int.reduceNe,Int.reduceEq]
  intro e a2 w2 hk2
  cases e with
  |ret=>obtain⟨⟨_,_,_,_,_,_,_,q⟩,_⟩:=hk2;cases q.1
  |goto n=>obtain⟨⟨_,_,_,_,_,_,_,q⟩,_⟩:=hk2;cases q.1
  |exit n=>obtain⟨⟨_,_,_,_,_,_,_,q⟩,_⟩:=hk2;cases q.1
  |outgrown=>obtain⟨_,_,_,_,_,_,_,q⟩:=hk2;cases q.1
  |panic ch=>obtain⟨⟨_,_,_,_,_,_,_,_,_,_,_,q⟩,_⟩:=hk2;exact(hpq _ _ q).elim
  |normal=>
   obtain⟨⟨_,g2,fr2,S2,k2,R2,r2,_,rfl,hfr2⟩,hs2⟩:=hk2;have hG2:=hGle _ _ hG1 k2;have hdf2:a2.defers=[]:=hs2.2.1.trans hdf1;have r2':aa g2 (L1 l b k) a2.tmps.toList:=hfr2▸fV [0,1,3] r2;refine ju (bC (di (P:=Tryz.prog) (w0:=w0) (t:=[]) (fr:=L1 l b k) (S:=X pre y) (Q:=fun e fr S=>e= .normal∧S=X pre (y &&& (y-1))∧wk [0,1,3] fr=L1 l b k) _ (by kernel_rfl) ?_ g2 a2 a2 w2 R2 r2' (.nil (hdf2.trans (hGd g2 hG2).symm)) (same0 a2)) ?_)
   ·unfold L1;have hb1:=hb pre y;have hup1:=hup pre y (y &&& (y-1))
    have hsub:IntKind.u64.wrap ((y:Int)-1)=((y-1:Nat):Int):=by
     have:(y:Int)-1=((y-1:Nat):Int):=by omega
     rw[this,wN (by omega)]
    have hand:=ee (x:=y) (y:=y-1) hy (by omega);simp(maxDischargeDepth:=12) (maxSteps:=1000000) -implicitDefEqProofs only[go_sem,Nat.reduceAdd,Nat.reduceSub,Nat.reduceMul,Nat.reduceLeDiff,Nat.reduceEqDiff,Nat.reduceGT,Nat.reduceBEq,reduceCtorEq,↓reduceIte,Int.reduceToNat,Int.reduceLE,Int.reduceLT,Int.reduceNe,Int.reduceEq,hb1,hsub,hand];exact hup1
   intro e a3 w3 hk3
   cases e with
   |ret=>obtain⟨⟨_,_,_,_,_,_,_,q⟩,_⟩:=hk3;cases q.1
   |goto n=>obtain⟨⟨_,_,_,_,_,_,_,q⟩,_⟩:=hk3;cases q.1
   |exit n=>obtain⟨⟨_,_,_,_,_,_,_,q⟩,_⟩:=hk3;cases q.1
   |outgrown=>obtain⟨_,_,_,_,_,_,_,q⟩:=hk3;cases q.1
   |panic ch=>obtain⟨⟨_,_,_,_,_,_,_,_,_,_,_,q⟩,_⟩:=hk3;exact(hpq _ _ q).elim
   |normal=>
    obtain⟨⟨_,g3,fr3,S3,k3,R3,r3,_,rfl,hfr3⟩,hs3⟩:=hk3;have hG3:=hGle _ _ hG2 k3;have hdf3:a3.defers=[]:=hs3.2.1.trans hdf2;have r3':aa g3 (L1 l b k) a3.tmps.toList:=hfr3▸fV [0,1,3] r3;have e0:a3.eval (.tmp 0)= .func (.yield l) #[] #[]:=an (show aA g3 (.v (.func (.yield l) #[] #[])) _ from fw r3' (.tmp 0));have e3:a3.eval (.tmp 3)= .int .i64 (k:Int):=an (show aA g3 (.v (.int .i64 (k:Int))) _ from fw r3' (.tmp 3))
    have hz:a3.tmps.size=16:=by
     have:=r3'.len;rw[RT]at this;exact this.symm.trans rfl
    obtain⟨fn,tmps,assign,body,hy1,hy2⟩:=hround pre k (y &&& (y-1)) g3 w3 (by rw[←hbits];exact hpre) hinv R3 hG3;obtain⟨a4,ha4⟩:∃a4:Act,a4=(a3.put (some 12) (.func (.yield l) #[] #[])).put (some 13) (.int .i64 (k:Int)):=⟨_,rfl⟩
    have e12:a4.eval (.tmp 12)= .func (.yield l) #[] #[]:=by
     rw[ha4];simp[Act.put,Act.eval,RE,RF,hz]
    have e13:a4.eval (.tmp 13)= .int .i64 (k:Int):=by
     rw[ha4];simp[Act.put,Act.eval,RE,RF,hz]
    have e33:(a3.put (some 12) (.func (.yield l) #[] #[])).eval (.tmp 3)= .int .i64 (k:Int):=by
     rw[←e3];simp[Act.put,Act.eval,RE,RF]
    refine ju (fj fun ro=>?_);refine sO rfl (by intro c h;cases h) (v:= .func (.yield l) #[] #[]) (w':=w3) (by simp[execOp,e0]) ?_;refine sO rfl (by intro c h;cases h) (v:= .int .i64 (k:Int)) (w':=w3) (by simp[execOp,e33]) ?_;change wpListIn (fz ro) 0 Tryz.prog _ _ _ ((a3.put (some 12) (.func (.yield l) #[] #[])).put (some 13) (.int .i64 (k:Int))) w3;rw[←ha4];refine list_round rfl (by intro c h;cases h) (l:=l) (f:=fn) (tmps:=tmps) (assign:=assign) (body:=body) (w':=w3) (by rw[←hy1];simp[execOp,resolve,e12,e13,Deferred.ofValue,invoke]) (hy2 ro) ?_
    have fin:∀(ops:Array Oper) (t:Bool) (w4:World) (Qc:Exit→Act→World→Prop),(∀a5:Act,a5=(a4.put (some 14) (.bool t)).put (some 15) (.bool !t)→a5.eval (.tmp 15)= .bool !t→Qc .normal a5 w4)→wpListIn (fz ro) 0 Tryz.prog ops Qc [⟨some 15,.unOp .not 4 (.tmp 14),4, "lattice.go:24", #[{on:=2,ground:=Ground.data}],none⟩] (a4.put (some 14) (.bool t)) w4:=by
     intro ops t w4 Qc hq
     have e14:(a4.put (some 14) (.bool t)).eval (.tmp 14)= .bool t:=by
      rw[ha4];simp[Act.put,Act.eval,RE,RF,hz]
     refine sO rfl (by intro c h;cases h) (v:= .bool !t) (w':=w4) (by simp only[execOp,e14];simp[go_sem,Op.unary]) ?_;refine hq _ rfl ?_;rw[ha4];simp[Act.put,Act.eval,RE,RF,hz]
    have rep5:∀(t:Bool) (a5:Act),a5=(a4.put (some 14) (.bool t)).put (some 15) (.bool !t)→∀g5:Gh,aa g5 (eF l b) a5.tmps.toList:=by
     rintro t a5 rfl g5;rw[ha4];have q0:=fV [0,1] r3';have q1:=bM q0 (some 12) (d:= .any) (u:= .func (.yield l) #[] #[]) (.any _);have q2:=bM q1 (some 13) (d:= .any) (u:= .int .i64 (k:Int)) (.any _);have q3:=bM q2 (some 14) (d:= .any) (u:= .bool t) (.any _);have q4:=bM q3 (some 15) (d:= .any) (u:= .bool !t) (.any _);refine yb (ds:=eF l b) q4 fun d hd=>?_;unfold eF at hd;have:d∈([.v (.func (.yield l) #[] #[]),.v (.pointer (some ⟨b,0,none⟩))]++List.replicate 14 .any:List DV):=hd;rcases RB.1 this with h|h
     ·rcases Rv.1 h with h|h
      ·exact .inl ⟨_,h⟩
      ·rw[RX]at h;exact .inl ⟨_,h⟩
     ·exact .inr (Tf h)
    have def5:∀(t:Bool) (a5:Act),a5=(a4.put (some 14) (.bool t)).put (some 15) (.bool !t)→a5.defers=[]:=by
     rintro t a5 rfl;rw[ha4];exact hdf3
    rintro e w4 (⟨rfl,hI4,g4,R4,hG4⟩|⟨rfl,hJ⟩)
    ·refine⟨_,rfl,fin _ true w4 _ fun a5 ha5 h15=>?_⟩;change qa Tryz.prog (.cond (.tmp 15) .ret .skip) _ a5 w4;refine dN (t:=!true) h15 (fun h=>by cases h) (fun _=>pb ?_);refine⟨(ay (y &&& (y-1))).length,by rw[hbits];simp,pre++[k],y &&& (y-1),g4,hI4,rfl,?_,hy2',R4,rep5 _ _ ha5 _,def5 _ _ ha5,hG4⟩;rw[RJ,←hpre,hbits];rfl
    ·refine⟨_,rfl,fin _ false w4 _ fun a5 ha5 h15=>?_⟩;change qa Tryz.prog (.cond (.tmp 15) .ret .skip) _ a5 w4;refine dN (t:=!false) h15 (fun _=>sD ?_) (fun h=>by cases h);exact⟨.inr rfl,def5 _ _ ha5,.inr hJ⟩
end Go.Proofs.YtiihljlagmmljaaGreatDoor
namespace Go.Proofs.YtiihljlagmmljaaGreatDoor
open Aml Go Lat Go.RowKit
theorem j4{w0:W0}{ro:Option Nat}(hg:cV w0){x b:Nat}(hx:x<18446744073709551616)(X:List Nat→Nat→St)(Z:List Nat→Nat→Nat→St)(Inv:List Nat→Prop)(hI0:Inv [])(qM:List Nat→Nat→Nat→Prop)(B:List Nat→Nat→Nat→List DV→St→Prop){fo:Operand}{ps:Array Tmp}{assign body:Code}{fr:List DV}{S:St}{Q:Exit→List DV→St→Prop}
 (hf:ev fr fo= .v (.func (.func 114) #[] #[.pointer (some ⟨b,0,none⟩)])) (hps:ps.size=1) (hrf:gA assign=true)
 (hX0:X [] x=S) (hb:∀pre y,lk (X pre y).box b=some [dU (y:Int)]) (hup:∀pre (y y':Nat),(⟨up (X pre y).box b [dU (y':Int)],(X pre y).acc⟩:St)=X pre y')
 (hnb:∀pre y,(X pre y).box.map (·.1)=S.box.map (·.1)) (hna:∀pre y,(X pre y).acc.map (·.1)=S.acc.map (·.1)) (hzb:∀pre k y,(Z pre k y).box.map (·.1)=S.box.map (·.1)) (hza:∀pre k y,(Z pre k y).acc.map (·.1)=S.acc.map (·.1))
 (hassign:∀pre k y,pre++k::ay y=ay x→Inv pre→fK Tryz.prog w0.np assign (kL ps.toList [dI (k:Int)] fr) (X pre y) (fun e fr1 T1=>e= .normal∧B pre k y fr1 T1))
 (hbody:∀(l:Nat) (r1:Loop) pre k y fr1 T1,pre++k::ay y=ay x→Inv pre→B pre k y fr1 T1→∀g a w,Rel w0.np g T1 w→aa g fr1 a.tmps.toList→Dk w0.np g a w→g.obj l=some (.loop r1)→body.wpIn (fz (some l)) 0 Tryz.prog (Aml.Good w0.np g fun e _ T'=>(e= .normal∧Inv (pre++[k])∧Has (X (pre++[k]) y) T')∨(e= .ret∧qM pre k y∧Has (Z pre k y) T')) a w)
 (hdone:Inv (ay x)→Q .normal fr (X (ay x) 0)) (hstop:∀pre k y,qM pre k y→Q .ret fr (Z pre k y))
 (g:Gh) (a:Act) (w:World) (h1:Rel w0 g S w) (h2:aa g fr a.tmps.toList) (h3:Dk w0 g a w) (hro:ro=none∨∃l0 r0,ro=some l0∧g.obj l0=some (.loop r0)):
 (Code.rangeFunc fo ps assign body).wpIn (fz ro) 0 Tryz.prog (Aml.Good w0 g Q) a w:=by
 subst hX0;refine wpIn_rangeFunc ?_;intro fn hfn;have hfo:=fw h2 fo;rw[hf]at hfo;have hgf:a.eval fo= .func (.func 114) #[] #[.pointer (some ⟨b,0,none⟩)]:=an hfo;have hsz:=h1.below.size;have hszn:w0.np.heap.size≤w.heap.size:=hsz
 obtain⟨l,mark,dfs,W1,hW,hL1,hb1,hll,hmk⟩:∃(l:Nat) (mark:List Deferred) (dfs:Nat) (W1:World),(Instr.enterLoop fn a.tmps ps assign body (fz ro).round).run Tryz.prog w= .ok (l,mark) W1∧
  W1.heap[l]? =some (.loop {state:= .ready,pending:=none,fn,tmps:=a.tmps,params:=ps,assign,body,defers:=dfs})∧fJ w.heap.size w W1∧w.heap.size≤l∧(mark=[]∨∃D,mark=[{target:= .collected D,args:= #[]}]∧w.heap.size≤D∧D≠l∧W1.heap[D]? =some (.deferred (some []))):=by
  rcases hro with rfl|⟨l0,r0,rfl,ho⟩
  ·refine⟨w.heap.size+1,[{target:= .collected w.heap.size,args:= #[]}],w.heap.size,_,run_enterLoop_outer _ _ _ _ _,?_,((fJ.refl _ w).alloc (Ro _) _).alloc (by simp) _,by omega,.inr ⟨w.heap.size,rfl,Ro _,by omega,?_⟩⟩
   ·have:=World.alloc_heap_new (w.alloc (.deferred (some []))) (.loop {state:= .ready,pending:=none,fn,tmps:=a.tmps,params:=ps,assign,body,defers:=w.heap.size})
    rwa [World.size_alloc]at this
   ·exact(Below.heap_alloc _ _ _ (by simp)).trans (World.alloc_heap_new w _)
  ·have hl0:=(h1.below.obj l0 _ ho).1;exact⟨w.heap.size,[],r0.defers,_,run_enterLoop_inner hl0 _ _ _ _ _,World.alloc_heap_new w _,(fJ.refl _ w).alloc (Ro _) _,Ro _,.inl rfl⟩
 obtain⟨rec,hrec⟩:∃rec:LoopState→Option Code→Loop,rec=fun st pe=>{state:=st,pending:=pe,fn,tmps:=a.tmps,params:=ps,assign,body,defers:=dfs}:=⟨_,rfl⟩;have hL1:W1.heap[l]? =some (.loop (rec .ready none)):=by rw[hrec];exact hL1
 have hob:∀k o,g.obj k=some o→k<w.heap.size:=fun k o hk=>(Rq.1 (h1.below.obj k o hk).1).1
 have hgl:∀k,w.heap.size≤k→g.obj k=none:=fun k hk=>by
  cases hx:g.obj k with
  |none=>rfl
  |some o=>have:=hob k o hx;omega
 have hwl:∀k,w.heap.size≤k→w0.gh.obj k=none:=fun k hk=>by
  cases hx:w0.gh.obj k with
  |none=>rfl
  |some o=>have:=hob k o (h1.below.jK.obj k o hx);omega
 obtain⟨pin,hpin⟩:∃pin:Option Obj→Nat→Option Obj,pin=fun o k=>if k=l then o else wc W1 k:=⟨_,rfl⟩
 have hpl:∀o,pin o l=o:=fun o=>by rw[hpin];simp
 have hpk:∀o k,k≠l→pin o k=wc W1 k:=fun o k hk=>by rw[hpin];simp[hk]
 have h1W:=h1.grow hb1;have hne0:∀k o,w0.gh.obj k=some o→k≠l:=by rintro k o hk rfl;rw[hwl _ hll]at hk;cases hk
 have hsub:∀o,w0.np.gh.sub (g.aj (pin o)):=fun o=>⟨h1.below.jK.aO,h1.below.jK.acc,fun k o' hk=>by
  show pin o k=some o';rw[hpk o k (hne0 k o' hk)];have:=h1W.below.obj k o' (h1W.below.jK.obj k o' hk);exact oN this.1 this.2⟩
 let G:Gh→Prop:=fun g'=>(∀b i u,g.aO b i=some u→g'.aO b i=some u)∧(∀n m u,g.acc n m=some u→g'.acc n m=some u)∧g'.obj=pin (some (.loop (rec .ready none)))∧g'.lC=[]
 let J:World→Prop:=fun w'=>∃pre k y g',qM pre k y∧Rel w0.np g' (Z pre k y) w'∧((∀b i u,g.aO b i=some u→g'.aO b i=some u)∧(∀n m u,g.acc n m=some u→g'.acc n m=some u)∧g'.obj=pin (some (.loop (rec .done (some .ret))))∧g'.lC=[])
 have R1:Rel w0.np ((g.aj (pin (some (.loop (rec .ready none))))).aE []) (X [] x) W1:=by
  refine Rel.aE (w0:=w0.np) (h1W.aj (w0':=w0.np) rfl (fun k o hk=>?_) (hsub _)) [] rfl (hsub _);by_cases e:k=l
  ·subst e;rw[hpl]at hk;cases hk;exact⟨hL1,rfl⟩
  ·rw[hpk _ _ e]at hk;exact vW hk
 have hpqn:∀d S,¬(w0.np).pq d S:=fun _ _ h=>h;have nX:∀pre y,((X pre y).box.map (·.1)).Nodup∧((X pre y).acc.map (·.1)).Nodup:=fun pre y=>⟨by rw[hnb];exact h1.nb,by rw[hna];exact h1.na⟩;have nZ:∀pre k y,((Z pre k y).box.map (·.1)).Nodup∧((Z pre k y).acc.map (·.1)).Nodup:=fun pre k y=>⟨by rw[hzb];exact h1.nb,by rw[hza];exact h1.na⟩
 have hround:∀pre k y g3 w3,pre++k::ay y=ay x→Inv pre→Rel w0.np g3 (X pre y) w3→G g3→∃fn tmps assign body,(Instr.yield l #[.int .i64 (k:Int)]).run Tryz.prog w3= .ok (.round l fn tmps assign body) w3∧
  ∀ro,RoundIn (fz ro) 0 Tryz.prog l fn tmps assign body w3 fun e w'=>(e= .returned (.bool true)∧Inv (pre++[k])∧∃g',Rel w0.np g' (X (pre++[k]) y) w'∧G g')∨(e= .returned (.bool false)∧J w'):=by
  intro pre k y g3 w3 hpre hinv R3 hG3;obtain⟨hi3,hac3,ho3,hd3⟩:=hG3;have hl3g:g3.obj l=some (.loop (rec .ready none)):=by rw[ho3,hpl]
  have hl3:=(R3.below.obj l _ hl3g).1;have hy:=run_yield (P:=Tryz.prog) (args:= #[.int .i64 (k:Int)]) hl3 (by rw[hrec];exact hps.symm);rw[hrec]at hy;dsimp only at hy;refine⟨_,_,_,_,hy,fun ro=>roundIn_of_wpIn (F:=fz ro) (n:=0) trivial ?_⟩;have hfr0:aa g3 fr a.tmps.toList:=⟨h2.len,fun i d u a1 a2=>aA.of (g:=g) hi3 hac3 (h2.at_ i d u a1 a2)⟩
  have hfr:aa g3 (kL ps.toList [dI (k:Int)] fr) (((ps.zip #[.int .i64 (k:Int)]).foldl (fun t (p,v)=>t.setIfInBounds p v) a.tmps).toList):=by
   have:=nQ (g:=g3) ps.toList [dI (k:Int)] [.int .i64 (k:Int)] (fr:=fr) (us:=a.tmps) hfr0 (aa.cons (.v _ rfl) (aa.nil _));rw[show [Value.int .i64 (k:Int)]=(#[Value.int .i64 (k:Int)]:Array Value).toList from rfl,←Array.toList_zip,Array.foldl_toList]at this;exact this
  refine wpIn_mono (hassign pre k y hpre hinv g3 {tmps:=_,defers:=[]} w3 R3 hfr (.nil hd3.symm) (some l) (.inr hrf)) ?_;rintro e a4 w4 ⟨hd4,g4,fr4,T4,k1,k2,k3,k4⟩
  cases e with
  |exit n=>cases k4.1
  |goto n=>cases k4.1
  |ret=>cases k4.1
  |outgrown=>cases k4.1
  |panic ch=>obtain⟨_,_,_,_,h⟩:=k4;exact h.elim
  |normal=>
   have hl4g:g4.obj l=some (.loop (rec .ready none)):=by rw[k1.obj];exact hl3g
   have hl4:=(k2.below.obj _ _ hl4g).1;refine⟨_,run_beginRound hl4 (by rw[hrec]),?_⟩;have hlt4:l<w4.heap.size:=(Rq.1 hl4).1;have hbz:({rec .ready none with state:= .busy}:Loop)=rec .busy none:=by rw[hrec]
   rw[hbz];have ho4:g4.obj=pin (some (.loop (rec .ready none))):=k1.obj.trans ho3;have s4:∀o,w0.np.gh.sub (g4.aj (pin o)):=fun o=>⟨k2.below.jK.aO,k2.below.jK.acc,(hsub o).obj⟩
   have R4x:Rel w0.np (g4.aj (pin none)) T4 w4:=k2.aj rfl (fun k' o hk=>by
    by_cases e:k'=l
    ·subst e;rw[hpl]at hk;cases hk
    ·exact k2.below.obj k' o (by rw[ho4,hpk _ _ e];rw[hpk _ _ e]at hk;exact hk)) (s4 _)
   have hh5:∀k',k'≠l→(w4.putObj l (.loop (rec .busy none))).heap[k']? =w4.heap[k']? :=fun k' hk=>World.putObj_heap_other hk;have R4y:=R4x.putObj (o':= .loop (rec .busy none)) hl4 rfl (hpl none) (Se hszn hll)
   have R5:Rel w0.np (g4.aj (pin (some (.loop (rec .busy none))))) T4 (w4.putObj l (.loop (rec .busy none))):=R4y.aj (ob:=pin (some (.loop (rec .busy none)))) rfl (fun k' o hk=>by
    by_cases e:k'=l
    ·subst e;rw[hpl]at hk;cases hk;exact⟨World.putObj_heap_same hlt4,rfl⟩
    ·rw[hh5 k' e];exact k2.below.obj k' o (by rw[ho4,hpk _ _ e];rw[hpk _ _ e]at hk;exact hk)) (s4 _)
   have hD5:Dk w0.np (g4.aj (pin (some (.loop (rec .busy none))))) a4 (w4.putObj l (.loop (rec .busy none))):=by
    obtain⟨ms,em,hn4,hd4⟩:=hd4;refine⟨ms,by rw[em];show ms++_=ms++g4.lC;rw[k1.lC],hn4,fun d hd=>?_⟩;obtain⟨D,e1,e2,e3,e4⟩:=hd4 d hd;have hne:D≠l:=by rintro rfl;rw[hl4]at e2;cases e2
    refine⟨D,e1,(hh5 D hne).trans e2,?_,e4⟩;show pin _ D=none;rw[hpk _ _ hne,←hpk (some (.loop (rec .ready none))) _ hne,←ho3];exact e3
   refine wpIn_mono (hbody l (rec .busy none) pre k y fr4 T4 hpre hinv k4.2 _ a4 _ R5 k3.aj hD5 (hpl _)) ?_;rintro e a6 w6 ⟨_,g6,fr6,T6,q1,q2,q3,q4⟩;have hg6:g6.obj=pin (some (.loop (rec .busy none))):=q1.obj;have hl6:=(q2.below.obj l (.loop (rec .busy none)) (by rw[hg6,hpl])).1;have hlt6:l<w6.heap.size:=(Rq.1 hl6).1;have hi6:∀b i u,g.aO b i=some u→g6.aO b i=some u:=fun b i u h=>q1.aO _ _ _ (k1.aO _ _ _ (hi3 _ _ _ h));have hac6:∀n m u,g.acc n m=some u→g6.acc n m=some u:=fun b i u h=>q1.acc _ _ _ (k1.acc _ _ _ (hac3 _ _ _ h));have s6:∀o,w0.np.gh.sub (g6.aj (pin o)):=fun o=>⟨q2.below.jK.aO,q2.below.jK.acc,(hsub o).obj⟩
   have turn:∀(o':Loop),Rel w0.np ((g6.aj (pin (some (.loop o')))).aE []) T6 (w6.putObj l (.loop o')):=by
    intro o'
    have R6x:Rel w0.np (g6.aj (pin none)) T6 w6:=q2.aj rfl (fun k' o hk=>by
     by_cases e:k'=l
     ·subst e;rw[hpl]at hk;cases hk
     ·exact q2.below.obj k' o (by rw[hg6,hpk _ _ e];rw[hpk _ _ e]at hk;exact hk)) (s6 _)
    have R6y:=R6x.putObj (o':= .loop o') hl6 rfl (hpl none) (Se hszn hll)
    have R7:Rel w0.np (g6.aj (pin (some (.loop o')))) T6 (w6.putObj l (.loop o')):=R6y.aj (ob:=pin (some (.loop o'))) rfl (fun k' o hk=>by
     by_cases e:k'=l
     ·subst e;rw[hpl]at hk;cases hk;exact⟨World.putObj_heap_same hlt6,rfl⟩
     ·rw[World.putObj_heap_other e];exact q2.below.obj k' o (by rw[hg6,hpk _ _ e];rw[hpk _ _ e]at hk;exact hk)) (s6 _)
    exact R7.aE [] rfl (s6 _)
   cases e with
   |exit n=>rcases q4 with q|q <;>cases q.1
   |goto n=>rcases q4 with q|q <;>cases q.1
   |outgrown=>rcases q4 with q|q <;>cases q.1
   |panic ch=>obtain⟨_,_,_,_,h⟩:=q4;exact h.elim
   |normal=>
    rcases q4 with⟨_,hI6,hHas⟩|⟨q,_⟩
    rotate_left
    ·cases q
    have he:=run_endRound (P:=Tryz.prog) none hl6;have hbr:({rec .busy none with state:=if(none:Option Code).isNone then .ready else .done,pending:=none}:Loop)=rec .ready none:=by rw[hrec];rfl
    rw[hbr]at he;exact⟨.bool true,_,he,.inl ⟨rfl,hI6,_,(turn (rec .ready none)).has hHas (nX _ _).1 (nX _ _).2,hi6,hac6,rfl,rfl⟩⟩
   |ret=>
    rcases q4 with⟨q,_⟩|⟨_,hst,hHas⟩
    ·cases q
    have he:=run_endRound (P:=Tryz.prog) (some .ret) hl6;have hbr:({rec .busy none with state:=if(some Code.ret:Option Code).isNone then .ready else .done,pending:=some .ret}:Loop)=rec .done (some .ret):=by rw[hrec];rfl
    rw[hbr]at he;exact⟨.bool false,_,he,.inr ⟨rfl,pre,k,y,_,hst,(turn (rec .done (some .ret))).has hHas (nZ _ _ _).1 (nZ _ _ _).2,hi6,hac6,rfl,rfl⟩⟩
 have hok:okF Tryz.prog 114=true:=by kernel_rfl
 have fin:∀(S2:St) (g2:Gh) (w2:World) (r2:Loop),Rel w0.np g2 S2 w2→(∀b i u,g.aO b i=some u→g2.aO b i=some u)→(∀n m u,g.acc n m=some u→g2.acc n m=some u)→g2.obj=pin (some (.loop r2))→∀o':Obj,∀(e:Exit),Qp w0 ((g2.aj g.obj).aE g.lC) Q e fr S2→Aml.Good w0 g Q e {a with defers:=mark++a.defers} (w2.putObj l o'):=by
  intro S2 g2 w2 r2 R2 hi hac ho o' e hq;have hkeep:∀(k:Nat) (o:Obj),k≠l→W1.heap[k]? =some o→nc o=true→w2.heap[k]? =some o:=fun k o hk p1 p2=>(R2.below.obj k o (by rw[ho,hpk _ _ hk];exact oN p1 p2)).1;have hl2:=(R2.below.obj l (.loop r2) (by rw[ho,hpl])).1;have hoth:∀k,k≠l→(w2.putObj l o').heap[k]? =w2.heap[k]? :=fun k hk=>World.putObj_heap_other hk;have hsub2:w0.gh.sub (g2.aj g.obj):=⟨R2.below.jK.aO,R2.below.jK.acc,h1.below.jK.obj⟩
  have Rb:Rel w0 (g2.aj g.obj) S2 w2:=R2.aj (w0':=w0) rfl (fun k o hk=>by
   obtain⟨p1,p2⟩:=h1.below.obj k o hk;have hlt:=hob k o hk;exact⟨hkeep k o (by omega) ((hb1.block k hlt).trans p1) p2,p2⟩) hsub2
  have Rc:=(Rb.putObj (o':=o') hl2 rfl (hgl _ hll) (Se hsz hll)).aE g.lC rfl hsub2;refine⟨?_,(g2.aj g.obj).aE g.lC,fr,S2,⟨hi,hac,rfl,rfl⟩,Rc,⟨h2.len,fun i d u p q=>(aA.of (g:=g) hi hac (h2.at_ i d u p q)).aj.aE⟩,hq⟩;obtain⟨ms,em,hn,hms⟩:=h3
  have old:∀d,d∈ms→∃D,d={target:= .collected D,args:= #[]}∧(w2.putObj l o').heap[D]? =some (.deferred (some []))∧g.obj D=none∧w0.heap.size≤D:=fun d hd=>by
   obtain⟨D,e1,e2,e3,e4⟩:=hms d hd;have hlt:=(Rq.1 e2).1;exact⟨D,e1,(hoth D (by omega)).trans (hkeep D _ (by omega) ((hb1.block D hlt).trans e2) rfl),e3,e4⟩
  rcases hmk with rfl|⟨D,rfl,hD1,hD2,hD3⟩
  ·exact⟨ms,em,hn,old⟩
  ·refine⟨{target:= .collected D,args:= #[]}::ms,by show _::a.defers=_;rw[em];rfl,?_,fun d hd=>?_⟩
   ·rw[R0];refine⟨fun hm=>?_,hn⟩;obtain⟨D',e1,e2,_⟩:=hms _ hm;have:D=D':=by injection e1 with e1 _;injection e1
    subst this;have:=(Rq.1 e2).1;omega
   ·rcases Rv.1 hd with rfl|hd
    ·exact⟨D,rfl,(hoth D hD2).trans (hkeep D _ hD2 hD3 rfl),hgl _ hD1,Se hsz hD1⟩
    ·exact old d hd
 refine⟨l,mark,W1,{target:= .fn (.func 114) #[.pointer (some ⟨b,0,none⟩)],args:= #[.func (.yield l) #[] #[]]},W1,114, #[.func (.yield l) #[] #[],.pointer (some ⟨b,0,none⟩)],W1,hW,?_,fun _ _=>trivial,?_,fun h=>by simp[fz,Fence.wide]at h,?_⟩
 ·simp only[resolve,hgf];simp[go_sem]
 ·unfold okF at hok;split at hok
  ·rename_i fn' hfn';simp only[Rm,Sc]at hok;obtain⟨hb,hname⟩:=hok;have hbn:¬fn'.body=none:=by intro e;simp[e]at hb
   have hname':¬fn'.name= "runtime.NumGoroutine" :=by simpa using hname
   simp[invoke,callFunc,hfn',hname',hbn]
  ·cases hok
 ·have hGle:∀g g',G g→g.le g'→G g':=fun g1 g2 ⟨p1,p2,p3,p4⟩ k=>⟨fun b i u h=>k.aO _ _ _ (p1 _ _ _ h),fun b i u h=>k.acc _ _ _ (p2 _ _ _ h),k.obj.trans p3,k.lC.trans p4⟩;refine ft.2 ((C5 w0.np hpqn hg hx X hb hup Inv hI0 G hGle (fun _ h=>h.2.2.2) J hround _ W1 R1 ⟨fun _ _ _ h=>h,fun _ _ _ h=>h,rfl,rfl⟩).mono ?_);rintro e w2 ⟨⟨r,rfl⟩,⟨hIe,g2,R2,hi,hac,ho,hd⟩|⟨pre,k,y,g2,hst,R2,hi,hac,ho,hd⟩⟩
  ·have hl2:=(R2.below.obj l _ (by rw[ho,hpl])).1;have he:=run_endLoop (P:=Tryz.prog) hl2 (by rw[hrec];simp);rw[show(rec .ready none).pending=none by rw[hrec]]at he;exact⟨none,_,he,fin _ g2 w2 _ R2 hi hac ho _ .normal (hdone hIe)⟩
  ·have hl2:=(R2.below.obj l _ (by rw[ho,hpl])).1;have he:=run_endLoop (P:=Tryz.prog) hl2 (by rw[hrec];simp);rw[show(rec .done (some .ret)).pending=some .ret by rw[hrec]]at he;exact⟨some .ret,_,he,wpIn_ret (fin _ g2 w2 _ R2 hi hac ho _ .ret (hstop _ _ _ hst))⟩
end Go.Proofs.YtiihljlagmmljaaGreatDoor
namespace Go.Proofs.YtiihljlagmmljaaGreatDoor
open Aml Go Lat
theorem Kl{w0:W0}(ss:List Nat:=[])(hg:cV w0){x b:Nat}(hx:x<18446744073709551616)(X:List Nat→Nat→St)(Z:List Nat→Nat→Nat→St)(Inv:List Nat→Prop)(qM:List Nat→Nat→Nat→Prop){fo:Operand}{ps:Array Tmp}{assign body:Code}{fr:List DV}{S:St}{Q:Exit→List DV→St→Prop}
 (hm:Tryz.prog.follows .mixedOrders=true) (hc:(sQ ss assign&&sQ ss body&&gA assign&&gA body)=true)
 (hf:ev fr fo= .v (.func (.func 114) #[] #[.pointer (some ⟨b,0,none⟩)])) (hps:ps.size=1) (hI0:Inv [])
 (hX0:X [] x=S) (hb:∀pre y,lk (X pre y).box b=some [dU (y:Int)]) (hup:∀pre (y y':Nat),(⟨up (X pre y).box b [dU (y':Int)],(X pre y).acc⟩:St)=X pre y')
 (hnb:∀pre y,(X pre y).box.map (·.1)=S.box.map (·.1)) (hna:∀pre y,(X pre y).acc.map (·.1)=S.acc.map (·.1)) (hzb:∀pre k y,(Z pre k y).box.map (·.1)=S.box.map (·.1)) (hza:∀pre k y,(Z pre k y).acc.map (·.1)=S.acc.map (·.1))
 (hround:∀pre k y,pre++k::ay y=ay x→Inv pre→vw Tryz.prog w0.np ss assign (kL ps.toList [dI (k:Int)] fr) (X pre y) (jQ (fun fr1 T1=>vw Tryz.prog w0.np ss body fr1 T1 fun e _ T'=>(e= .normal∧Inv (pre++[k])∧Has (X (pre++[k]) y) T')∨(e= .ret∧qM pre k y∧Has (Z pre k y) T')) fun _ _ _=>False))
 (hdone:Inv (ay x)→Q .normal fr (X (ay x) 0)) (hstop:∀pre k y,qM pre k y→Q .ret fr (Z pre k y)):fK Tryz.prog w0 (.rangeFunc fo ps assign body) fr S Q:=by
 simp only[Rm]at hc;obtain⟨⟨⟨c1,c2⟩,c3⟩,c4⟩:=hc;intro g a w h1 h2 h3 ro hro;have hro:ro=none:=hro.resolve_right (by simp[gA]);refine j4 hg hx X Z Inv hI0 qM (fun pre k y fr1 T1=>vw Tryz.prog w0.np ss body fr1 T1 fun e _ T'=>(e= .normal∧Inv (pre++[k])∧Has (X (pre++[k]) y) T')∨(e= .ret∧qM pre k y∧Has (Z pre k y) T')) hf hps c3 hX0 hb hup hnb hna hzb hza ?_ ?_ hdone hstop g a w h1 h2 h3 (.inl hro)
 ·intro pre k y hpre hinv
  exact(aY hm assign c1 (hround pre k y hpre hinv)).mono fun e fr' S' h=>by
   cases e <;>first|exact⟨rfl,h⟩|exact h.elim
 ·intro l r1 pre k y fr1 T1 hpre hinv hB g a w q1 q2 q3 q4;exact aY hm body c2 hB g a w q1 q2 q3 (some l) (.inr c4)
theorem Es(w0:W0)(x:Nat)(S:St):ab Tryz.prog w0 78 [dU (x:Int)] S (fun d S'=>∃b:FN S.box,d= .v (.func (.func 114) #[] #[.pointer (some ⟨b.n,0,none⟩)])∧S'=⟨(b.n,[dU (x:Int)])::S.box,S.acc⟩):=by
 refine yy [] mx Tryz.func78 rfl rfl (by kernel_rfl) ?_;simp(maxDischargeDepth:=12) (maxSteps:=1000000) -implicitDefEqProofs only[Tryz.ntmps78,go_sem,Nat.reduceAdd,Nat.reduceSub,Nat.reduceMul,Nat.reduceLeDiff,Nat.reduceEqDiff,Nat.reduceGT,Nat.reduceBEq,reduceCtorEq,↓reduceIte,Int.reduceToNat,Int.reduceLE,Int.reduceLT,Int.reduceNe,Int.reduceEq];exact fun b=>⟨b,rfl,rfl⟩
theorem Ec(p:Tmp)(d:DV)(fr:List DV):kL [p] [d] fr=fr.set p d:=rfl
theorem pj{x k:Nat}{pre l:List Nat}(h:pre++k::l=ay x):k<64:=by
 have:k∈ay x:=by rw[←h];simp
 exact(gE.1 this).1
theorem MG(w0:W0)(hg:cV w0)(x:Nat)(hx:x<18446744073709551616)(S:St):ab Tryz.prog w0 47 [dU (x:Int)] S (fun d S'=>d= .sl 1 false ((ay x).map fun k:Nat=>dI (k:Int))∧S'=S):=by
 refine cR [] mx Tryz.func47 rfl rfl (by kernel_rfl) ?_;simp(maxDischargeDepth:=12) (maxSteps:=1000000) -implicitDefEqProofs only[Tryz.ntmps47,go_sem,Nat.reduceAdd,Nat.reduceSub,Nat.reduceMul,Nat.reduceLeDiff,Nat.reduceEqDiff,Nat.reduceGT,Nat.reduceBEq,reduceCtorEq,↓reduceIte,Int.reduceToNat,Int.reduceLE,Int.reduceLT,Int.reduceNe,Int.reduceEq];intro bo;refine bQ (Es _ x _) ?_;rintro _ _ ⟨b,rfl,rfl⟩;simp(maxDischargeDepth:=12) (maxSteps:=1000000) -implicitDefEqProofs only[go_sem,Nat.reduceAdd,Nat.reduceSub,Nat.reduceMul,Nat.reduceLeDiff,Nat.reduceEqDiff,Nat.reduceGT,Nat.reduceBEq,reduceCtorEq,↓reduceIte,Int.reduceToNat,Int.reduceLE,Int.reduceLT,Int.reduceNe,Int.reduceEq];have hm8:maxLen=9223372036854775807:=rfl;refine dT bo.n 0 1 (by omega) (ds:=[.sl 0 true []]) (by simp(maxDischargeDepth:=12) (maxSteps:=1000000) -implicitDefEqProofs only[go_sem,Nat.reduceAdd,Nat.reduceSub,Nat.reduceMul,Nat.reduceLeDiff,Nat.reduceEqDiff,Nat.reduceGT,Nat.reduceBEq,reduceCtorEq,↓reduceIte,Int.reduceToNat,Int.reduceLE,Int.reduceLT,Int.reduceNe,Int.reduceEq]) rfl fun l=>?_;simp(maxDischargeDepth:=12) (maxSteps:=1000000) -implicitDefEqProofs only[go_sem,Nat.reduceAdd,Nat.reduceSub,Nat.reduceMul,Nat.reduceLeDiff,Nat.reduceEqDiff,Nat.reduceGT,Nat.reduceBEq,reduceCtorEq,↓reduceIte,Int.reduceToNat,Int.reduceLE,Int.reduceLT,Int.reduceNe,Int.reduceEq];refine Kl [] hg hx (b:=b.n) (fun pre y=>⟨(b.n,[dU (y:Int)])::(bo.n,[.acc l.n pre.length])::S.box,(l.n,.arr 1 (pre.map fun k:Nat=>dI (k:Int)))::S.acc⟩) (fun pre _ y=>⟨(b.n,[dU (y:Int)])::(bo.n,[.acc l.n pre.length])::S.box,(l.n,.arr 1 (pre.map fun k:Nat=>dI (k:Int)))::S.acc⟩) (fun _=>True) (fun _ _ _=>False) mx (by kernel_rfl) rfl rfl trivial rfl ?_ ?_ (fun _ _=>rfl) (fun _ _=>rfl) (fun _ _ _=>rfl) (fun _ _ _=>rfl) ?_ ?_ (fun _ _ _ h=>h.elim)
 ·intro pre y;simp(maxDischargeDepth:=12) (maxSteps:=1000000) -implicitDefEqProofs only[go_sem,Nat.reduceAdd,Nat.reduceSub,Nat.reduceMul,Nat.reduceLeDiff,Nat.reduceEqDiff,Nat.reduceGT,Nat.reduceBEq,reduceCtorEq,↓reduceIte,Int.reduceToNat,Int.reduceLE,Int.reduceLT,Int.reduceNe,Int.reduceEq]
 ·intro pre y y';simp(maxDischargeDepth:=12) (maxSteps:=1000000) -implicitDefEqProofs only[go_sem,Nat.reduceAdd,Nat.reduceSub,Nat.reduceMul,Nat.reduceLeDiff,Nat.reduceEqDiff,Nat.reduceGT,Nat.reduceBEq,reduceCtorEq,↓reduceIte,Int.reduceToNat,Int.reduceLE,Int.reduceLT,Int.reduceNe,Int.reduceEq]
 ·intro pre k y hpre _
  have hpl:pre.length+1≤64:=by
   have h1:=congrArg List.length hpre
   have h2:(ay x).length≤64:=by
    have:=Tw (fun i=>x.testBit i) (List.range 64);rw[SJ]at this;exact this
   simp only[Rk,Ru]at h1;omega
  simp(maxDischargeDepth:=12) (maxSteps:=1000000) -implicitDefEqProofs only[go_sem,Nat.reduceAdd,Nat.reduceSub,Nat.reduceMul,Nat.reduceLeDiff,Nat.reduceEqDiff,Nat.reduceGT,Nat.reduceBEq,reduceCtorEq,↓reduceIte,Int.reduceToNat,Int.reduceLE,Int.reduceLT,Int.reduceNe,Int.reduceEq,Ec];refine⟨by omega,by omega,?_⟩;rw[R8];exact .refl _
 ·intro _;simp(maxDischargeDepth:=12) (maxSteps:=1000000) -implicitDefEqProofs only[go_sem,Nat.reduceAdd,Nat.reduceSub,Nat.reduceMul,Nat.reduceLeDiff,Nat.reduceEqDiff,Nat.reduceGT,Nat.reduceBEq,reduceCtorEq,↓reduceIte,Int.reduceToNat,Int.reduceLE,Int.reduceLT,Int.reduceNe,Int.reduceEq]
theorem fm{α:Type}{l:List (Nat×α)}(b:FN l){c:Nat}{x:α}(h:lk l c=some x):(b.n=c)=False:=af b c (by rw[h];rfl)
theorem lZ{α:Type}{l l':List (Nat×α)}{d:α}{b c:Nat}{x:α}(h:(b=c)=False)(h':lk l c=some x):lk ((b,d)::l) c=some x:=by
 unfold lk;rw[if_neg (by first|(rw[h];exact id)|(intro e;exact h.mp e.symm))];exact h'
def Kz(l:Nat)(r1:Loop)(P:Program)(w0:W0)(c:Code)(fr:List DV)(S:St)(Q:Exit→List DV→St→Prop):Prop:=
 ∀g a w,Rel w0 g S w→aa g fr a.tmps.toList→Dk w0 g a w→g.obj l=some (.loop r1)→c.wpIn (fz (some l)) 0 P (Aml.Good w0 g Q) a w
theorem xL{l:Nat}{r1:Loop}{P:Program}{w0:W0}{c:Code}{fr:List DV}{S:St}{Q:Exit→List DV→St→Prop}(hn:gA c=true)(h:fK P w0 c fr S Q):Kz l r1 P w0 c fr S Q:=fun g a w h1 h2 h3 _=>h g a w h1 h2 h3 (some l) (.inr hn)
theorem rP{l:Nat}{r1:Loop}{P:Program}{w0:W0}{x y:Code}{fr:List DV}{S:St}{Q:Exit→List DV→St→Prop}(h:Kz l r1 P w0 x fr S (jQ (fun fr S=>Kz l r1 P w0 y fr S Q) Q)):Kz l r1 P w0 (.seq x y) fr S Q:=by
 intro g a w h1 h2 h3 h4;refine wpIn_seq (wpIn_mono (h g a w h1 h2 h3 h4) ?_);intro e a' w' hg;obtain⟨hd,g',fr',S',k1,k2,k3,k4⟩:=hg
 cases e with
 |normal=>exact wpIn_mono (k4 g' a' w' k2 k3 (k1.dk hd) (k1.obj▸h4)) fun _ _ _ k=>k.of_le k1
 |exit n=>exact⟨hd,g',fr',S',k1,k2,k3,k4⟩
 |goto n=>exact⟨hd,g',fr',S',k1,k2,k3,k4⟩
 |ret=>exact⟨hd,g',fr',S',k1,k2,k3,k4⟩
 |panic ch=>exact⟨hd,g',fr',S',k1,k2,k3,k4⟩
 |outgrown=>exact⟨hd,g',fr',S',k1,k2,k3,k4⟩
theorem qN{l n:Nat}{r1:Loop}{P:Program}{w0:W0}{c:Code}{fr:List DV}{S:St}{Q:Exit→List DV→St→Prop}(h:Kz l r1 P w0 c fr S (ij n Q)):Kz l r1 P w0 (.block n c) fr S Q:=by
 intro g a w h1 h2 h3 h4;refine wpIn_block (wpIn_mono (h g a w h1 h2 h3 h4) ?_);intro e a' w' hg;obtain⟨hd,g',fr',S',k1,k2,k3,k4⟩:=hg
 cases e with
 |normal=>exact⟨hd,g',fr',S',k1,k2,k3,k4⟩
 |exit m=>
  simp only[Exit.inBlock];simp only[Qp,ij]at k4;split
  ·rename_i e;rw[if_pos e]at k4;exact⟨hd,g',fr',S',k1,k2,k3,k4⟩
  ·rename_i e;rw[if_neg e]at k4;exact⟨hd,g',fr',S',k1,k2,k3,k4⟩
 |goto n=>exact⟨hd,g',fr',S',k1,k2,k3,k4⟩
 |ret=>exact⟨hd,g',fr',S',k1,k2,k3,k4⟩
 |panic ch=>exact⟨hd,g',fr',S',k1,k2,k3,k4⟩
 |outgrown=>exact⟨hd,g',fr',S',k1,k2,k3,k4⟩
def vH(le:Nat→Nat→Bool)(x a:Nat):Bool:=(ay x).all fun d=>le a d
theorem KI(w0:W0)(hg:cV w0)(x:Nat)(hx:x<18446744073709551616)(fl bx:Nat)(hok:okF Tryz.prog fl=true)(ds:List DV)(le:Nat→Nat→Bool)
 (hle:∀(w1:W0) (c d:Nat) (T:St),c<64→d<64→lk T.box bx=some ds→ab Tryz.prog w1 fl [dI (c:Int),dI (d:Int),.v (.pointer (some ⟨bx,0,none⟩))] T (fun d' T'=>d'=dB (le c d)∧T'=T)) (S:St) (hbx:lk S.box bx=some ds):
 ab Tryz.prog w0 105 [dU (x:Int),.v (.func (.func fl) #[] #[.pointer (some ⟨bx,0,none⟩)])] S (fun d S'=>(∃r:Int,d=dI r∧((r= -1∧∀a,a∈ay x→vH le x a=false)∨∃pre k rest,r=(k:Nat)∧pre++k::rest=ay x∧(∀a,a∈pre→vH le x a=false)∧vH le x k=true))∧S'=S):=by
 refine Oq [] mx Tryz.func105 rfl rfl (by kernel_rfl) ?_;simp(maxDischargeDepth:=12) (maxSteps:=1000000) -implicitDefEqProofs only[go_sem,Nat.reduceAdd,Nat.reduceSub,Nat.reduceMul,Nat.reduceLeDiff,Nat.reduceEqDiff,Nat.reduceGT,Nat.reduceBEq,reduceCtorEq,↓reduceIte,Int.reduceToNat,Int.reduceLE,Int.reduceLT,Int.reduceNe,Int.reduceEq,Tryz.ntmps105];intro b2 b3 b4;have e2:=fm b2 hbx;have g2:=fun d=>lZ (l':=S.box) (d:=d) e2 hbx;have e3:=fm b3 (g2 _);have g3:=fun d d'=>lZ (l':=S.box) (d:=d) e3 (g2 d');have e4:=fm b4 (g3 _ _);have g4:=fun d d' d''=>lZ (l':=S.box) (d:=d) e4 (g3 d' d'');refine bQ (Es _ x _) ?_;rintro _ _ ⟨be,rfl,rfl⟩;have e5:=fm be (g4 _ _ _);have g5:=fun d d' d'' d3=>lZ (l':=S.box) (d:=d) e5 (g4 d' d'' d3);simp(maxDischargeDepth:=12) (maxSteps:=1000000) -implicitDefEqProofs only[go_sem,Nat.reduceAdd,Nat.reduceSub,Nat.reduceMul,Nat.reduceLeDiff,Nat.reduceEqDiff,Nat.reduceGT,Nat.reduceBEq,reduceCtorEq,↓reduceIte,Int.reduceToNat,Int.reduceLE,Int.reduceLT,Int.reduceNe,Int.reduceEq];intro g a w h1 h2 h3 ro hro;have hro:ro=none:=hro.resolve_right (by simp[gA])
 refine j4 hg hx (b:=be.n) (fun pre y=>⟨(be.n,[dU (y:Int)])::(b4.n,[dI 0])::(b3.n,[.v (.func (.func fl) #[] #[.pointer (some ⟨bx,0,none⟩)])])::(b2.n,[dU (x:Int)])::S.box,S.acc⟩) (fun pre k y=>⟨(be.n,[dU (y:Int)])::(b4.n,[dI (k:Int)])::(b3.n,[.v (.func (.func fl) #[] #[.pointer (some ⟨bx,0,none⟩)])])::(b2.n,[dU (x:Int)])::S.box,S.acc⟩)
  (fun pre=>∀a,a∈pre→vH le x a=false) (fun _ h=>by cases h) (fun pre k y=>pre++k::ay y=ay x∧(∀a,a∈pre→vH le x a=false)∧vH le x k=true)
  (fun pre k y fr1 T1=>∀l r1,(∀a,a∈pre→vH le x a=false)→Kz l r1 Tryz.prog w0.np _ fr1 T1 fun e _ T'=>(e= .normal∧(∀a,a∈pre++[k]→vH le x a=false)∧Has ⟨(be.n,[dU (y:Int)])::(b4.n,[dI 0])::(b3.n,[.v (.func (.func fl) #[] #[.pointer (some ⟨bx,0,none⟩)])])::(b2.n,[dU (x:Int)])::S.box,S.acc⟩ T')∨(e= .ret∧(pre++k::ay y=ay x∧(∀a,a∈pre→vH le x a=false)∧vH le x k=true)∧Has ⟨(be.n,[dU (y:Int)])::(b4.n,[dI (k:Int)])::(b3.n,[.v (.func (.func fl) #[] #[.pointer (some ⟨bx,0,none⟩)])])::(b2.n,[dU (x:Int)])::S.box,S.acc⟩ T'))
  rfl rfl (by kernel_rfl) rfl ?_ ?_ (fun _ _=>rfl) (fun _ _=>rfl) (fun _ _ _=>rfl) (fun _ _ _=>rfl) ?_ (fun l r1 pre k y fr1 T1 hpre hinv hB g a w q1 q2 q3 q4=>hB l r1 hinv g a w q1 q2 q3 q4) ?_ ?_ g a w h1 h2 h3 (.inl hro)
 ·intro pre y;simp(maxDischargeDepth:=12) (maxSteps:=1000000) -implicitDefEqProofs only[go_sem,Nat.reduceAdd,Nat.reduceSub,Nat.reduceMul,Nat.reduceLeDiff,Nat.reduceEqDiff,Nat.reduceGT,Nat.reduceBEq,reduceCtorEq,↓reduceIte,Int.reduceToNat,Int.reduceLE,Int.reduceLT,Int.reduceNe,Int.reduceEq]
 ·intro pre y y';simp(maxDischargeDepth:=12) (maxSteps:=1000000) -implicitDefEqProofs only[go_sem,Nat.reduceAdd,Nat.reduceSub,Nat.reduceMul,Nat.reduceLeDiff,Nat.reduceEqDiff,Nat.reduceGT,Nat.reduceBEq,reduceCtorEq,↓reduceIte,Int.reduceToNat,Int.reduceLE,Int.reduceLT,Int.reduceNe,Int.reduceEq]
 ·intro pre k y hpre hinv;have hk64:=pj hpre;refine aY (ss:=[]) mx _ (by kernel_rfl) ?_;simp(maxDischargeDepth:=12) (maxSteps:=1000000) -implicitDefEqProofs only[go_sem,Nat.reduceAdd,Nat.reduceSub,Nat.reduceMul,Nat.reduceLeDiff,Nat.reduceEqDiff,Nat.reduceGT,Nat.reduceBEq,reduceCtorEq,↓reduceIte,Int.reduceToNat,Int.reduceLE,Int.reduceLT,Int.reduceNe,Int.reduceEq,Ec];intro b5 l r1 hpre0;have e6:=fm b5 (g5 _ _ _ _);have g6:=fun d d' d'' d3 d4=>lZ (l':=S.box) (d:=d) e6 (g5 d' d'' d3 d4);refine qN (rP (xL (by kernel_rfl) (aY (ss:=[]) mx _ (by kernel_rfl) ?_)));simp(maxDischargeDepth:=12) (maxSteps:=1000000) -implicitDefEqProofs only[go_sem,Nat.reduceAdd,Nat.reduceSub,Nat.reduceMul,Nat.reduceLeDiff,Nat.reduceEqDiff,Nat.reduceGT,Nat.reduceBEq,reduceCtorEq,↓reduceIte,Int.reduceToNat,Int.reduceLE,Int.reduceLT,Int.reduceNe,Int.reduceEq];intro b6;have e7:=fm b6 (g6 _ _ _ _ _);have g7:=fun d d' d'' d3 d4 d5=>lZ (l':=S.box) (d:=d) e7 (g6 d' d'' d3 d4 d5);refine rP (rP (xL (by kernel_rfl) (aY (ss:=[]) mx _ (by kernel_rfl) ?_)));simp(maxDischargeDepth:=12) (maxSteps:=1000000) -implicitDefEqProofs only[go_sem,Nat.reduceAdd,Nat.reduceSub,Nat.reduceMul,Nat.reduceLeDiff,Nat.reduceEqDiff,Nat.reduceGT,Nat.reduceBEq,reduceCtorEq,↓reduceIte,Int.reduceToNat,Int.reduceLE,Int.reduceLT,Int.reduceNe,Int.reduceEq];refine bQ (Es _ x _) ?_;rintro _ _ ⟨be2,rfl,rfl⟩;have e8:=fm be2 (g7 _ _ _ _ _ _);simp(maxDischargeDepth:=12) (maxSteps:=1000000) -implicitDefEqProofs only[go_sem,Nat.reduceAdd,Nat.reduceSub,Nat.reduceMul,Nat.reduceLeDiff,Nat.reduceEqDiff,Nat.reduceGT,Nat.reduceBEq,reduceCtorEq,↓reduceIte,Int.reduceToNat,Int.reduceLE,Int.reduceLT,Int.reduceNe,Int.reduceEq];refine qN ?_;intro g a w q1 q2 q3 q4;have hgn:cV w0.np:=hg
  refine j4 (w0:=w0.np) hgn hx (b:=be2.n) (fun pre2 y2=>⟨(be2.n,[dU (y2:Int)])::(b6.n,[dB (pre2.all fun d=>le k d)])::(b5.n,[dI (k:Int)])::(be.n,[dU (y:Int)])::(b4.n,[dI 0])::(b3.n,[.v (.func (.func fl) #[] #[.pointer (some ⟨bx,0,none⟩)])])::(b2.n,[dU (x:Int)])::S.box,S.acc⟩) (fun pre2 _ y2=>⟨(be2.n,[dU (y2:Int)])::(b6.n,[dB (pre2.all fun d=>le k d)])::(b5.n,[dI (k:Int)])::(be.n,[dU (y:Int)])::(b4.n,[dI 0])::(b3.n,[.v (.func (.func fl) #[] #[.pointer (some ⟨bx,0,none⟩)])])::(b2.n,[dU (x:Int)])::S.box,S.acc⟩)
   (fun _=>True) trivial (fun _ _ _=>False)
   (fun pre2 k2 y2 fr1 T1=>vw Tryz.prog w0.np.np [] _ fr1 T1 fun e _ T'=>e= .normal∧Has (⟨(be2.n,[dU (y2:Int)])::(b6.n,[dB ((pre2++[k2]).all fun d=>le k d)])::(b5.n,[dI (k:Int)])::(be.n,[dU (y:Int)])::(b4.n,[dI 0])::(b3.n,[.v (.func (.func fl) #[] #[.pointer (some ⟨bx,0,none⟩)])])::(b2.n,[dU (x:Int)])::S.box,S.acc⟩:St) T')
   rfl rfl (by kernel_rfl) rfl ?_ ?_ (fun _ _=>rfl) (fun _ _=>rfl) (fun _ _ _=>rfl) (fun _ _ _=>rfl) ?_ (fun l2 r2 pre2 k2 y2 fr1 T1 hpre2 _ hB g a w p1 p2 p3 p4=>wpIn_mono (aY (ss:=[]) mx _ (by kernel_rfl) hB g a w p1 p2 p3 (some l2) (.inr (by kernel_rfl))) fun e a w k=>k.mono fun e fr S h=> .inl ⟨h.1,trivial,h.2⟩) ?_ (fun _ _ _ h=>h.elim) g a w q1 q2 q3 (.inr ⟨l,r1,rfl,q4⟩)
  ·intro pre2 y2;simp(maxDischargeDepth:=12) (maxSteps:=1000000) -implicitDefEqProofs only[go_sem,Nat.reduceAdd,Nat.reduceSub,Nat.reduceMul,Nat.reduceLeDiff,Nat.reduceEqDiff,Nat.reduceGT,Nat.reduceBEq,reduceCtorEq,↓reduceIte,Int.reduceToNat,Int.reduceLE,Int.reduceLT,Int.reduceNe,Int.reduceEq]
  ·intro pre2 y2 y2';simp(maxDischargeDepth:=12) (maxSteps:=1000000) -implicitDefEqProofs only[go_sem,Nat.reduceAdd,Nat.reduceSub,Nat.reduceMul,Nat.reduceLeDiff,Nat.reduceEqDiff,Nat.reduceGT,Nat.reduceBEq,reduceCtorEq,↓reduceIte,Int.reduceToNat,Int.reduceLE,Int.reduceLT,Int.reduceNe,Int.reduceEq]
  ·intro pre2 k2 y2 hpre2 _;have hk2:=pj hpre2;refine aY (ss:=[]) mx _ (by kernel_rfl) ?_;simp(maxDischargeDepth:=12) (maxSteps:=1000000) -implicitDefEqProofs only[go_sem,Nat.reduceAdd,Nat.reduceSub,Nat.reduceMul,Nat.reduceLeDiff,Nat.reduceEqDiff,Nat.reduceGT,Nat.reduceBEq,reduceCtorEq,↓reduceIte,Int.reduceToNat,Int.reduceLE,Int.reduceLT,Int.reduceNe,Int.reduceEq,Ec];refine⟨fun hp=>?_,fun hp=>?_⟩
   ·rw[hok];simp(maxDischargeDepth:=12) (maxSteps:=1000000) -implicitDefEqProofs only[go_sem,Nat.reduceAdd,Nat.reduceSub,Nat.reduceMul,Nat.reduceLeDiff,Nat.reduceEqDiff,Nat.reduceGT,Nat.reduceBEq,reduceCtorEq,↓reduceIte,Int.reduceToNat,Int.reduceLE,Int.reduceLT,Int.reduceNe,Int.reduceEq];refine aq (hle _ k k2 _ hk64 hk2 (by simp(maxDischargeDepth:=12) (maxSteps:=1000000) -implicitDefEqProofs only[go_sem,Nat.reduceAdd,Nat.reduceSub,Nat.reduceMul,Nat.reduceLeDiff,Nat.reduceEqDiff,Nat.reduceGT,Nat.reduceBEq,reduceCtorEq,↓reduceIte,Int.reduceToNat,Int.reduceLE,Int.reduceLT,Int.reduceNe,Int.reduceEq,e2,e3,e4,e5,e6,e7,e8,hbx])) ?_;simp(maxDischargeDepth:=12) (maxSteps:=1000000) -implicitDefEqProofs only[go_sem,Nat.reduceAdd,Nat.reduceSub,Nat.reduceMul,Nat.reduceLeDiff,Nat.reduceEqDiff,Nat.reduceGT,Nat.reduceBEq,reduceCtorEq,↓reduceIte,Int.reduceToNat,Int.reduceLE,Int.reduceLT,Int.reduceNe,Int.reduceEq];rw[List.all_append,hp];simp only[SU,List.all_nil,Bool.and_true,Tk];exact .refl _
   ·rw[List.all_append,hp,Bool.false_and];exact .refl _
  ·intro _;simp(maxDischargeDepth:=12) (maxSteps:=1000000) -implicitDefEqProofs only[go_sem,Nat.reduceAdd,Nat.reduceSub,Nat.reduceMul,Nat.reduceLeDiff,Nat.reduceEqDiff,Nat.reduceGT,Nat.reduceBEq,reduceCtorEq,↓reduceIte,Int.reduceToNat,Int.reduceLE,Int.reduceLT,Int.reduceNe,Int.reduceEq];refine xL (by kernel_rfl) (aY (ss:=[]) mx _ (by kernel_rfl) ?_);simp(maxDischargeDepth:=12) (maxSteps:=1000000) -implicitDefEqProofs only[go_sem,Nat.reduceAdd,Nat.reduceSub,Nat.reduceMul,Nat.reduceLeDiff,Nat.reduceEqDiff,Nat.reduceGT,Nat.reduceBEq,reduceCtorEq,↓reduceIte,Int.reduceToNat,Int.reduceLE,Int.reduceLT,Int.reduceNe,Int.reduceEq];refine⟨fun h=>⟨hpre,hpre0,h⟩,fun h a ha=>?_⟩;rcases RB.1 ha with ha|ha
   ·exact hpre0 a ha
   ·rw[RX.1 ha];exact h
 ·intro hI;simp(maxDischargeDepth:=12) (maxSteps:=1000000) -implicitDefEqProofs only[go_sem,Nat.reduceAdd,Nat.reduceSub,Nat.reduceMul,Nat.reduceLeDiff,Nat.reduceEqDiff,Nat.reduceGT,Nat.reduceBEq,reduceCtorEq,↓reduceIte,Int.reduceToNat,Int.reduceLE,Int.reduceLT,Int.reduceNe,Int.reduceEq];exact⟨_,S,.refl _,⟨.cons _ (.cons _ (.cons _ (.cons _ (.refl _)))),.refl _⟩,⟨-1,rfl,.inl ⟨rfl,hI⟩⟩,rfl⟩
 ·intro pre k y hst;simp(maxDischargeDepth:=12) (maxSteps:=1000000) -implicitDefEqProofs only[go_sem,Nat.reduceAdd,Nat.reduceSub,Nat.reduceMul,Nat.reduceLeDiff,Nat.reduceEqDiff,Nat.reduceGT,Nat.reduceBEq,reduceCtorEq,↓reduceIte,Int.reduceToNat,Int.reduceLE,Int.reduceLT,Int.reduceNe,Int.reduceEq];exact⟨_,S,.refl _,⟨.cons _ (.cons _ (.cons _ (.cons _ (.refl _)))),.refl _⟩,⟨k,rfl,.inr ⟨pre,k,_,rfl,hst⟩⟩,rfl⟩
end Go.Proofs.YtiihljlagmmljaaGreatDoor
