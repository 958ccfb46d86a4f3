/-
  Part 9 of the proof that the last text ends: from 'A line's words taken one by one; what the reference keeps of what was parsed' to 'What a line does'. By an AI agent.
-/
import Derived.Test.YtiihljlagmmljaaGreatDoorMC8
import Derived.Test.YtiihljlagmmljaaGreatDoorMC5
import Derived.Shelf.SlGeneric
import Derived.Shelf.SlSortCmp.NoneTotal
import Derived.Ground.SlsfProg
import Derived.Test.YtiihljlagmmljaaGreatDoorProg
import Derived.Test.YtiihljlagmmljaaGreatDoorRows
import Derived.Test.YtiihljlagmmljaaGreatDoorMC4
import Derived.ProofKit
import Derived.OpenShut
import Derived.JoinedCond
import Derived.Carry
set_option linter.unusedVariables false
set_option linter.unusedSimpArgs false
set_option maxRecDepth 100000
set_option maxHeartbeats 16000000
namespace Go.Proofs.YtiihljlagmmljaaGreatDoor
open Aml Go Lat Grs Rn
def wh:List (List UInt8→Bool)→List Wd→Nat→List (List UInt8)→(List (List UInt8)→Cf)→Nat ⊕ Cf
 |[],ws,_,done,K=>gp ws (K done)
 |p::ps,ws,e,done,K=>az p ws e fun s t=>wh ps t e (done++[s]) K
def Gd(ps:List (List UInt8→Bool))(ws:List Wd)(i:Nat):Prop:=∀j,j<i→∃x p,ws[j]? =some x∧ps[j]? =some p∧p x.1=true
theorem Gd.tail{p:List UInt8→Bool}{ps:List (List UInt8→Bool)}{w:Wd}{ws:List Wd}{i:Nat}(h:Gd (p::ps) (w::ws) (i+1)):Gd ps ws i:=fun j hj=>by
 obtain⟨x,q,h1,h2,h3⟩:=h (j+1) (by omega);exact⟨x,q,by simpa using h1,by simpa using h2,h3⟩
theorem Gd.head{p:List UInt8→Bool}{ps:List (List UInt8→Bool)}{ws:List Wd}{i:Nat}(h:Gd (p::ps) ws (i+1)):∃w t,ws=w::t∧p w.1=true:=by
 obtain⟨x,q,h1,h2,h3⟩:=h 0 (by omega)
 cases ws with
 |nil=>cases h1
 |cons w t=>simp at h1 h2;subst h1;subst h2;exact⟨_,_,rfl,h3⟩
theorem zX:∀(ps:List (List UInt8→Bool)) (ws:List Wd) (e:Nat) (done:List (List UInt8)) (K:List (List UInt8)→Cf) (i:Nat),Gd ps ws i→ws.length≤i→i<ps.length→wh ps ws e done K= .inl e
 |[],ws,e,done,K,i,h1,h2,h3=>by cases h3
 |p::ps,ws,e,done,K,i,h1,h2,h3=>by
  cases i with
  |zero=>
   have:ws=[]:=Rs (by omega);subst this;rfl
  |succ i=>
   obtain⟨w,t,rfl,hw⟩:=h1.head;rw[wh,az];simp only[hw,if_true];exact zX ps t e _ K i h1.tail (by simpa using h2) (by simpa using h3)
theorem sL:∀(ps:List (List UInt8→Bool)) (ws:List Wd) (e:Nat) (done:List (List UInt8)) (K:List (List UInt8)→Cf) (i:Nat) (x:Wd) (p:List UInt8→Bool),Gd ps ws i→ws[i]? =some x→ps[i]? =some p→p x.1=false→wh ps ws e done K= .inl x.2
 |[],ws,e,done,K,i,x,p,h1,h2,h3,h4=>by cases h3
 |q::ps,ws,e,done,K,i,x,p,h1,h2,h3,h4=>by
  cases i with
  |zero=>
   cases ws with
   |nil=>cases h2
   |cons w t=>
    simp at h2 h3;subst h2;subst h3;rw[wh,az];simp only[h4];rfl
  |succ i=>
   obtain⟨w,t,rfl,hw⟩:=h1.head;rw[wh,az];simp only[hw,if_true];exact sL ps t e _ K i x p h1.tail (by simpa using h2) (by simpa using h3) h4
theorem vg:∀(ps:List (List UInt8→Bool)) (ws:List Wd) (e:Nat) (done:List (List UInt8)) (K:List (List UInt8)→Cf) (x:Wd),Gd ps ws ps.length→ws[ps.length]? =some x→wh ps ws e done K= .inl x.2
 |[],ws,e,done,K,x,h1,h2=>by
  cases ws with
  |nil=>cases h2
  |cons w t=>simp at h2;subst h2;rfl
 |q::ps,ws,e,done,K,x,h1,h2=>by
  obtain⟨w,t,rfl,hw⟩:=h1.head;rw[wh,az];simp only[hw,if_true];exact vg ps t e _ K x h1.tail (by simpa using h2)
theorem p9:∀(ps:List (List UInt8→Bool)) (ws:List Wd) (e:Nat) (done:List (List UInt8)) (K:List (List UInt8)→Cf),Gd ps ws ps.length→ws.length=ps.length→wh ps ws e done K= .inr (K (done++ws.map (·.1)))
 |[],ws,e,done,K,h1,h2=>by
  have:ws=[]:=Rs h2;subst this;simp[wh,gp]
 |q::ps,ws,e,done,K,h1,h2=>by
  obtain⟨w,t,rfl,hw⟩:=h1.head;rw[wh,az];simp only[hw,if_true];rw[p9 ps t e _ K h1.tail (by simpa using h2)];simp
noncomputable def bA(c:Cf)(k:List UInt8):List (List UInt8→Bool):=if k=fO then [fun s=>pB (jY c.nm s),fun s=>decide (dM s)]else if k=jI then [fun s=>decide (s∈c.nm),fun s=>decide (s∈c.nm)]else [fun s=>decide (s∈c.nm),fun s=>decide (s∈c.nm),fun s=>decide (s∈c.nm)]
def pT(c:Cf)(k:List UInt8)(l:List (List UInt8)):Cf:=if k=fO then(match l with|[n,q]=>⟨c.nm++[n],c.up++[0],c.qu++[(iD q:Int)],c.gr⟩|_=>c)else if k=jI then(match l with|[a,b]=>⟨c.nm,c.up.set (ix c a) (c.up.getD (ix c a) 0 ||| 2^ix c b),c.qu,c.gr⟩|_=>c)else(match l with|[a,f,o]=>⟨c.nm,c.up,c.qu,c.gr++[⟨(ix c a:Int),(ix c f:Int),(ix c o:Int)⟩]⟩|_=>c)
theorem pa:¬jI=fO:=by decide
theorem pJ:¬mw=fO:=by decide
theorem kG:¬mw=jI:=by decide
theorem mm{c:Cf}{k:List UInt8}{a:Nat}{t:List Wd}{e:Nat}(hk:jE k=true):cX c ((k,a)::t) e=wh (bA c k) t e [] (pT c k):=by
 unfold cX;rw[az];simp only[hk,if_true];by_cases h1:k=fO
 ·rw[if_pos h1];unfold bA;rw[if_pos h1];simp only[wh,Sb,RQ,pT,if_pos h1];rfl
 ·rw[if_neg h1];by_cases h2:k=jI
  ·rw[if_pos h2];unfold bA;rw[if_neg h1,if_pos h2];simp only[wh,Sb,RQ,pT,if_neg h1,if_pos h2];rfl
  ·rw[if_neg h2];unfold bA;rw[if_neg h1,if_neg h2];simp only[wh,Sb,RQ,pT,if_neg h1,if_neg h2];rfl
def qb(c:Cf):Cf:=⟨c.nm,bf c.up,c.qu,fM c.gr⟩
theorem yQ{up:List Nat}{a:Nat}(h:a<up.length):(bf up)[a]? =some (aC up a ||| 2^a):=by
 unfold bf;rw[Rt,R9 h];rfl
theorem Co{up:List Nat}(h:∀x,x∈up→x<2^up.length):bf (up++[0])=bf up++[2^up.length]:=by
 have hl:(up++[0]).length=up.length+1:=by simp
 unfold bf;rw[hl,Tv,R8,List.map_singleton];congr 1
 ·refine Tm fun a ha=>?_;rw[Si]at ha;have hx:up[a]? =some up[a]:=so ha;have hm:=h _ (TE ha);have e1:(up++[0]).getD a 0=up[a]:=by rw[Rl,RV ha,hx];rfl
  have e2:up.getD a 0=up[a]:=by rw[Rl,hx];rfl
  unfold aC;rw[e1,e2,hl,SA hm,SA (Nat.lt_trans hm (fQ (by omega)))]
 ·have e1:(up++[0]).getD up.length 0=0:=by simp
  unfold aC;rw[e1];simp
theorem EV{up:List Nat}{a b:Nat}(ha:a<up.length)(hb:b<up.length):bf (up.set a (up.getD a 0 ||| 2^b))=if((bf up).getD a 0).testBit b then bf up else(bf up).set a ((bf up).getD a 0+2^b):=by
 have hx:up[a]? =some up[a]:=so ha;have hg:up.getD a 0=up[a]:=by rw[Rl,hx];rfl
 have ho:=yQ ha;have hog:(bf up).getD a 0=aC up a ||| 2^a:=by rw[Rl,ho];rfl
 have hbt:bt (bf up) a b=((bf up).getD a 0).testBit b:=rfl;rw[dn ha]at hbt;rw[hg]
 have key:∀i j,i<up.length→bt (bf (up.set a (up[a] ||| 2^b))) i j=(if i=a then bt (bf up) i j||decide (b=j)else bt (bf up) i j):=fun i j hi=>by
  rw[dn (by simpa using hi),dn hi,pP hx,SZ];split
  ·cases h1:decide (j<up.length) <;>cases h2:bt up i j <;>cases h3:decide (b=j) <;>simp
   ·simp at h1 h3;omega
   ·simp at h1 h3;omega
  ·rfl
 split
 ·rename_i h;rw[h]at hbt;refine fu (by simp[ah]) fun i j=>?_;by_cases hi:i<up.length
  ·rw[key i j hi];split
   ·rename_i e;subst e;by_cases hj:b=j
    ·subst hj;rw[dn hi,hbt];rfl
    ·rw[decide_eq_false hj,Bool.or_false]
   ·rfl
  ·rw[jh (by rw[ah,SZ];omega),jh (by rw[ah];omega)]
 ·rename_i h;have h':((bf up).getD a 0).testBit b=false:=by simpa using h
  rw[←po h',hog];refine fu (by simp[ah]) fun i j=>?_;by_cases hi:i<up.length
  ·rw[key i j hi,pP ho]
  ·rw[jh (by rw[ah,SZ];omega),jh (by rw[SZ,ah];omega)]
theorem AV(up:List Nat):bf (bf up)=bf up:=by
 refine fu (by simp[ah]) fun i j=>?_;by_cases hi:i<up.length
 ·rw[dn (by rw[ah];exact hi),dn hi,ah];cases decide (j<up.length) <;>cases bt up i j <;>cases decide (i=j) <;>rfl
 ·rw[jh (by rw[ah,ah];omega),jh (by rw[ah];omega)]
theorem nM(up:List Nat):aV (bf up)=aV up:=by
 unfold aV bE;rw[ah,AV]
theorem JL{c:Cf}(hc:Cw c)(n:List UInt8)(q:Int):qb ⟨c.nm++[n],c.up++[0],c.qu++[q],c.gr⟩=⟨c.nm++[n],bf c.up++[2^c.up.length],c.qu++[q],fM c.gr⟩:=by
 unfold qb;rw[Co (by rw[hc.cu];exact hc.bit)]
def jn:List (List UInt8)→List UInt8
 |[]=>[]
 |[w]=>w
 |w::r=>w++32::jn r
def ai(ws:List (List UInt8)):List UInt8:=jn ws++[10]
theorem zC:∀ws:List (List UInt8),Lib.join ws [32]=jn ws
 |[]=>rfl
 |[w]=>by simp[Lib.join,List.intercalate,jn]
 |w::w2::r=>by
  have:=zC (w2::r);simp[Lib.join,List.intercalate,jn]at this ⊢;rw[this]
def o8(c:Cf)(i:Nat):List (List UInt8):=[fO,c.nm.getD i [],Lib.itoa (c.qu.getD i 0)]
def kO(c:Cf)(a b:Nat):List (List UInt8):=[jI,c.nm.getD a [],c.nm.getD b []]
def qw(c:Cf)(g:G):List (List UInt8):=[mw,c.nm.getD g.a.toNat [],c.nm.getD g.f.toNat [],c.nm.getD g.t.toNat []]
def bz(c:Cf):List (List (List UInt8)):=(List.range c.nm.length).map (o8 c)
def mT(c:Cf)(a:Nat):List (List (List UInt8)):=((ay (c.up.getD a 0)).filter fun b=>decide (a≠b)).map (kO c a)
def mM(c:Cf):List (List (List UInt8)):=(List.range c.up.length).flatMap (mT c)
def dv(c:Cf):List (List (List UInt8)):=c.gr.map (qw c)
def vV(c:Cf):List (List (List UInt8)):=bz c++mM c++dv c
noncomputable def ll(c:Cf):List UInt8:=if pB (gv c)then(vV c).flatMap ai else []
theorem dP{L:List (List (List UInt8))}(h:∀w,w∈L→(ai w).length≤200):(L.flatMap ai).length≤200*L.length:=by
 induction L with
 |nil=>simp
 |cons w L ih=>
  rw[Sd,Rk,Ru];have:=h w Rx;have:=ih fun w hw=>h w (Rr _ hw);omega
def dd(u:Nat):List UInt8:=if u=0 then []else Lib.decDigits u
theorem zW{u:Nat}(h:u≠0):dd u=dd (u/10)++[UInt8.ofNat (48+u%10)]:=by
 unfold dd;rw[if_neg h,Lib.decDigits];split
 ·rw[if_pos (by omega),SA (by assumption)];rfl
 ·rw[if_neg (by omega)]
theorem wu:∀(k u:Nat),u<10^k→(dd u).length≤k
 |0,u,h=>by have:u=0:=by simpa using h
            subst this;simp[dd]
 |k+1,u,h=>by
  by_cases h0:u=0
  ·subst h0;simp[dd]
  ·rw[zW h0,Rk,Sg];have:=wu k (u/10) (by rw[SK]at h;omega);omega
theorem zP{n:Int}(h:4≤n∧n≤1000):Lib.itoa n=dd n.toNat:=by
 unfold Lib.itoa dd;rw[if_neg (by omega),if_neg (by omega)]
theorem pv{n:Int}(h:4≤n∧n≤1000):(Lib.itoa n).length≤4:=by
 rw[zP h];exact wu 4 _ (by omega)
theorem dV{l:List (List UInt8)}(h:∀s,s∈l→bL s)(i:Nat):(l.getD i []).length≤48:=by
 rw[Rl]
 cases hx:l[i]? with
 |none=>simp
 |some x=>exact(h x (Rj hx)).short
theorem GK{c:Cf}(hc:gv c){i:Nat}(hi:i<c.nm.length):(ai (o8 c i)).length≤200:=by
 have h1:=dV hc.name i;have h2:c.qu[i]? =some (c.qu[i]'(by have:=hc.cu;have:=hc.eJ;omega)):=so _;have h3:=hc.quo _ (Rj h2);have h4:=pv h3;have h5:c.qu.getD i 0=c.qu[i]'(by have:=hc.cu;have:=hc.eJ;omega):=by rw[Rl,h2];rfl
 unfold ai o8;simp only[jn,Rk,Ru,h5,fO,Sf];omega
theorem kZ{c:Cf}(hc:gv c)(a b:Nat):(ai (kO c a b)).length≤200:=by
 have h1:=dV hc.name a;have h2:=dV hc.name b;unfold ai kO;simp only[jn,Rk,Ru,jI,Sf];omega
theorem sE{c:Cf}(hc:gv c)(g:G):(ai (qw c g)).length≤200:=by
 have h1:=dV hc.name g.a.toNat;have h2:=dV hc.name g.f.toNat;have h3:=dV hc.name g.t.toNat;unfold ai qw;simp only[jn,Rk,Ru,mw,Sf];omega
theorem sU{p:Nat→Bool}{n:Nat}(hn:n≤64)(h:∀b,p b=true→b<n):(List.range 64).filter p=(List.range n).filter p:=by
 obtain⟨m,hm⟩:∃m,64=n+m:=⟨64-n,by omega⟩
 have h2:((List.range m).map (n+·)).filter p=[]:=List.filter_eq_nil_iff.2 fun b hb hp=>by
  obtain⟨k,_,rfl⟩:=RI.1 hb;have:=h _ hp;omega
 rw[hm,List.range_add,TL,h2,RU]
theorem xX{c:Cf}(hc:gv c)(a:Nat):mT c a=((List.range c.up.length).filter fun b=>decide (a≠b)&&bt c.up a b).map (kO c a):=by
 unfold mT ay;rw[List.filter_filter];congr 1;refine(sU hc.tK.le fun b hb=>?_);rw[Rm]at hb;exact hc.tK.cl.lt a b hb.2
theorem lL(x:Nat):(ay x).length≤64:=by
 unfold ay;have:=Tw (fun i=>x.testBit i) (List.range 64);rw[SJ]at this;exact this
theorem Ez(c:Cf)(a:Nat):(mT c a).length≤64:=by
 unfold mT;rw[RM];exact Se (Tw _ _) (lL _)
theorem Lw(w0:W0)(h0:w0.w.drawn=0)(S:St)(l k:Nat)(bs:List UInt8)(hl:lk S.acc l=some (Cz k bs))(ws:List (List UInt8))(hne:ws≠[])(hn:ws.length≤1000)(hb:bs.length≤10000000)(hw:(ai ws).length≤1000):
 ab Tryz.prog w0 43 [.sl 1 false (aU ws),.v (.pointer (some ⟨k,0,none⟩))] S (fun d S'=>d= .bU []∧S'=⟨S.box,up S.acc l (Cz k (bs++ai ws))⟩):=by
 have hj:Lib.join ((ws.map tx).map (·.data.toList)) [32]=jn ws:=by
  rw[←zC ws,S6];congr 1;have:((fun x:ByteArray=>x.data.toList)∘tx)=id:=funext fun l=>aK l;rw[this,List.map_id]
 have hjl:(jn ws).length≤1000:=by unfold ai at hw;rw[Rk]at hw;omega
 have hJ:=MJ w0 h0 false (ws.map tx) ⟨#[32]⟩ (by simpa using hne) (by simpa using hn) (by
  show(Lib.join ((ws.map tx).map (·.data.toList)) [32]).length≤_;rw[hj];omega)
 have hJ':∀S,ab Tryz.prog w0 45 [.sl 1 false (aU ws),dS ⟨#[32]⟩] S (fun d S'=>d=dS (tx (jn ws))∧S'=S):=fun S=>by
  have h:=hJ S;rw[show Lib.join ((ws.map tx).map (·.data.toList)) (⟨#[32]⟩:ByteArray).data.toList=jn ws from hj,S6]at h;exact h
 refine yy [] mx Tryz.func43 rfl rfl (by kernel_rfl) ?_;simp only[Tryz.ntmps43,Ru,Sf,Nat.reduceAdd,Nat.reduceSub,List.reduceReplicate,RQ,Sb];simp(maxDischargeDepth:=12) (maxSteps:=1000000) -implicitDefEqProofs only[Tryz.ntmps43,go_sem,Nat.reduceAdd,Nat.reduceSub,Nat.reduceMul,Nat.reduceLeDiff,Nat.reduceEqDiff,Nat.reduceGT,Nat.reduceBEq,reduceCtorEq,↓reduceIte,Int.reduceToNat,Int.reduceLE,Int.reduceLT,Int.reduceNe,Int.reduceEq];refine aq (hJ' _) ?_;simp(maxDischargeDepth:=12) (maxSteps:=1000000) -implicitDefEqProofs only[go_sem,Nat.reduceAdd,Nat.reduceSub,Nat.reduceMul,Nat.reduceLeDiff,Nat.reduceEqDiff,Nat.reduceGT,Nat.reduceBEq,reduceCtorEq,↓reduceIte,Int.reduceToNat,Int.reduceLE,Int.reduceLT,Int.reduceNe,Int.reduceEq];have hl2:(tx (jn ws)++⟨#[10]⟩:ByteArray).data.toList=ai ws:=by rw[dj,aK];rfl
 refine⟨by rw[aP];omega,bQ (MQ w0 h0 S l k bs (tx (jn ws)++⟨#[10]⟩) hl (by rw[←aw,hl2];omega)) ?_⟩;rw[hl2];rintro _ _ ⟨rfl,rfl⟩;simp(maxDischargeDepth:=12) (maxSteps:=1000000) -implicitDefEqProofs only[go_sem,Nat.reduceAdd,Nat.reduceSub,Nat.reduceMul,Nat.reduceLeDiff,Nat.reduceEqDiff,Nat.reduceGT,Nat.reduceBEq,reduceCtorEq,↓reduceIte,Int.reduceToNat,Int.reduceLE,Int.reduceLT,Int.reduceNe,Int.reduceEq]
def rA:Option (List UInt8)→List (Nat×List UInt8)→List (List UInt8)
 |c,[]=>c.toList
 |c,r::t=>if r.1=35 then c.toList else if r.1=32∨r.1=9 then c.toList++rA none t else rA (some (c.getD []++r.2)) t
def Gw(l:List UInt8):List (List UInt8):=rA none (ak l)
theorem tw:∀(R:List (Nat×List UInt8)) (n e:Nat) (c:Option Wd),(cj n e c R).1.map (·.1)=rA (c.map (·.1)) R
 |[],n,e,c=>by rw[cj,rA];cases c <;>rfl
 |r::t,n,e,c=>by
  rw[cj,rA];split
  ·cases c <;>rfl
  ·split
   ·simp only[R8];rw[tw t (n+1) e none];cases c <;>rfl
   ·rw[tw t (n+1) (n+2) _];cases c <;>rfl
theorem D0(l:List UInt8):(gP l).1.map (·.1)=Gw l:=tw (ak l) 0 1 none
structure Tok(w:List UInt8):Prop where
 ne:w≠[]
 whole:whole w
 KZ:∀x,x∈w→x≠10∧x≠32∧x≠9∧x≠35
theorem vz{w:List UInt8}{r:Nat×List UInt8}(h:r∈ak w){x:UInt8}(hx:x∈r.2):x∈w:=by
 rw[←iL w];exact TB.2 ⟨r,h,hx⟩
theorem Tok.ak{w:List UInt8}(h:Tok w):∀r,r∈Rn.ak w→r.1≠35∧¬(r.1=32∨r.1=9):=fun r hr=>by
 by_cases h2:r.1<128
 ·obtain⟨c,rfl⟩:=zn hr h2;have hc:=h.KZ c (vz hr (by simp));simp only;refine⟨fun e=>hc.2.2.2 (Tx.1 e),fun e=>?_⟩;rcases e with e|e
  ·exact hc.2.1 (Tx.1 e)
  ·exact hc.2.2.1 (Tx.1 e)
 ·exact⟨by omega,by omega⟩
theorem zB:∀(R R':List (Nat×List UInt8)) (c:Option (List UInt8)),(∀r,r∈R→r.1≠35∧¬(r.1=32∨r.1=9))→R≠[]→rA c (R++R')=rA (some (c.getD []++R.flatMap (·.2))) R'
 |[],R',c,h,hne=>absurd rfl hne
 |[r],R',c,h,hne=>by
  obtain⟨h1,h2⟩:=h r (by simp);rw[RQ,rA,if_neg h1,if_neg h2];simp
 |r::r2::R,R',c,h,hne=>by
  obtain⟨h1,h2⟩:=h r (by simp);rw[RQ,rA,if_neg h1,if_neg h2,zB (r2::R) R' _ (fun x hx=>h x (Rr _ hx)) (by simp)];simp
theorem zc{w:List UInt8}(h:Tok w)(y:List UInt8)(c:Option (List UInt8)):rA c (ak (w++y))=rA (some (c.getD []++w)) (ak y):=by
 rw[ji h.whole,zB _ _ _ h.ak (Gf h.ne),iL]
structure Sp(s:List UInt8):Prop where
 ne:s≠[]
 KZ:∀x,x∈s→x=32∨x=9
theorem xt:∀(s y:List UInt8),(∀x,x∈s→x=32∨x=9)→rA none (ak (s++y))=rA none (ak y)
 |[],y,h=>rfl
 |x::s,y,h=>by
  have hx:=h x (by simp);rw[RQ,aM (by rcases hx with rfl|rfl <;>decide),rA,if_neg (by rcases hx with rfl|rfl <;>decide),if_pos (by rcases hx with rfl|rfl <;>decide),xt s y fun z hz=>h z (Rr _ hz)];rfl
theorem MZ{s:List UInt8}(h:Sp s)(y w:List UInt8):rA (some w) (ak (s++y))=w::rA none (ak y):=by
 obtain⟨hne,hb⟩:=h
 cases s with
 |nil=>exact absurd rfl hne
 |cons x s=>
  have hx:=hb x (by simp);rw[RQ,aM (by rcases hx with rfl|rfl <;>decide),rA,if_neg (by rcases hx with rfl|rfl <;>decide),if_pos (by rcases hx with rfl|rfl <;>decide),xt s y fun z hz=>hb z (Rr _ hz)];rfl
def uS(sep:List UInt8):List (List UInt8)→List UInt8
 |[]=>[]
 |[w]=>w
 |w::r=>w++(sep++uS sep r)
theorem yF:∀ws,uS [32] ws=jn ws
 |[]=>rfl
 |[w]=>rfl
 |w::w2::r=>by rw[uS,jn,yF (w2::r)];rfl;simp;simp
theorem s7{sep tail:List UInt8}(hs:Sp sep)(ht:∀w,rA (some w) (ak tail)=[w]):∀ws:List (List UInt8),ws≠[]→(∀w,w∈ws→Tok w)→Gw (uS sep ws++tail)=ws
 |[],h,_=>absurd rfl h
 |[w],_,h=>by
  unfold Gw;rw[uS,zc (h w (by simp)),ht];rfl
 |w::w2::r,_,h=>by
  have ih:=s7 hs ht (w2::r) (by simp) fun x hx=>h x (Rr _ hx);unfold Gw at ih ⊢;rw[uS,RJ,RJ,zc (h w (by simp)),MZ hs,ih];rfl;simp
def Mj(c:Cf)(ws:List (List UInt8))(c':Cf):Prop:=∃k t,ws=k::t∧jE k=true∧∀(ws':List Wd) (e:Nat),ws'.map (·.1)=t→wh (bA c k) ws' e [] (pT c k)= .inr c'
theorem Ka{c c':Cf}{l:List UInt8}{ws:List (List UInt8)}(hw:Gw l=ws)(h:Mj c ws c'):kv c l= .inr c':=by
 obtain⟨k,t,rfl,hk,h⟩:=h;rw[←D0]at hw;unfold kv;generalize gP l=we at hw;obtain⟨wl,e⟩:=we
 cases wl with
 |nil=>simp at hw
 |cons w wl=>
  obtain⟨k',a⟩:=w;simp only[Rz,Tc]at hw;obtain⟨rfl,hw⟩:=hw;rw[if_neg (by simp),mm hk];exact h wl e hw
theorem BY{c:Cf}{l:List UInt8}(hw:Gw l=[]):kv c l= .inr c:=by
 rw[←D0]at hw;unfold kv;rw[if_pos (by simpa using hw)]
theorem N2{ps:List (List UInt8→Bool)}{ws:List Wd}{t:List (List UInt8)}(hm:ws.map (·.1)=t)(h:∀(j:Nat) s p,t[j]? =some s→ps[j]? =some p→p s=true)(hl:t.length=ps.length):Gd ps ws ps.length:=fun j hj=>by
 subst hm;have hwl:ws.length=ps.length:=by rw[←hl,RM]
 have hx:ws[j]? =some (ws[j]'(by omega)):=so (by omega);have hp:ps[j]? =some ps[j]:=so hj;exact⟨_,_,hx,hp,h j _ _ (by rw[Rt,hx];rfl) hp⟩
theorem xW{c:Cf}{k:List UInt8}{t:List (List UInt8)}(hk:jE k=true)(hl:t.length=(bA c k).length)(h:∀(j:Nat) s p,t[j]? =some s→(bA c k)[j]? =some p→p s=true):Mj c (k::t) (pT c k t):=by
 refine⟨k,t,rfl,hk,fun ws' e hm=>?_⟩;rw[p9 (bA c k) ws' e [] (pT c k) (N2 hm h hl) (by rw[←RM (f:=(·.1)),hm,hl]),hm];rfl
theorem sG{c:Cf}{n q:List UInt8}(hn:jY c.nm n)(hq:dM q):Mj c [fO,n,q] ⟨c.nm++[n],c.up++[0],c.qu++[(iD q:Int)],c.gr⟩:=by
 have hps:bA c fO=[fun s=>pB (jY c.nm s),fun s=>decide (dM s)]:=by unfold bA;rw[if_pos rfl]
 have h:=xW (c:=c) (k:=fO) (t:=[n,q]) (by decide) (by rw[hps];rfl) fun j s p hs hp=>by
  rw[hps]at hp
  match j,hs,hp with
  |0,hs,hp=>cases hs;cases hp;exact aI hn
  |1,hs,hp=>cases hs;cases hp;exact decide_eq_true hq
  |j+2,hs,hp=>simp at hs
 have hK:pT c fO [n,q]=⟨c.nm++[n],c.up++[0],c.qu++[(iD q:Int)],c.gr⟩:=by unfold pT;rw[if_pos rfl]
 rw[hK]at h;exact h
theorem yW{c:Cf}{a b:List UInt8}(ha:a∈c.nm)(hb:b∈c.nm):Mj c [jI,a,b] ⟨c.nm,c.up.set (ix c a) (c.up.getD (ix c a) 0 ||| 2^ix c b),c.qu,c.gr⟩:=by
 have hps:bA c jI=[fun s=>decide (s∈c.nm),fun s=>decide (s∈c.nm)]:=by unfold bA;rw[if_neg pa,if_pos rfl]
 have h:=xW (c:=c) (k:=jI) (t:=[a,b]) (by decide) (by rw[hps];rfl) fun j s p hs hp=>by
  rw[hps]at hp
  match j,hs,hp with
  |0,hs,hp=>cases hs;cases hp;exact decide_eq_true ha
  |1,hs,hp=>cases hs;cases hp;exact decide_eq_true hb
  |j+2,hs,hp=>simp at hs
 have hK:pT c jI [a,b]=⟨c.nm,c.up.set (ix c a) (c.up.getD (ix c a) 0 ||| 2^ix c b),c.qu,c.gr⟩:=by unfold pT;rw[if_neg pa,if_pos rfl]
 rw[hK]at h;exact h
theorem Jc{c:Cf}{a f o:List UInt8}(ha:a∈c.nm)(hf:f∈c.nm)(ho:o∈c.nm):Mj c [mw,a,f,o] ⟨c.nm,c.up,c.qu,c.gr++[⟨(ix c a:Int),(ix c f:Int),(ix c o:Int)⟩]⟩:=by
 have hps:bA c mw=[fun s=>decide (s∈c.nm),fun s=>decide (s∈c.nm),fun s=>decide (s∈c.nm)]:=by unfold bA;rw[if_neg pJ,if_neg kG]
 have h:=xW (c:=c) (k:=mw) (t:=[a,f,o]) (by decide) (by rw[hps];rfl) fun j s p hs hp=>by
  rw[hps]at hp
  match j,hs,hp with
  |0,hs,hp=>cases hs;cases hp;exact decide_eq_true ha
  |1,hs,hp=>cases hs;cases hp;exact decide_eq_true hf
  |2,hs,hp=>cases hs;cases hp;exact decide_eq_true ho
  |j+3,hs,hp=>simp at hs
 have hK:pT c mw [a,f,o]=⟨c.nm,c.up,c.qu,c.gr++[⟨(ix c a:Int),(ix c f:Int),(ix c o:Int)⟩]⟩:=by unfold pT;rw[if_neg pJ,if_neg kG]
 rw[hK]at h;exact h
inductive LO:List (List (List UInt8))→List (List UInt8)→Prop
 |nil:LO [] []
 |blank (l:List UInt8) {ws:List (List (List UInt8))} {ls:List (List UInt8)} (h:Gw l=[]) (t:LO ws ls):LO ws (l::ls)
 |line (l:List UInt8) {w:List (List UInt8)} {ws:List (List (List UInt8))} {ls:List (List UInt8)} (h:Gw l=w) (t:LO ws ls):LO (w::ws) (l::ls)
inductive PW:Cf→List (List (List UInt8))→Cf→Prop
 |nil (c:Cf):PW c [] c
 |cons {c c1 c2:Cf} {w:List (List UInt8)} {ws:List (List (List UInt8))} (h:Mj c w c1) (t:PW c1 ws c2):PW c (w::ws) c2
theorem Ei{ws:List (List (List UInt8))}{ls:List (List UInt8)}(h:LO ws ls):∀{c c':Cf} (k:Nat),PW c ws c'→pL c k ls= .inr c':=by
 induction h with
 |nil=>intro c c' k hp;cases hp;rfl
 |blank l h t ih=>intro c c' k hp;rw[pL,BY h];exact ih (k+1) hp
 |line l h t ih=>
  intro c c' k hp
  cases hp with
  |cons h1 h2=>rw[pL,Ka h h1];exact ih (k+1) h2
theorem PW.app{c c1 c2:Cf}{a b:List (List (List UInt8))}(h:PW c a c1)(k:PW c1 b c2):PW c (a++b) c2:=by
 induction h with
 |nil c=>exact k
 |cons h t ih=>exact .cons h (ih k)
theorem iW:∀w:List UInt8,(∀x,x∈w→x.toNat<128)→whole w
 |[],h=>fun r hr=>by rw[dw]at hr;cases hr
 |c::w,h=>by
  intro r hr;rw[aM (h c (by simp))]at hr;rcases Rv.1 hr with rfl|hr
  ·exact fun q=>by have:=h c (by simp);simp at q;omega
  ·exact iW w (fun x hx=>h x (Rr _ hx)) r hr
theorem jr{w:List UInt8}(hne:w≠[])(h:∀x,x∈w→x.toNat<128∧x≠10∧x≠32∧x≠9∧x≠35):Tok w:=⟨hne,iW w fun x hx=>(h x hx).1,fun x hx=>(h x hx).2⟩
theorem ID:Tok fO:=jr (by decide) (by decide)
theorem HA:Tok jI:=jr (by decide) (by decide)
theorem G7:Tok mw:=jr (by decide) (by decide)
theorem bL.tok{w:List UInt8}(h:bL w):Tok w where
 ne:=by rintro rfl;have:=h.pos;rw[dw]at this;simp at this
 whole:=h.whole
 KZ:=fun x hx=>by
  by_cases hc:x.toNat<128
  ·obtain⟨a,b,rfl⟩:=List.append_of_mem hx
   have hm:(x.toNat,[x])∈ak (a++x::b):=by
    rw[qK (by omega) b a,aM hc];simp
   have hl:=h.vQ _ hm;unfold lH at hl;have hl:=of_decide_eq_true hl;simp only at hl;refine⟨?_,?_,?_,?_⟩ <;>(rintro rfl;simp at hl)
  ·refine⟨?_,?_,?_,?_⟩ <;>(rintro rfl;simp at hc)
theorem zG(u:Nat):∀c,c∈Lib.decDigits u→48≤c.toNat∧c.toNat≤57:=by
 induction u using Nat.strongRecOn with
 |_ u ih=>
  intro c hc;rw[Lib.decDigits]at hc;split at hc
  ·obtain rfl:=RX.1 hc;rw[Tt];omega
  ·rcases RB.1 hc with h|h
   ·exact ih _ (by omega) c h
   ·obtain rfl:=RX.1 h;rw[Tt];omega
theorem JM(u:Nat):Lib.decDigits u≠[]:=by
 rw[Lib.decDigits];split <;>simp
theorem uw:∀(l:List UInt8) (a:Nat) (t:List UInt8),dQ a (l++t)=dQ (dQ a l) t
 |[],a,t=>by rw[Sb,fx]
 |c::l,a,t=>by rw[RQ,fb,fb,uw l]
theorem Hb(u:Nat):dQ 0 (Lib.decDigits u)=u:=by
 induction u using Nat.strongRecOn with
 |_ u ih=>
  rw[Lib.decDigits];split
  ·rw[fb,fx,Tt];omega
  ·rw[uw,ih _ (by omega),fb,fx,Tt];omega
theorem pX{n:Int}(h:4≤n∧n≤1000):Lib.itoa n=Lib.decDigits n.toNat:=by
 unfold Lib.itoa;rw[if_neg (by omega)]
theorem Dc{n:Int}(h:4≤n∧n≤1000):Tok (Lib.itoa n):=by
 rw[pX h];refine jr (JM _) fun x hx=>?_;have:=zG _ x hx;refine⟨by omega,?_,?_,?_,?_⟩ <;>(rintro rfl;simp at this)
theorem DK{n:Int}(h:4≤n∧n≤1000):dM (Lib.itoa n)∧(iD (Lib.itoa n):Int)=n:=by
 have h4:=pv h;have hv:dQ 0 (Lib.itoa n)=n.toNat:=by rw[pX h,Hb]
 have hb:dM (Lib.itoa n):=by
  refine⟨?_,h4,by rw[hv];omega,by rw[hv];omega⟩;rw[RD];intro x hx;rw[pX h]at hx;have:=zG _ x hx;exact ia.2 this
 exact⟨hb,by rw[nB hb,hv];omega⟩
theorem vp{c:Cf}(hn:c.nm.Nodup){a:Nat}(ha:a<c.nm.length):c.nm.getD a []∈c.nm∧ix c (c.nm.getD a [])=a:=by
 have hx:c.nm[a]? =some c.nm[a]:=so ha;have e:c.nm.getD a []=c.nm[a]:=by rw[Rl,hx];rfl
 rw[e];exact⟨TE ha,hn.idxOf_getElem a ha⟩
theorem FG{c:Cf}(hc:gv c){g:G}(hg:g∈c.gr):∃a f t:Nat,g=⟨(a:Int),(f:Int),(t:Int)⟩∧a<c.up.length∧f<c.up.length∧t<c.up.length:=by
 have h:=hc.vu.2.1 g hg;unfold tG at h;simp only[Rm]at h;obtain⟨⟨h1,h2⟩,_⟩:=h;rw[lz]at h1 h2;obtain⟨x,y,z⟩:=g;simp only at h1 h2;refine⟨x.toNat,y.toNat,z.toNat,?_,by omega,by omega,by omega⟩;rw[S5 (by omega),S5 (by omega),S5 (by omega)]
theorem zk{c:Cf}(hc:gv c):∀m,m≤c.nm.length→PW fZ ((bz c).take m) ⟨c.nm.take m,List.replicate m 0,c.qu.take m,[]⟩
 |0,_=>by rw[List.take_zero,List.take_zero,List.take_zero];exact .nil _
 |m+1,hm=>by
  have ih:=zk hc m (by omega);have hla:(bz c)[m]? =some (o8 c m):=by unfold bz;rw[Rt,R9 (by omega)];rfl
  have hx:c.nm[m]? =some c.nm[m]:=so (by omega);have hq:c.qu[m]? =some (c.qu[m]'(by have:=hc.cu;have:=hc.eJ;omega)):=so _;have e1:c.nm.getD m []=c.nm[m]:=by rw[Rl,hx];rfl
  have e2:c.qu.getD m 0=c.qu[m]'(by have:=hc.cu;have:=hc.eJ;omega):=by rw[Rl,hq];rfl
  rw[Sm,hla];refine ih.app ?_;have hnum:=DK (hc.quo _ (Rj hq))
  have hnew:jY (c.nm.take m) c.nm[m]:=by
   refine⟨hc.name _ (TE _),fun hmem=>?_,by rw[RA];have:=hc.tK.le;have:=hc.cu;omega⟩;obtain⟨j,hj,e⟩:=Th.1 hmem;rw[RA]at hj;rw[List.getElem_take]at e;exact SQ.1 hc.uniq j m (by omega) (by omega) (by omega) e
  have hl:=sG (c:=⟨c.nm.take m,List.replicate m 0,c.qu.take m,[]⟩) hnew hnum.1;refine .cons (w:=o8 c m) (c1:=⟨c.nm.take (m+1),List.replicate (m+1) 0,c.qu.take (m+1),[]⟩) ?_ (.nil _)
  have e3:(⟨c.nm.take m++[c.nm[m]],List.replicate m 0++[0],c.qu.take m++[(iD (Lib.itoa (c.qu[m]'(by have:=hc.cu;have:=hc.eJ;omega))):Int)],[]⟩:Cf)=⟨c.nm.take (m+1),List.replicate (m+1) 0,c.qu.take (m+1),[]⟩:=by
   rw[hnum.2,Sm,hx,Sm,hq,List.replicate_succ'];rfl
  unfold o8;rw[e1,e2,←e3];exact hl
def iV(u:List Nat)(p:Nat×Nat):List Nat:=u.set p.1 (u.getD p.1 0 ||| 2^p.2)
theorem yI{c:Cf}(hc:gv c):∀(ps:List (Nat×Nat)) (u:List Nat),(∀p,p∈ps→p.1<c.nm.length∧p.2<c.nm.length)→PW ⟨c.nm,u,c.qu,[]⟩ (ps.map fun p=>kO c p.1 p.2) ⟨c.nm,ps.foldl iV u,c.qu,[]⟩
 |[],u,h=> .nil _
 |p::ps,u,h=>by
  obtain⟨h1,h2⟩:=h p (by simp);obtain⟨a1,a2⟩:=vp hc.uniq h1;obtain⟨b1,b2⟩:=vp hc.uniq h2;have hl:=yW (c:=⟨c.nm,u,c.qu,[]⟩) a1 b1;have e1:ix ⟨c.nm,u,c.qu,[]⟩ (c.nm.getD p.1 [])=p.1:=a2;have e2:ix ⟨c.nm,u,c.qu,[]⟩ (c.nm.getD p.2 [])=p.2:=b2;rw[e1,e2]at hl;exact .cons hl (yI hc ps _ fun q hq=>h q (Rr _ hq))
theorem yJ{c:Cf}(hc:gv c)(u:List Nat):∀(gs g0:List G),(∀g,g∈gs→g∈c.gr)→PW ⟨c.nm,u,c.qu,g0⟩ (gs.map (qw c)) ⟨c.nm,u,c.qu,g0++gs⟩
 |[],g0,h=>by rw[RU];exact .nil _
 |g::gs,g0,h=>by
  obtain⟨a,f,t,rfl,h1,h2,h3⟩:=FG hc (h g (by simp));have hl:=hc.cu;obtain⟨a1,a2⟩:=vp hc.uniq (show a<c.nm.length by omega);obtain⟨b1,b2⟩:=vp hc.uniq (show f<c.nm.length by omega);obtain⟨d1,d2⟩:=vp hc.uniq (show t<c.nm.length by omega);have hl:=Jc (c:=⟨c.nm,u,c.qu,g0⟩) a1 b1 d1;have e1:ix ⟨c.nm,u,c.qu,g0⟩ (c.nm.getD a [])=a:=a2;have e2:ix ⟨c.nm,u,c.qu,g0⟩ (c.nm.getD f [])=f:=b2;have e3:ix ⟨c.nm,u,c.qu,g0⟩ (c.nm.getD t [])=t:=d2;rw[e1,e2,e3]at hl;have ih:=yJ hc u gs (g0++[⟨(a:Int),(f:Int),(t:Int)⟩]) fun q hq=>h q (Rr _ hq);rw[RJ]at ih;exact .cons hl ih
def C6(c:Cf):List (Nat×Nat):=(List.range c.up.length).flatMap fun a=>((ay (c.up.getD a 0)).filter fun b=>decide (a≠b)).map fun b=>(a,b)
theorem vc(c:Cf):mM c=(C6 c).map fun p=>kO c p.1 p.2:=by
 unfold mM C6 mT;rw[List.map_flatMap];congr 1;funext a;rw[S6];rfl
theorem nA{c:Cf}(hc:gv c){p:Nat×Nat}:p∈C6 c↔p.1<c.up.length∧bt c.up p.1 p.2=true∧p.1≠p.2:=by
 obtain⟨a,b⟩:=p;unfold C6;rw[TB];constructor
 ·rintro⟨x,hx,hp⟩;obtain⟨y,hy,e⟩:=RI.1 hp;cases e;obtain⟨h1,h2⟩:=List.mem_filter.1 hy;exact⟨Si.1 hx,(gE.1 h1).2,of_decide_eq_true h2⟩
 ·rintro⟨h1,h2,h3⟩;refine⟨a,Si.2 h1,RI.2 ⟨b,List.mem_filter.2 ⟨gE.2 ⟨?_,h2⟩,decide_eq_true h3⟩,rfl⟩⟩;have:=hc.tK.cl.lt a b h2;have:=hc.tK.le;omega
theorem ra(u:List Nat)(p:Nat×Nat):(iV u p).length=u.length:=by unfold iV;rw[SZ]
theorem rz:∀(ps:List (Nat×Nat)) (u:List Nat),(ps.foldl iV u).length=u.length
 |[],u=>rfl
 |p::ps,u=>by rw[SP,rz ps,ra]
theorem uf:∀(ps:List (Nat×Nat)) (u:List Nat),(∀p,p∈ps→p.1<u.length)→∀a b,bt (ps.foldl iV u) a b=true↔bt u a b=true∨(a,b)∈ps
 |[],u,h,a,b=>by simp
 |p::ps,u,h,a,b=>by
  rw[SP,uf ps _ (fun q hq=>by rw[ra];exact h q (Rr _ hq)) a b];have hp:=h p (by simp);have hx:u[p.1]? =some u[p.1]:=so hp;have hg:u.getD p.1 0=u[p.1]:=by rw[Rl,hx];rfl
  unfold iV;rw[hg,pP hx];obtain⟨p1,p2⟩:=p;simp only at*;split
  ·rename_i e;subst e;rw[SF,decide_eq_true_iff,Rv,RS];constructor
   ·rintro((q|q)|q)
    ·exact .inl q
    ·exact .inr (.inl ⟨rfl,q.symm⟩)
    ·exact .inr (.inr q)
   ·rintro(q|(⟨_,q⟩|q))
    ·exact .inl (.inl q)
    ·exact .inl (.inr q.symm)
    ·exact .inr q
  ·rename_i e;rw[Rv,RS];constructor
   ·rintro(q|q)
    ·exact .inl q
    ·exact .inr (.inr q)
   ·rintro(q|(⟨q,_⟩|q))
    ·exact .inl q
    ·exact absurd q e
    ·exact .inr q
theorem H2{c:Cf}(hc:gv c):aV ((C6 c).foldl iV (List.replicate c.up.length 0))=c.up:=by
 have hb:=uf (C6 c) (List.replicate c.up.length 0) fun p hp=>by rw[List.length_replicate];exact((nA hc).1 hp).1
 have hl:((C6 c).foldl iV (List.replicate c.up.length 0)).length=c.up.length:=by rw[rz,List.length_replicate]
 have h0:∀a b,bt (List.replicate c.up.length 0) a b=false:=fun a b=>by
  unfold bt;rw[Rl,RW];split <;>simp
 have key:bf ((C6 c).foldl iV (List.replicate c.up.length 0))=bf c.up:=by
  refine fu (by rw[ah,ah,hl]) fun a b=>?_;by_cases ha:a<c.up.length
  ·rw[dn (by rw[hl];exact ha),dn ha,hl];by_cases hab:a=b
   ·rw[decide_eq_true hab];simp
   ·have:bt ((C6 c).foldl iV (List.replicate c.up.length 0)) a b=bt c.up a b:=by
     rw[Bool.eq_iff_iff,hb a b,h0,nA hc];constructor
     ·rintro(q|q)
      ·cases q
      ·exact q.2.1
     ·exact fun q=> .inr ⟨ha,q,hab⟩
    rw[this]
  ·rw[jh (by rw[ah,hl];omega),jh (by rw[ah];omega)]
 rw[←nM,key,nM,mj hc.tK.cl]
theorem EB{c:Cf}(hc:gv c):∃r,PW fZ (vV c) r∧gQ r=c:=by
 have hl1:=hc.cu;have hl2:=hc.eJ;have h1:=zk hc c.nm.length (Ro _)
 have h2:=yI hc (C6 c) (List.replicate c.nm.length 0) fun p hp=>by
  obtain⟨q1,q2,q3⟩:=(nA hc).1 hp;have:=hc.tK.cl.lt _ _ q2;omega
 have h3:=yJ hc ((C6 c).foldl iV (List.replicate c.nm.length 0)) c.gr [] fun g h=>h;rw[RN (by unfold bz;simp),RN (Ro _),RN (by omega)]at h1;refine⟨_,(h1.app (by rw[vc];exact h2)).app h3,?_⟩;unfold gQ;simp only[Sb];rw[hl1,H2 hc,ya hc.vu.2.2]
end Go.Proofs.YtiihljlagmmljaaGreatDoor
namespace Go.Proofs.YtiihljlagmmljaaGreatDoor
open Aml Go Lat Grs
theorem oc(x y:G):∀l:List G,au (l++[y,x])=if y=x then au (l++[y])else au (l++[y])++[x]
 |[]=>by simp only[Sb,au];split <;>simp_all
 |[a]=>by simp only[RQ,Sb,au];split <;>split <;>simp_all
 |a::b::l=>by
  have:=oc x y (b::l);simp only[RQ]at this ⊢;rw[au,this]
  conv=>rhs;rw[show au (a::b::(l++[y]))=if a=b then au (b::(l++[y]))else a::au (b::(l++[y]))by rw[au]]
  split <;>split <;>simp
theorem l7:∀l:List G,(au l).length≤l.length
 |[]=>by simp[au]
 |[x]=>by simp[au]
 |x::y::l=>by
  have:=l7 (y::l);rw[au];split <;>simp at this ⊢ <;>omega
theorem pH{d:List G}{k:Nat}{x y:G}(hk:0<k)(hy:d[k-1]? =some y)(hx:d[k]? =some x):au (d.take (k+1))=if y=x then au (d.take k)else au (d.take k)++[x]:=by
 obtain⟨m,rfl⟩:∃m,k=m+1:=⟨k-1,by omega⟩;rw[Nat.add_sub_cancel]at hy;have h1:d.take (m+1)=d.take m++[y]:=by rw[Sm,hy];rfl
 have h2:d.take (m+1+1)=d.take m++[y,x]:=by rw[Sm,hx,h1];simp
 rw[h2,h1,oc]
def gc(l:List G):List DV:=l.flatMap fun g=>[dI g.a,dI g.f,dI g.t]
theorem iX:∀l:List G,(gc l).length=l.length*3
 |[]=>rfl
 |g::l=>by
  have:=iX l;unfold gc at this ⊢;rw[Sd,Rk,this];simp;omega
theorem oe(a b:List G):gc (a++b)=gc a++gc b:=by unfold gc;rw[RR]
theorem zf{l:List G}{i:Nat}{g:G}(h:l[i]? =some g)(R:List DV):(gc l++R).drop (i*3)=dI g.a::dI g.f::dI g.t::(gc (l.drop (i+1))++R):=by
 obtain⟨hi,e⟩:=Rp.1 h;have h1:l=l.take i++g::l.drop (i+1):=by rw[←e,Tq,SC]
 have h2:(gc (l.take i)).length=i*3:=by rw[iX,RA,Tu (by omega)]
 conv=>lhs;rw[h1]
 rw[oe,RJ,←h2,List.drop_left];show gc ([g]++l.drop (i+1))++R=_;rw[oe];rfl
theorem L0{l:List G}{i:Nat}{g:G}(hi:i<l.length)(R:List DV):cG (gc l++R) (i*3) [dI g.a,dI g.f,dI g.t]=gc (l.set i g)++R:=by
 have h1:l=l.take i++l[i]::l.drop (i+1):=by rw[Tq,SC]
 have h2:(gc (l.take i)).length=i*3:=by rw[iX,RA,Tu (by omega)]
 have h3:l.set i g=l.take i++g::l.drop (i+1):=List.set_eq_take_append_cons_drop .. |>.trans (by rw[if_pos hi]);rw[h3]
 conv=>lhs;rw[h1]
 rw[oe,oe];show cG (gc (l.take i)++(dI _::dI _::dI _::gc (l.drop (i+1)))++R) (i*3) _=gc (l.take i)++(dI _::dI _::dI _::gc (l.drop (i+1)))++R;simp only[cG,←h2,RJ,S8 _ _ (Ro _),S8 _ _ (Nat.le_add_right _ _),Nat.sub_self,Nat.add_sub_cancel_left,Sy,RQ,List.set_cons_zero,List.set_cons_succ,Nat.reduceAdd]
theorem DC(l:List G):IT 3 (l.map gD):=fun d hd=>by
 obtain⟨g,_,rfl⟩:=RI.1 hd;exact⟨rfl,rfl⟩
theorem Jh(l:List G):(l.map gD).flatMap cd=gc l:=by
 unfold gc;rw[List.flatMap_map];rfl
theorem Ia{α:Type}{l:List (Nat×α)}(b:FN l){c:Nat}{x:α}(h:lk l c=some x):(b.n=c)=False:=af b c (by rw[h];rfl)
theorem Ev{B:List (Nat×List DV)}{b:Nat}(h:gx B b):B.filter (fun p=>p.1 !=b)=B:=List.filter_eq_self.2 fun p hp=>by simpa using Y.kP h p hp
theorem CO(w0:W0)(S:St)(l:Nat)(d:List G)(hl:lk S.acc l=some (.arr 3 (d.map gD)))(hb:d.length≤1048576)(hne:d≠[]):
 ab Tryz.prog w0 25 [.acc l (d.map gD).length] S fun r S'=>∃ys,∃m:FN S.acc,ys=(au d).map gD∧r= .acc m.n ys.length∧S'=⟨S.box,tJ S.acc l (m.n,.arr 3 ys)⟩:=by
 have hm8:maxLen=9223372036854775807:=rfl;have hpos:0<d.length:=Sv.2 hne;refine x9 (P:=Tryz.prog) (w0:=w0) (args:=[]) (xs:=d.map gD) (K:=fun ys=>ys=(au d).map gD) hl (by simpa using hne) (by omega) (DC d) fun b c hbn hc1 hc2=>?_;have hrow:=DY (DC d) hc1;rw[RM]at*;unfold Bl at hrow ⊢;rw[Jh]at hrow ⊢;generalize List.replicate _ DV.any=R at*;refine yy [] mx Tryz.func25 rfl rfl (by kernel_rfl) ?_;simp(maxDischargeDepth:=12) (maxSteps:=1000000) -implicitDefEqProofs only[Tryz.ntmps25,go_sem,Nat.reduceAdd,Nat.reduceSub,Nat.reduceMul,Nat.reduceLeDiff,Nat.reduceEqDiff,Nat.reduceGT,Nat.reduceBEq,reduceCtorEq,↓reduceIte,Int.reduceToNat,Int.reduceLE,Int.reduceLT,Int.reduceNe,Int.reduceEq]
 have fin:∀(c':Nat) (ds:List DV),(au d).length≤c'→c'≤maxLen→ds.take ((au d).length*3)=gc (au d)→ds.length=c'*3→∃(b' c'':Nat) (ds':List DV) (ys:List DV) (B:List (Nat×List DV)),ys=(au d).map gD∧DV.v (.slice (some ⟨b,0,none⟩) (au d).length c')= .v (.slice (some ⟨b',0,none⟩) ys.length c'')∧lk ((b,ds)::S.box) b'=some ds'∧(b,ds)::S.box=B∧S.box.Sublist (B.filter fun p=>p.1 !=b')∧IT 3 ys∧ds'.take (ys.length*3)=ys.flatMap cd∧ds'.length=c''*3∧ys.length≤c''∧c''≤maxLen:=fun c' ds q1 q2 q3 q4=>by
  refine⟨b,c',ds,_,_,rfl,by rw[RM],by simp[lk],rfl,?_,DC _,?_,q4,by rw[RM];exact q1,q2⟩
  ·rw[TJ (by simp),Ev hbn];exact TN _
  ·rw[RM,Jh];exact q3
 have same:au d=d→(gc d++R).take ((au d).length*3)=gc (au d):=fun e=>by
  rw[e,←iX,List.take_left]
 have hgl:=iX d;refine⟨fun h1=>?_,fun h1=>?_⟩
 ·have e:au d=d:=by
   match d,hpos,h1 with
   |[x],_,_=>rfl
   |x::y::r,_,h1=>simp at h1;omega
  have:=fin c (gc d++R) (by rw[e];exact hc1) hc2 (same e) hrow;rw[e]at this ⊢;exact this
 ·refine bS [] [0,3] (σ:=Nat) (fun k=>[(0,.v (.slice (some ⟨b,0,none⟩) d.length c)),(3,dI k)]) (fun _=>⟨(b,gc d++R)::S.box,del S.acc l⟩) (fun k=>1≤k∧k≤d.length∧au (d.take k)=d.take k) (fun k=>d.length-k) 1 mx (by kernel_rfl) ⟨⟨by omega,by omega,?_⟩,?_⟩ fun k hk=>?_
  ·match d,hpos with
   |x::r,_=>simp[au]
  ·simp(maxDischargeDepth:=12) (maxSteps:=1000000) -implicitDefEqProofs only[go_sem,Nat.reduceAdd,Nat.reduceSub,Nat.reduceMul,Nat.reduceLeDiff,Nat.reduceEqDiff,Nat.reduceGT,Nat.reduceBEq,reduceCtorEq,↓reduceIte,Int.reduceToNat,Int.reduceLE,Int.reduceLT,Int.reduceNe,Int.reduceEq]
  ·obtain⟨k1,k2,k3⟩:=hk;have e1:IntKind.i64.wrap ((k:Int)-1)=((k-1:Nat):Int):=by rw[kx (by omega) (by omega)];omega
   have e2:IntKind.i64.wrap ((k:Int)+1)=((k+1:Nat):Int):=ax (by omega);by_cases hkd:k<d.length
   ·have hx:d[k]? =some d[k]:=so hkd;have hy:d[k-1]? =some (d[k-1]'(by omega)):=so (by omega);generalize d[k]=x at hx;generalize d[k-1]'(by omega)=y at hy;have g1:=zf hx R;have g2:=zf hy R;have hck:(c=k)=False:=eq_false (by omega);have hct:=pH (by omega) hy hx;have hkl:(d.take k).length=k:=by rw[RA];omega
    simp(maxDischargeDepth:=12) (maxSteps:=1000000) -implicitDefEqProofs only[go_sem,Nat.reduceAdd,Nat.reduceSub,Nat.reduceMul,Nat.reduceLeDiff,Nat.reduceEqDiff,Nat.reduceGT,Nat.reduceBEq,reduceCtorEq,↓reduceIte,Int.reduceToNat,Int.reduceLE,Int.reduceLT,Int.reduceNe,Int.reduceEq,g1,g2,e1,e2,hck];refine⟨fun _=>⟨by omega,by omega,fun heq=>⟨by omega,by omega,?_⟩,fun hne=>?_⟩,fun h=>absurd hkd h⟩
    ·have hxy:y=x:=by
      simp only[Rm,decide_eq_true_eq]at heq;obtain⟨⟨q1,q2⟩,q3⟩:=heq;cases x;cases y;simp at q1 q2 q3;rw[q1,q2,q3]
     rw[if_pos hxy,k3]at hct;clear heq g1 g2;have hC:∀j,(au (d.take (k+j))).length≤k+j:=fun j=>Se (l7 _) (by rw[RA];omega);refine bS [] [0,3,4,5] (σ:=Nat) (fun j=>[(0,.v (.slice (some ⟨b,0,none⟩) d.length c)),(3,dI (au (d.take (k+j))).length),(4,.v (.slice (some ⟨b,k*3,none⟩) (d.length-k) (c-k))),(5,dI j)]) (fun j=>⟨(b,gc (au (d.take (k+j))++d.drop (au (d.take (k+j))).length)++R)::S.box,del S.acc l⟩) (fun j=>1≤j∧k+j≤d.length∧(au (d.take (k+j))).length+1≤k+j) (fun j=>d.length-j) 1 mx (by kernel_rfl) ⟨⟨by omega,by omega,?_⟩,?_⟩ fun j hj=>?_
     ·rw[hct,hkl];omega
     ·have h0:gc (au (d.take (k+1))++d.drop k)=gc d:=by rw[hct,SC]
      have h0':(au (d.take (k+1))).length=k:=by rw[hct,hkl]
      simp(maxDischargeDepth:=12) (maxSteps:=1000000) -implicitDefEqProofs only[go_sem,Nat.reduceAdd,Nat.reduceSub,Nat.reduceMul,Nat.reduceLeDiff,Nat.reduceEqDiff,Nat.reduceGT,Nat.reduceBEq,reduceCtorEq,↓reduceIte,Int.reduceToNat,Int.reduceLE,Int.reduceLT,Int.reduceNe,Int.reduceEq,h0,h0']
     ·obtain⟨j1,j2,j3⟩:=hj;have f1:IntKind.i64.wrap ((j:Int)-1)=((j-1:Nat):Int):=by rw[kx (by omega) (by omega)];omega
      have f2:IntKind.i64.wrap ((j:Int)+1)=((j+1:Nat):Int):=ax (by omega);by_cases hjd:k+j<d.length
      ·have hx':d[k+j]? =some d[k+j]:=so hjd;have hy':d[k+j-1]? =some (d[k+j-1]'(by omega)):=so (by omega);generalize d[k+j]=x' at hx';generalize d[k+j-1]'(by omega)=y' at hy';have hst:=pH (by omega) hy' hx'
       have hcur:∀i,(au (d.take (k+j))).length≤i→(au (d.take (k+j))++d.drop (au (d.take (k+j))).length)[i]? =d[i]? :=fun i hi=>by
        rw[RO hi,Sq];congr 1;omega
       have hcl:(au (d.take (k+j))++d.drop (au (d.take (k+j))).length).length=d.length:=by rw[Rk,RP];omega
       have g1:=zf ((hcur (k+j) (by omega)).trans hx') R;have g2:=zf ((hcur (k+j-1) (by omega)).trans hy') R;have g3:=L0 (l:=au (d.take (k+j))++d.drop (au (d.take (k+j))).length) (i:=(au (d.take (k+j))).length) (g:=x') (by rw[hcl];omega) R;rw[Ta]at g1;rw[show(k+j-1)*3=k*3+(j-1)*3 by omega]at g2;have hlen:=iX (au (d.take (k+j))++d.drop (au (d.take (k+j))).length);rw[hcl]at hlen
       have hset:(au (d.take (k+j))++d.drop (au (d.take (k+j))).length).set (au (d.take (k+j))).length x'=(au (d.take (k+j))++[x'])++d.drop (au (d.take (k+j))++[x']).length:=by
        rw[S8 _ _ (Ro _),Nat.sub_self,RJ];congr 1;have:d.drop (au (d.take (k+j))).length=d[(au (d.take (k+j))).length]'(by omega)::d.drop ((au (d.take (k+j))).length+1):=(Tq (by omega)).symm;rw[this,Rk];rfl
       rw[hset]at g3;generalize hCj:au (d.take (k+j))=Cj at*;have e3:IntKind.i64.wrap ((Cj.length:Int)+1)=((Cj.length+1:Nat):Int):=ax (by omega)
       have hl2:(gc (Cj++d.drop Cj.length)++R).length=c*3:=by
        rw[Rk]at hrow ⊢;rw[hlen];omega
       generalize hds:gc (Cj++d.drop Cj.length)++R=ds at*;simp only[cG]at g3;have hnx:k+j+1=k+(j+1):=by omega
       rw[hnx]at hst;simp(maxDischargeDepth:=12) (maxSteps:=1000000) -implicitDefEqProofs only[go_sem,Nat.reduceAdd,Nat.reduceSub,Nat.reduceMul,Nat.reduceLeDiff,Nat.reduceEqDiff,Nat.reduceGT,Nat.reduceBEq,reduceCtorEq,↓reduceIte,Int.reduceToNat,Int.reduceLE,Int.reduceLT,Int.reduceNe,Int.reduceEq,g1,g2,f1,f2,e3,g3];refine⟨fun _=>⟨by omega,by omega,fun heq=>?_,fun hne=>?_⟩,fun h=>by omega⟩
       ·have hxy:y'=x':=by
         simp only[Rm,decide_eq_true_eq]at heq;obtain⟨⟨q1,q2⟩,q3⟩:=heq;cases x';cases y';simp at q1 q2 q3;rw[q1,q2,q3]
        rw[if_pos hxy]at hst;exact⟨j+1,⟨by omega,by omega,by rw[hst];omega⟩,by omega,⟨by rw[hst],rfl⟩,by rw[hst,hds];exact .refl _⟩
       ·have hxy:¬y'=x':=by
         rintro rfl;simp at hne
        rw[if_neg hxy]at hst;refine⟨by omega,by omega,by omega,j+1,⟨by omega,by omega,by rw[hst,Rk,Sg];omega⟩,by omega,⟨by rw[hst,Rk,Sg],rfl⟩,by rw[hst,←g3];exact .refl _⟩
      ·have hdt:au (d.take (k+j))=au d:=by rw[RN (by omega)]
       rw[hdt]at j3 ⊢;have hcl:(au d++d.drop (au d).length).length=d.length:=by rw[Rk,RP];omega
       have hlen:=iX (au d++d.drop (au d).length);rw[hcl]at hlen
       have hl2:(gc (au d++d.drop (au d).length)++R).length=c*3:=by
        rw[Rk]at hrow ⊢;rw[hlen];omega
       have htk:(gc (au d++d.drop (au d).length)++R).take ((au d).length*3)=gc (au d):=by
        rw[oe,RJ,←iX,List.take_left]
       have q0:(c=(au d).length)=False:=eq_false (by omega);have q1:(if c=0 then 0 else 0)=0:=by split <;>rfl
       generalize gc (au d++d.drop (au d).length)++R=ds at*;have hz:(fU (.agg [dI 0,dI 0,dI 0]) (d.length-(au d).length)).length=(d.length-(au d).length)*3:=qV rfl _;have hp:(au d).length*3+(fU (.agg [dI 0,dI 0,dI 0]) (d.length-(au d).length)).length≤ds.length:=by rw[hz,hl2];omega
       have hf:=fin c (kI ds ((au d).length*3) (fU (.agg [dI 0,dI 0,dI 0]) (d.length-(au d).length))) (by omega) hc2 (by
        unfold kI;rw[RJ,List.take_append_of_le_length (by rw[RA];omega),List.take_take,Nat.min_self];exact htk) (by
        unfold kI;rw[Rk,Rk,RA,RP,hz];omega)
       simp(maxDischargeDepth:=12) (maxSteps:=1000000) -implicitDefEqProofs only[go_sem,Nat.reduceAdd,Nat.reduceSub,Nat.reduceMul,Nat.reduceLeDiff,Nat.reduceEqDiff,Nat.reduceGT,Nat.reduceBEq,reduceCtorEq,↓reduceIte,Int.reduceToNat,Int.reduceLE,Int.reduceLT,Int.reduceNe,Int.reduceEq,f1,f2,q0,q1,Nat.sub_zero];refine⟨fun h=>by omega,fun _=>⟨by omega,by omega,by omega,by omega,?_⟩⟩;exact hf
    ·refine⟨k+1,⟨by omega,by omega,?_⟩,by omega,by omega⟩
     have hxy:¬y=x:=by
      rintro rfl;simp at hne
     rw[hct,if_neg hxy,k3,Sm,hx];rfl
   ·have e:au d=d:=by rw[RN (by omega)]at k3;exact k3
    have hf:=fin c (gc d++R) (by rw[e];exact hc1) hc2 (same e) hrow;simp(maxDischargeDepth:=12) (maxSteps:=1000000) -implicitDefEqProofs only[go_sem,Nat.reduceAdd,Nat.reduceSub,Nat.reduceMul,Nat.reduceLeDiff,Nat.reduceEqDiff,Nat.reduceGT,Nat.reduceBEq,reduceCtorEq,↓reduceIte,Int.reduceToNat,Int.reduceLE,Int.reduceLT,Int.reduceNe,Int.reduceEq];refine⟨fun h=>absurd h hkd,fun _=>?_⟩;rw[e]at hf ⊢;exact hf
theorem vd:∀{L:List (Nat×Ob)} {l:Nat} {o:Ob},lk L l=some o→tJ L l (l,o)=L
 |[],l,o,h=>by cases h
 |(k,x)::t,l,o,h=>by
  unfold lk at h;unfold tJ;split at h
  ·rename_i e;rw[if_pos e];cases h;rw[e]
  ·rename_i e;rw[if_neg e,vd h]
theorem DX(w0:W0)(S:St)(l:Nat)(d:List G)(hl:lk S.acc l=some (.arr 3 (d.map gD)))(hb:d.length≤1048576):
 ab Tryz.prog w0 25 [.acc l d.length] S fun r S'=>∃m,r= .acc m (au d).length∧(∀k o,lk S.acc k=some o→¬k=l→(m=k)=False)∧S'=⟨S.box,tJ S.acc l (m,.arr 3 ((au d).map gD))⟩:=by
 cases d with
 |nil=>
  refine yy [] mx Tryz.func25 rfl rfl (by kernel_rfl) ?_;simp(maxDischargeDepth:=12) (maxSteps:=1000000) -implicitDefEqProofs only[Tryz.ntmps25,go_sem,Nat.reduceAdd,Nat.reduceSub,Nat.reduceMul,Nat.reduceLeDiff,Nat.reduceEqDiff,Nat.reduceGT,Nat.reduceBEq,reduceCtorEq,↓reduceIte,Int.reduceToNat,Int.reduceLE,Int.reduceLT,Int.reduceNe,Int.reduceEq];exact⟨l,rfl,fun k o _ h=>eq_false fun e=>h e.symm,by rw[show au []=[]from rfl,vd hl]⟩
 |cons x r=>
  have h:=CO w0 S l (x::r) hl hb (by simp);rw[RM]at h;refine h.mono ?_;rintro _ _ ⟨ys,m,rfl,rfl,rfl⟩;exact⟨m.n,by rw[RM],fun k o hk _=>Ia m hk,rfl⟩
end Go.Proofs.YtiihljlagmmljaaGreatDoor
namespace Go.Proofs
open Go.Shelf
def Tryz.Iw:Go.Shelf.Ren:=⟨fun|6=>22|15=>57|14=>56|28=>99|29=>100|20=>91|21=>92|22=>93|23=>94|24=>95|25=>96|26=>97|27=>98|46=>123|47=>124|48=>125|49=>126|50=>127|57=>149|n=>n,fun|22=>26|24=>49|25=>51|3=>3|39=>94|0=>0|53=>128|55=>40|4=>4|46=>121|45=>120|50=>125|5=>5|9=>9|66=>143|70=>147|76=>164|77=>165|n=>n,fun|n=>n⟩
theorem Tryz.Qd:Go.Proofs.SlLaysF0.n6 Tryz.prog Tryz.Iw:={
 mixed:=by kernel_rfl
 f6:=⟨Tryz.f22.name,by decide,Tryz.func22.trans (congrArg some (by kernel_rfl))⟩
 f14:=⟨Tryz.f56.name,by decide,Tryz.func56.trans (congrArg some (by kernel_rfl))⟩
 f15:=Tryz.func57.trans (congrArg some (by kernel_rfl))
 f20:=⟨Tryz.f91.name,by decide,Tryz.func91.trans (congrArg some (by kernel_rfl))⟩
 f21:=⟨Tryz.f92.name,by decide,Tryz.func92.trans (congrArg some (by kernel_rfl))⟩
 f22:=⟨Tryz.f93.name,by decide,Tryz.func93.trans (congrArg some (by kernel_rfl))⟩
 f23:=⟨Tryz.f94.name,by decide,Tryz.func94.trans (congrArg some (by kernel_rfl))⟩
 f24:=⟨Tryz.f95.name,by decide,Tryz.func95.trans (congrArg some (by kernel_rfl))⟩
 f25:=⟨Tryz.f96.name,by decide,Tryz.func96.trans (congrArg some (by kernel_rfl))⟩
 f26:=⟨Tryz.f97.name,by decide,Tryz.func97.trans (congrArg some (by kernel_rfl))⟩
 f27:=⟨Tryz.f98.name,by decide,Tryz.func98.trans (congrArg some (by kernel_rfl))⟩
 f28:=Tryz.func99.trans (congrArg some (by kernel_rfl))
 f29:=Tryz.func100.trans (congrArg some (by kernel_rfl))
 f46:=⟨Tryz.f123.name,by decide,Tryz.func123.trans (congrArg some (by kernel_rfl))⟩
 f47:=Tryz.func124.trans (congrArg some (by kernel_rfl))
 f48:=Tryz.func125.trans (congrArg some (by kernel_rfl))
 f49:=⟨Tryz.f126.name,by decide,Tryz.func126.trans (congrArg some (by kernel_rfl))⟩
 f50:=⟨Tryz.f127.name,by decide,Tryz.func127.trans (congrArg some (by kernel_rfl))⟩
 f57:=⟨Tryz.f149.name,by decide,Tryz.func149.trans (congrArg some (by kernel_rfl))⟩
 t0:=Tryz.underlying0
 a0:=Tryz.isAgg0
 z0:=Tryz.sizeOf0
 v0:=Tryz.zeroValue0
 t3:=Tryz.underlying3
 a3:=Tryz.isAgg3
 z3:=Tryz.sizeOf3
 v3:=Tryz.zeroValue3
 t4:=Tryz.underlying4
 a4:=Tryz.isAgg4
 z4:=Tryz.sizeOf4
 v4:=Tryz.zeroValue4
 t5:=Tryz.underlying5
 a5:=Tryz.isAgg5
 z5:=Tryz.sizeOf5
 v5:=Tryz.zeroValue5
 t9:=Tryz.underlying9
 a9:=Tryz.isAgg9
 z9:=Tryz.sizeOf9
 v9:=Tryz.zeroValue9
 t22:=Tryz.underlying26
 a22:=Tryz.isAgg26
 z22:=Tryz.sizeOf26
 v22:=Tryz.zeroValue26
 t25:=Tryz.underlying51
 a25:=Tryz.isAgg51
 z25:=Tryz.sizeOf51
 v25:=Tryz.zeroValue51
 t39:=Tryz.underlying94
 a39:=Tryz.isAgg94
 z39:=Tryz.sizeOf94
 v39:=Tryz.zeroValue94
 t45:=Tryz.underlying120
 a45:=Tryz.isAgg120
 z45:=Tryz.sizeOf120
 v45:=Tryz.zeroValue120
 t46:=Tryz.underlying121
 a46:=Tryz.isAgg121
 z46:=Tryz.sizeOf121
 v46:=Tryz.zeroValue121
 t50:=Tryz.underlying125
 a50:=Tryz.isAgg125
 z50:=Tryz.sizeOf125
 v50:=Tryz.zeroValue125
 t53:=Tryz.underlying128
 a53:=Tryz.isAgg128
 z53:=Tryz.sizeOf128
 v53:=Tryz.zeroValue128
 t55:=Tryz.underlying40
 a55:=Tryz.isAgg40
 z55:=Tryz.sizeOf40
 v55:=Tryz.zeroValue40
 t66:=Tryz.underlying143
 a66:=Tryz.isAgg143
 z66:=Tryz.sizeOf143
 v66:=Tryz.zeroValue143
 t70:=Tryz.underlying147
 a70:=Tryz.isAgg147
 z70:=Tryz.sizeOf147
 v70:=Tryz.zeroValue147
 t76:=Tryz.underlying164
 a76:=Tryz.isAgg164
 z76:=Tryz.sizeOf164
 v76:=Tryz.zeroValue164
 t77:=Tryz.underlying165
 a77:=Tryz.isAgg165
 z77:=Tryz.sizeOf165
 v77:=Tryz.zeroValue165}
open Go.RowKit Go.Sort in
theorem Tryz.qc(p:Option Addr)(cap:Nat)(fv:Value)(w:World):
 Calls Tryz.prog 22 #[.slice p 0 cap,fv] w fun e w'=>e= .returned (.tuple #[])∧w'=w:=AnyF.slices_SortFunc_none Tryz.Qd p cap fv w
end Go.Proofs
namespace Go.Proofs.YtiihljlagmmljaaGreatDoor
open Aml Go Go.RowKit Go.ChangeShapes
def gW(W:World):Gh:=⟨fun b i=>W.cell? ⟨b,i,none⟩,fun _ _=>none,fun _=>none,[]⟩
theorem x6(w0:W0)(h:w0.gh.sub (gW w0.w)):Rel w0 (gW w0.w) ⟨[],[]⟩ w0.w:=
 ⟨⟨fJ.refl _ _,fun _ _ h=>(by cases h),h⟩,fun _ _ _ h=>h,by simp,by simp,fun _ _ _ h=>(by cases h),⟨0,fun _ _ _=>rfl⟩,fun _ _ h=>(by cases h),fun _=>none,fun _ _ h=>(by cases h),fun _ _ h=>(by cases h)⟩
theorem yr{w0:W0}{W:World}(hw:w0.w={W with drawn:=0})(h:w0.gh.sub (gW W)):Rel w0 (gW W) ⟨[],[]⟩ W:=by
 have hh:w0.heap=W.heap:=by unfold W0.heap;rw[hw]
 exact⟨⟨by rw[hh,hw];exact⟨rfl,rfl,rfl,Ro _,fun _ _=>rfl,RL _⟩,fun _ _ h=>(by cases h),h⟩,fun _ _ _ h=>h,by simp,by simp,fun _ _ _ h=>(by cases h),⟨0,fun _ _ _=>rfl⟩,fun _ _ h=>(by cases h),fun _=>none,fun _ _ h=>(by cases h),fun _ _ h=>(by cases h)⟩
theorem AU(W:World):Rel W (gW W) ⟨[],[]⟩ W:=x6 W ⟨fun _ _ _ h=>(by cases h),fun _ _ _ h=>(by cases h),fun _ _ h=>(by cases h)⟩
def Rd(P:Program)(W:World)(t:TypeId){α:Type}(en:α→List DV)(sz:α→Nat)(ok:α→Prop):Prop:=
 ∀(H:Type) (enc:TypeId×Value→H) (n:Nat) (cs:List Value) (x:DataW H×List MemPlace),DataW.trod enc P W 0 (fun _=>true) true n t cs=some x→
  ∃a,ok a∧sz a≤Rows.uptoBulk x.1∧aa (gW W) (en a) cs∧∀u,u∈cs→u.oneCell'=true
section
variable {P:Program} {W:World}
theorem Rd.conv{t:TypeId}{α β:Type}{en:α→List DV}{sz:α→Nat}{ok:α→Prop}{en':β→List DV}{sz':β→Nat}{ok':β→Prop}(h:Rd P W t en sz ok)(f:α→β)(he:∀a,en a=en' (f a))(hs:∀a,sz' (f a)≤sz a)(ho:∀a,ok a→ok' (f a)):Rd P W t en' sz' ok':=
 fun H enc n cs x hx=>let⟨a,h1,h2,h3,h4⟩:=h H enc n cs x hx;⟨f a,ho a h1,Se (hs a) h2,by rw[←he];exact h3,h4⟩
theorem xU{t:TypeId}(k:IntKind)(ht:P.underlying t=some (.int k)):Rd P W t (fun n:Int=>[.v (.int k n)]) (fun _=>1) (fun n=>(Lit.int k n).wf=true):=by
 intro H enc n cs x hx;obtain⟨m,rfl,rfl,hw⟩:=DataW.trod_int ht hx;exact⟨m,hw,by simp[Rows.uptoBulk],aa.cons (.v _ rfl) (aa.nil _),by simp[Value.oneCell']⟩
theorem EH{t:TypeId}(ht:P.underlying t=some (.int .i64)):Rd P W t (fun n:Int=>[dI n]) (fun _=>1) (fun n=> -9223372036854775808≤n∧n≤9223372036854775807):=
 (xU .i64 ht).conv id (fun _=>rfl) (fun _=>Ro _) fun _ h=>bounds_i64 h
theorem Kh{t:TypeId}(ht:P.underlying t=some (.int .u64)):Rd P W t (fun n:Int=>[dU n]) (fun _=>1) (fun n=>0≤n∧n≤18446744073709551615):=
 (xU .u64 ht).conv id (fun _=>rfl) (fun _=>Ro _) fun _ h=>bounds_u64 h
theorem Nk{t:TypeId}(ht:P.underlying t=some (.int .u8)):Rd P W t (fun n:Int=>[dY n]) (fun _=>1) (fun n=>0≤n∧n≤255):=
 (xU .u8 ht).conv id (fun _=>rfl) (fun _=>Ro _) fun _ h=>bounds_u8 h
theorem hZ{t:TypeId}(ht:P.underlying t=some .string):Rd P W t (fun s:ByteArray=>[dS s]) (fun s=>s.size+1) (fun _=>True):=by
 intro H enc n cs x hx;obtain⟨s,rfl,rfl,hs⟩:=DataW.trod_string ht hx;exact⟨s,trivial,(show s.size+1≤s.data.toList.length+1 by rw[RT];exact Ro _),aa.cons (.v _ rfl) (aa.nil _),by simp[Value.oneCell']⟩
theorem qG{α:Type}{Q:Nat→α→Prop}:∀(n:Nat),(∀i,i<n→∃a,Q i a)→∃l:List α,l.length=n∧∀(i:Nat) (a:α),l[i]? =some a→Q i a
 |0,_=>⟨[],rfl,by simp⟩
 |n+1,h=>by
  obtain⟨l,h1,h2⟩:=qG n fun i hi=>h i (by omega);obtain⟨a,ha⟩:=h n (by omega);refine⟨l++[a],by simp[h1],fun i b hb=>?_⟩;by_cases hi:i<n
  ·rw[RV (by omega)]at hb;exact h2 i b hb
  ·have hlt:i<(l++[a]).length:=(Rp.1 hb).1;have:i=n:=by simp at hlt;omega
   subst this;rw[RO (by omega),h1]at hb;simp at hb;subst hb;exact ha
theorem ui{H α:Type}{sz:α→Nat}:∀{l:List α} {es:List (DataW H)},l.length=es.length→(∀(i:Nat) (a:α) (e:DataW H),l[i]? =some a→es[i]? =some e→sz a≤Rows.uptoBulk e)→(l.map sz).sum≤Rows.uptoBulkAll es
 |[],[],_,_=>by simp[Rows.uptoBulkAll]
 |[],_::_,h,_=>by simp at h
 |_::_,[],h,_=>by simp at h
 |a::l,e::es,h,hs=>by
  have h1:=hs 0 a e rfl rfl;have h2:=ui (l:=l) (es:=es) (by simpa using h) fun i a e x y=>hs (i+1) a e (by simpa using x) (by simpa using y);simp only[Rz,Tl,Rows.uptoBulkAll];omega
theorem kf{a:Addr}{k:Nat}{cs:List Value}(h:W.cells? 0 a k=some cs):cs.length=k∧∀j,j<k→W.cell? (a.add j)=cs[j]? :=by
 unfold World.cells? at h;rw[if_pos (RL _)]at h;exact⟨by simpa using mapM_some_length h,fun j hj=>mapM_some_get h j j (by simp[hj])⟩
theorem qJ{t e:TypeId}{α:Type}{en:α→List DV}{sz:α→Nat}{ok:α→Prop}(h:Rd P W e en sz ok)(ht:P.underlying t=some (.slice e)){k:Nat}(hk:P.cellsOf e=k)(hk0:0<k)(enE:α→DV)(mk:List Value→Value)
 (hmk:∀a cs,aa (gW W) (en a) cs→(∀u,u∈cs→u.oneCell'=true)→cs.length=k→aA (gW W) (enE a) (mk cs)∧(mk cs).cells.toList=cs):
 Rd P W t (fun l:List α=>[.sl k false (l.map enE)]) (fun l=>(l.map sz).sum+1) (fun l=>∀a,a∈l→ok a):=by
 intro H enc n cs x hx;rcases DataW.trod_slice ht hx with⟨rfl,rfl⟩|⟨a,len,cap,elems,rest,n',rfl,rfl,rfl, -,hlc,hcm,hel,hget, -, -⟩
 ·exact⟨[],by simp,by simp[Rows.uptoBulk],aa.cons (.nil _ _ _ _ (by simp)) (aa.nil _),by simp[Value.oneCell']⟩
 ·have hq:∀i,i<len→∃p:α×List Value,ok p.1∧(∀y,elems[i]? =some y→sz p.1≤Rows.uptoBulk y.1)∧W.cells? 0 (a.add (i*k)) k=some p.2∧aa (gW W) (en p.1) p.2∧∀u,u∈p.2→u.oneCell'=true:=by
   intro i hi;have h1:=hget i hi;rw[hk]at h1;have h2:elems[i]? =some elems[i]:=so (by omega);rw[h2,TH]at h1;obtain⟨ci,hc,htr⟩:=h1;obtain⟨b,b1,b2,b3,b4⟩:=h H enc n' ci _ htr;exact⟨(b,ci),b1,fun y hy=>by rw[h2]at hy;cases hy;exact b2,hc,b3,b4⟩
  obtain⟨ps,hpl,hps⟩:=qG len hq;refine⟨ps.map (·.1),fun b hb=>?_,?_,?_,by simp[Value.oneCell']⟩
  ·obtain⟨p,hp,rfl⟩:=RI.1 hb;obtain⟨i,hi⟩:=List.getElem?_of_mem hp;exact(hps i p hi).1
  ·have:=ui (sz:=sz) (l:=ps.map (·.1)) (es:=elems.map (·.1)) (by simp[hpl,hel]) fun i b e x y=>by
    rw[Rt,Rw]at x y;obtain⟨p,hp,rfl⟩:=x;obtain⟨y,hy,rfl⟩:=y;exact(hps i p hp).2.1 y hy
   simp only[Rows.uptoBulk];omega
  ·refine aa.cons ?_ (aa.nil _);by_cases h0:len=0
   ·subst h0;have:ps=[]:=Rs hpl;subst this;exact .nil _ _ _ _ (by simp)
   ·have hspot:a.spot=none:=by
     obtain⟨p,hp⟩:∃p,ps[0]? =some p:=⟨_,so (by omega)⟩;obtain⟨hl,hc⟩:=kf (hps 0 p hp).2.2.1;have:=hc 0 (by omega);rw[so (by omega)]at this;simp only[Nat.zero_mul,Addr.add,if_true]at this;unfold World.cell? at this;split at this
     ·split at this
      ·cases this
      ·rename_i hs;simpa using hs
     ·cases this
    obtain⟨b,o,sp⟩:=a;simp only at hspot;subst hspot;have hus:(ps.map fun p=>mk p.2).length=len:=by simp[hpl]
    have hmk':∀(i:Nat) (p:α×List Value),ps[i]? =some p→aA (gW W) (enE p.1) (mk p.2)∧(mk p.2).cells.toList=p.2∧p.2.length=k:=fun i p hp=>by
     have hc:=(kf (hps i p hp).2.2.1).1;have:=hmk p.1 p.2 (hps i p hp).2.2.2.1 (hps i p hp).2.2.2.2 hc;exact⟨this.1,this.2,hc⟩
    have:=aA.sl (g:=gW W) k false ((ps.map (·.1)).map enE) b o cap (ps.map fun p=>mk p.2) (by simp) (by simp) (by rw[hus];exact hlc) hcm
     (fun i d u hd hu=>by
      simp only[S6,Rt,Rw]at hd hu;obtain⟨p,hp,rfl⟩:=hd;obtain⟨q,hq,rfl⟩:=hu;rw[hp]at hq;cases hq;exact(hmk' i p hp).1)
     (fun i u hu=>by
      rw[Rt,Rw]at hu;obtain⟨p,hp,rfl⟩:=hu;have:=hmk' i p hp;rw[←RT,this.2.1,this.2.2])
     (fun u hu x hx=>by
      obtain⟨p,hp,rfl⟩:=RI.1 hu;obtain⟨i,hi⟩:=List.getElem?_of_mem hp;rw[(hmk' i p hi).2.1]at hx;exact(hps i p hi).2.2.2.2 x hx)
     (fun i u j x hu hx=>by
      rw[Rt,Rw]at hu;obtain⟨p,hp,rfl⟩:=hu;have hm:=hmk' i p hp;have hc:=(kf (hps i p hp).2.2.1).2;rw[←Sk,hm.2.1]at hx;have hj:j<k:=by rw[←hm.2.2];exact(Rp.1 hx).1
      have:=hc j hj;rw[hx]at this;show W.cell? ⟨b,o+i*k+j,none⟩=some x
      have e:(Addr.add ⟨b,o,none⟩ (i*k)).add j=⟨b,o+i*k+j,none⟩:=by
       unfold Addr.add;split <;>split <;>simp_all
      rw[←e];exact this)
    rw[hus]at this;exact this
theorem lP{t e:TypeId}{α:Type}{en:α→DV}{sz:α→Nat}{ok:α→Prop}(h:Rd P W e (fun a=>[en a]) sz ok)(ht:P.underlying t=some (.slice e))(hk:P.cellsOf e=1):
 Rd P W t (fun l:List α=>[.sl 1 false (l.map en)]) (fun l=>(l.map sz).sum+1) (fun l=>∀a,a∈l→ok a):=
 qJ h ht hk (by omega) en (fun cs=>cs.headD undef) fun a cs hr h1 hl=>by
  obtain⟨u,us,rfl,r1,r2⟩:=hr.ba;have:us=[]:=Rs (by simpa using hl);subst this;have hu:=h1 u Rx;refine⟨r1,?_⟩;cases u <;>simp_all [Value.cells,Value.oneCell']
theorem AO{t e:TypeId}{α:Type}{en:α→List DV}{sz:α→Nat}{ok:α→Prop}(h:Rd P W e en sz ok)(ht:P.underlying t=some (.slice e)){k:Nat}(hk:P.cellsOf e=k)(hk0:0<k):
 Rd P W t (fun l:List α=>[.sl k false (l.map fun a=> .agg (en a))]) (fun l=>(l.map sz).sum+1) (fun l=>∀a,a∈l→ok a):=
 qJ h ht hk hk0 (fun a=> .agg (en a)) (fun cs=> .agg cs.toArray) fun a cs hr h1 hl=>⟨.agg _ _ hr.len hr.at_ h1,rfl⟩
def OD(P:Program)(W:World)(total off:Nat)(fs:List Field){α:Type}(en:α→List DV)(sz:α→Nat)(ok:α→Prop):Prop:=
 ∀(H:Type) (enc:TypeId×Value→H) (n:Nat) (cs:List Value) (xs:List (DataW H×List MemPlace)),cs.length=total→xs.length=fs.length→
  (∀(i:Nat) (f:Field),fs[i]? =some f→DataW.trod enc P W 0 (fun _=>true) true n f.type ((cs.drop f.offset).take (P.cellsOf f.type))=xs[i]?)→
  ∃a,ok a∧sz a≤Rows.uptoBulkAll (xs.map (·.1))∧aa (gW W) (en a) (cs.drop off)∧∀u,u∈cs.drop off→u.oneCell'=true
theorem zJ{total:Nat}:OD P W total total [] (fun _:Unit=>[]) (fun _=>0) (fun _=>True):=by
 intro H enc n cs xs hc hx hg;refine⟨(),trivial,RL _,?_,?_⟩
 ·rw[List.drop_eq_nil_of_le (by omega)];exact aa.nil _
 ·rw[List.drop_eq_nil_of_le (by omega)];simp
theorem fk{total off k:Nat}{f:Field}{fs:List Field}{α β:Type}{en:α→List DV}{sz:α→Nat}{ok:α→Prop}{en':β→List DV}{sz':β→Nat}{ok':β→Prop}(h:Rd P W f.type en sz ok)(hf:f.offset=off)(hk:P.cellsOf f.type=k)(h':OD P W total (off+k) fs en' sz' ok'):
 OD P W total off (f::fs) (fun p:α×β=>en p.1++en' p.2) (fun p=>sz p.1+sz' p.2) (fun p=>ok p.1∧ok' p.2):=by
 intro H enc n cs xs hc hx hg
 cases xs with
 |nil=>simp at hx
 |cons x xs=>
  have h0:=hg 0 f rfl;rw[hf,hk]at h0;obtain⟨a,a1,a2,a3,a4⟩:=h H enc n _ x h0;obtain⟨b,b1,b2,b3,b4⟩:=h' H enc n cs xs hc (by simpa using hx) fun i f hf=>by have:=hg (i+1) f (by simpa using hf);simpa using this
  have e:cs.drop off=(cs.drop off).take k++cs.drop (off+k):=by rw[←TO,SC]
  refine⟨(a,b),⟨a1,b1⟩,?_,?_,?_⟩
  ·simp only[Rz,Rows.uptoBulkAll];omega
  ·rw[e];exact a3.append b3
  ·intro u hu;rw[e,RB]at hu;exact hu.elim (a4 u) (b4 u)
theorem qL{t:TypeId}{fs:Array Field}{α:Type}{en:α→List DV}{sz:α→Nat}{ok:α→Prop}(ht:P.underlying t=some (.struct fs)){total:Nat}(hc:P.cellsOf t=total){fl:List Field}(hfl:fs.toList=fl)(h:OD P W total 0 fl en sz ok):
 Rd P W t en (fun a=>sz a+1) ok:=by
 intro H enc n cs x hx;subst hfl;obtain⟨xs,n',rfl,rfl,h1,h2,h3⟩:=DataW.trod_struct ht hx;obtain⟨a,a1,a2,a3,a4⟩:=h H enc n' cs xs (by rw[h1,hc]) (by simpa using h2) fun i f hf=>h3 i f (by simpa using hf);exact⟨a,a1,by simp only[Rows.uptoBulk];omega,by simpa using a3,by simpa using a4⟩
def L8(P:Program)(W:World)(ts:List TypeId){α:Type}(en:α→List DV)(sz:α→Nat)(ok:α→Prop):Prop:=
 ∀(H:Type) (enc:TypeId×Value→H) (base:Nat) (vs:List Value) (ds:List (DataW H)) (p:List MemPlace),(∀(j:Nat) t v,ts[j]? =some t→vs[j]? =some v→Value.okWide P W .any base t v)→DataW.TrodAll enc P W 0 (fun _=>true) true ts vs ds p→
  ∃a,ok a∧sz a≤Rows.uptoBulkAll ds∧aa (gW W) (en a) vs
theorem jw:L8 P W [] (fun _:Unit=>[]) (fun _=>0) (fun _=>True):=by
 intro H enc base vs ds p hv h;obtain⟨rfl,rfl,rfl⟩:=trodAll_nil h;exact⟨(),trivial,RL _,aa.nil _⟩
def Ln(P:Program)(t:TypeId):Bool:=match P.underlying t with
 |some .bool|some .string|some (.int _)|some (.slice _)=>true
 |_=>false
theorem wE{t:TypeId}(ht:Ln P t=true){base:Nat}{v:Value}(h:Value.okWide P W .any base t v):v.cells= #[v]∧v.oneCell'=true:=by
 unfold Ln at ht;unfold Value.okWide Cell.okWide Cell.ok at h;split at ht
 ·rename_i hu;rw[hu]at h;cases v <;>simp_all [Value.cells,Value.oneCell']
 ·rename_i hu;rw[hu]at h;cases v <;>simp_all [Value.cells,Value.oneCell']
 ·rename_i hu;rw[hu]at h;cases v <;>simp_all [Value.cells,Value.oneCell']
 ·rename_i hu;rw[hu]at h;cases v <;>simp_all [Value.cells,Value.oneCell']
 ·cases ht
theorem eU{t:TypeId}{ts:List TypeId}{α β:Type}{en:α→DV}{sz:α→Nat}{ok:α→Prop}{en':β→List DV}{sz':β→Nat}{ok':β→Prop}(h:Rd P W t (fun a=>[en a]) sz ok)(ht:Ln P t=true)(h':L8 P W ts en' sz' ok'):
 L8 P W (t::ts) (fun p:α×β=>en p.1::en' p.2) (fun p=>sz p.1+sz' p.2) (fun p=>ok p.1∧ok' p.2):=by
 intro H enc base vs ds p hv hA;obtain⟨v,vs',d,ds',p1,q1,rfl,rfl,rfl,h1,h2⟩:=trodAll_cons hA;obtain⟨b,b1,b2,b3⟩:=h' H enc base vs' ds' q1 (fun j t v x y=>hv (j+1) t v (by simpa using x) (by simpa using y)) h2;obtain⟨n,hn⟩:=h1;obtain⟨a,a1,a2,a3,a4⟩:=h H enc n _ _ hn;obtain⟨hc,ho⟩:=wE ht (hv 0 t v rfl rfl);rw[hc]at a3;refine⟨(a,b),⟨a1,b1⟩,by simp only[Rows.uptoBulkAll];simp only at a2;omega,aa.cons ?_ b3⟩;obtain⟨u,us,he,r1,r2⟩:=a3.ba;simp only[Tc]at he;rw[he.1];exact r1
theorem zF{t:TypeId}{ts:List TypeId}{fs:Array Field}{α β:Type}{en:α→List DV}{sz:α→Nat}{ok:α→Prop}{en':β→List DV}{sz':β→Nat}{ok':β→Prop}(h:Rd P W t en sz ok)(ht:P.underlying t=some (.struct fs))(h':L8 P W ts en' sz' ok'):
 L8 P W (t::ts) (fun p:α×β=> .agg (en p.1)::en' p.2) (fun p=>sz p.1+sz' p.2) (fun p=>ok p.1∧ok' p.2):=by
 intro H enc base vs ds p hv hA;obtain⟨v,vs',d,ds',p1,q1,rfl,rfl,rfl,h1,h2⟩:=trodAll_cons hA;obtain⟨b,b1,b2,b3⟩:=h' H enc base vs' ds' q1 (fun j t v x y=>hv (j+1) t v (by simpa using x) (by simpa using y)) h2;obtain⟨n,hn⟩:=h1;obtain⟨a,a1,a2,a3,a4⟩:=h H enc n _ _ hn;have ho:=hv 0 t v rfl rfl;unfold Value.okWide at ho;rw[ht]at ho;obtain⟨cs,rfl,_,_⟩:=ho;refine⟨(a,b),⟨a1,b1⟩,by simp only[Rows.uptoBulkAll];simp only at a2;omega,aa.cons ?_ b3⟩;have:(Value.agg cs)= .agg cs.toList.toArray:=by simp
 rw[this];exact .agg _ _ (by simpa[Value.cells]using a3.len) (by simpa[Value.cells]using a3.at_) (by simpa[Value.cells]using a4)
theorem jP{H:Type}{enc:TypeId×Value→H}(hl:laidOutB P=true){W':World}(hb:Below W.heap.size W W'){sp:Nat→Bool}:∀{ts:List TypeId} {vs:List Value} {ds:List (DataW H)} {ps:List MemPlace},(∀t,t∈ts→P.readableRec t=true∧t<P.types.size)→
 DataW.TrodAll enc P W 0 (fun _=>true) true ts vs ds ps→(∀p,p∈ps→p.block<W.heap.size∧sp p.block=true)→DataW.TrodAll enc P W' 0 sp true ts vs ds ps
 |[],vs,ds,ps,_,h,_=>by
  obtain⟨rfl,rfl,rfl⟩:=trodAll_nil h;exact rfl
 |t::ts,vs,ds,ps,ht,h,hp=>by
  obtain⟨v,vs',d,ds',p1,q1,rfl,rfl,rfl,h1,h2⟩:=trodAll_cons h
  exact⟨p1,q1,WideElems.Trod_stays hl (ht t Rx).1 (ht t Rx).2 h1 (fun x hx=>hb.same (hp x (List.mem_append_left _ hx)).1) (fun x hx=>(hp x (List.mem_append_left _ hx)).2),
   jP hl hb (fun t' ht'=>ht t' (Rr _ ht')) h2 fun x hx=>hp x (List.mem_append_right _ hx),rfl⟩
theorem cF{w0:W0}(hw0:w0.w={W with drawn:=0})(hg0:w0.gh.sub (gW W)){H:Type}(enc:TypeId×Value→H){f:FuncId}{fn:Func}{s:ChangeSpec}{ts:List TypeId}{α:Type}{en:α→List DV}{sz:α→Nat}{ok:α→Prop}{tb:TypeId}(hr:L8 P W ts en sz ok)(hts:fn.params=ts.toArray)(hres:fn.resultTypes= #[tb])(htb:P.underlying tb=some .bool)(hvars:s.vars=[])
 (hl:laidOutB P=true) (hT:∀t,t∈ts→P.readableRec t=true∧t<P.types.size) (hspec:∀ds:List (DataW H),ds.length=ts.length→s.fn H ds={results:=[.lit (.bool true)],args:=ds})
 (hcall:∀a,ok a→sz a≤1048576→ab P w0 f (en a) ⟨[],[]⟩ fun d _=>d=dB true)
 (base:Nat) (args:Array Value) (ds gs:List (DataW H)) (before:List MemPlace) (hval:∀(j:Nat) t v,fn.params[j]? =some t→args[j]? =some v→Value.okWide P W .any base t v)
 (hW:DataW.Whole enc P fn.params.toList s.vars false W args.toList ds gs before) (hk:Rows.uptoBulkAll (ds++gs)≤1048576) (hpq:∀d S,¬w0.pq d S:=by exact fun _ _ h=>h):
 Calls P f args W fun e W'=>∃v,e= .returned v∧s.post enc P fn false true false false W args v W':=by
 have hW':=hW;obtain⟨p,q,hA,hV,rfl,hfz,hnd⟩:=hW;rw[hvars]at hV
 have hgs:gs=[]∧q=[]:=by
  cases gs with
  |nil=>exact⟨rfl,hV⟩
  |cons g gs=>exact hV.elim
 obtain⟨rfl,rfl⟩:=hgs;rw[hts]at hA;simp only[RU]at hk;obtain⟨a,a1,a2,a3⟩:=hr H enc base args.toList ds p (fun j t v x y=>hval j t v (by rw[hts];simpa using x) (by simpa using y)) (by simpa using hA);have hc:=hcall a a1 (Se a2 hk) (gW W) args W (yr hw0 hg0) a3;refine hc.mono ?_;rintro e W' (⟨r,g',d,S',rfl,hle,hR,hd,rfl⟩|⟨_,_,_,_,_,_,_,_,hF⟩)
 rotate_left
 ·exact(hpq _ _ hF).elim
 have hb0:=hR.below.base;unfold W0.heap at hb0;rw[hw0]at hb0;have hb:Below W.heap.size W W':=⟨hb0.os,hb0.tape,hb0.output,hb0.size,hb0.block⟩;have hrv:r= .bool true:=ky hd;subst hrv
 have hlen:ds.length=ts.length:=by
  have:∀{ts:List TypeId} {vs:List Value} {ds:List (DataW H)} {ps:List MemPlace},DataW.TrodAll enc P W 0 (fun _=>true) true ts vs ds ps→ds.length=ts.length:=by
   intro ts
   induction ts with
   |nil=>intro vs ds ps h;obtain⟨rfl,rfl,rfl⟩:=trodAll_nil h;rfl
   |cons t ts ih=>
    intro vs ds ps h;obtain⟨v,vs',d,ds',p1,q1,rfl,rfl,rfl,h1,h2⟩:=trodAll_cons h;simp[ih h2]
  exact this (by simpa using hA)
 have hsp:=hspec ds hlen;have hold:∀x,x∈p→x.block<W.heap.size:=fun x hx=>hW'.lt x (by simpa using hx)
 have hres':∀(b:Nat) (sp:Nat→Bool) (hd:Bool),DataW.TrodAll enc P W' b sp hd fn.resultTypes.toList ((Value.bool true).resultList fn.resultTypes.size) (s.fn H (ds++[])).results []:=by
  intro b sp hd;rw[RU,hsp,hres];exact trodAll_cons_mk (shut_bool htb _) trodAll_mk0
 have hargs':∀sp:Nat→Bool,(∀x,x∈p→sp x.block=true)→DataW.TrodAll enc P W' 0 sp true fn.params.toList args.toList (s.fn H (ds++[])).args p:=by
  intro sp hs;rw[RU,hsp,hts];exact jP hl hb hT (by simpa using hA) fun x hx=>⟨hold x hx,hs x hx⟩
 have hvars':∀sp:Nat→Bool,DataW.TrodVars enc P W' sp s.vars (s.fn H (ds++[])).vars []:=by
  intro sp;rw[RU,hsp,hvars];exact rfl
 refine⟨.bool true,rfl,ds,[],p++[],[],p,[],hW',hres' _ _ _,hargs' _ (fun x hx=>by simpa using hold x hx),hvars' _,World.keptBut_mono (fun x hx=>⟨hx,.inr (by simpa using hx)⟩) (hb.frame _),fun _=>?_⟩;refine⟨?_,_,_,([]++p)++[],⟨[]++p,[],trodAll_append (hargs' _ (fun _ _=>rfl)) (hres' _ _ _),hvars' _,rfl,?_,?_⟩,?_⟩
 ·exact ok_one hres rfl (okWide_bool_mk htb _)
 ·intro b off hp;have hp:MemPlace.cell b off∈p:=by simpa using hp
  rw[hb.frozen (hold _ hp)];exact hfz b off (by simpa using hp)
 ·intro ha;cases ha
 ·intro x hx _;simpa using hx
end
end Go.Proofs.YtiihljlagmmljaaGreatDoor
namespace Go.Proofs.YtiihljlagmmljaaGreatDoor
open Aml Go Lat Grs
instance:Inhabited G:=⟨⟨0,0,0⟩⟩
theorem I3(w0:W0)(a b:G)(S:St):ab Tryz.prog w0 23 [gD a,gD b] S (fun d S'=>d=dI (iH a b)∧S'=S):=by
 refine cR [] mx Tryz.func23 rfl rfl (by kernel_rfl) ?_;simp(maxDischargeDepth:=12) (maxSteps:=1000000) -implicitDefEqProofs only[Tryz.ntmps23,go_sem,Nat.reduceAdd,Nat.reduceSub,Nat.reduceMul,Nat.reduceLeDiff,Nat.reduceEqDiff,Nat.reduceGT,Nat.reduceBEq,reduceCtorEq,↓reduceIte,Int.reduceToNat,Int.reduceLE,Int.reduceLT,Int.reduceNe,Int.reduceEq];intro b2 b3;refine aq (Eu _ a b _) ?_;unfold iH
 cases h:eN a b with
 |true=>simp(maxDischargeDepth:=12) (maxSteps:=1000000) -implicitDefEqProofs only[go_sem,Nat.reduceAdd,Nat.reduceSub,Nat.reduceMul,Nat.reduceLeDiff,Nat.reduceEqDiff,Nat.reduceGT,Nat.reduceBEq,reduceCtorEq,↓reduceIte,Int.reduceToNat,Int.reduceLE,Int.reduceLT,Int.reduceNe,Int.reduceEq,h]
 |false=>
  simp(maxDischargeDepth:=12) (maxSteps:=1000000) -implicitDefEqProofs only[go_sem,Nat.reduceAdd,Nat.reduceSub,Nat.reduceMul,Nat.reduceLeDiff,Nat.reduceEqDiff,Nat.reduceGT,Nat.reduceBEq,reduceCtorEq,↓reduceIte,Int.reduceToNat,Int.reduceLE,Int.reduceLT,Int.reduceNe,Int.reduceEq,h];refine aq (Eu _ b a _) ?_
  cases h2:eN b a with
  |true=>simp(maxDischargeDepth:=12) (maxSteps:=1000000) -implicitDefEqProofs only[go_sem,Nat.reduceAdd,Nat.reduceSub,Nat.reduceMul,Nat.reduceLeDiff,Nat.reduceEqDiff,Nat.reduceGT,Nat.reduceBEq,reduceCtorEq,↓reduceIte,Int.reduceToNat,Int.reduceLE,Int.reduceLT,Int.reduceNe,Int.reduceEq,h,h2]
  |false=>simp(maxDischargeDepth:=12) (maxSteps:=1000000) -implicitDefEqProofs only[go_sem,Nat.reduceAdd,Nat.reduceSub,Nat.reduceMul,Nat.reduceLeDiff,Nat.reduceEqDiff,Nat.reduceGT,Nat.reduceBEq,reduceCtorEq,↓reduceIte,Int.reduceToNat,Int.reduceLE,Int.reduceLT,Int.reduceNe,Int.reduceEq,h,h2]
def cZ(a:G):List Value:=[.int .i64 a.a,.int .i64 a.f,.int .i64 a.t]
theorem pr(a b:G):ltOf iH a b=eN a b:=by
 unfold ltOf
 cases h:eN a b with
 |true=>exact decide_eq_true (pW.2 h)
 |false=>exact decide_eq_false fun q=>by rw[pW,h]at q;cases q
theorem My:Go.Sort.SWO (ltOf iH) where
 irrefl:=fun x=>by rw[pr];exact nu x
 trans:=fun x y z h k=>by rw[pr]at *;exact gz h k
 ntrans:=fun x y z h k=>by
  rw[pr]at*;rcases iq x z with q|q|q
  ·rcases iq y z with r|r|r
   ·rw[k]at r;cases r
   ·subst r;rw[h]at q;cases q
   ·have:=gz q r;rw[h]at this;cases this
  ·subst q;exact nu x
  ·exact jt q
theorem Pb(x y:G)(h:ltOf iH x y=false)(k:ltOf iH y x=false):x=y:=by
 rw[pr]at h k;rcases iq x y with q|q|q
 ·rw[h]at q;cases q
 ·exact q
 ·rw[k]at q;cases q
theorem vk(g:Gh)(x:G):aA g (gD x) (.agg (cZ x).toArray):=
 .agg _ _ rfl (fun i d u h1 h2=>by
  match i,h1,h2 with
  |0,h1,h2=>cases h1;cases h2;exact .v _ rfl
  |1,h1,h2=>cases h1;cases h2;exact .v _ rfl
  |2,h1,h2=>cases h1;cases h2;exact .v _ rfl
  |i+3,h1,h2=>simp at h1) (fun u hu=>by
  unfold cZ at hu;simp at hu;rcases hu with rfl|rfl|rfl <;>rfl)
theorem BA(w:World)(a b:G):Calls Tryz.prog 23 #[.agg (cZ a).toArray,.agg (cZ b).toArray] w fun e w'=>e= .returned (.int .i64 (iH a b))∧∃q os',w'=Go.Sort.grow (w.drewN q) os':=by
 have h:=I3 (W0.mk w ⟨fun _ _=>none,fun _ _=>none,fun _=>none,[]⟩ fun _ _=>False) a b ⟨[],[]⟩;refine(h (gW w) _ w (AU w) (aa.cons (vk _ a) (aa.cons (vk _ b) (aa.nil _)))).mono ?_;rintro e w' (⟨r,g',d,S',rfl,_,hR,hd,rfl,rfl⟩|⟨_,_,_,_,_,_,_,_,hF⟩)
 rotate_left
 ·exact hF.elim
 have hb:fJ w.heap.size w w':=hR.below.base;refine⟨by rw[an hd],w'.drawn-w.drawn,w'.heap.extract w.heap.size w'.heap.size,?_⟩
 have hheap:w'.heap=w.heap++w'.heap.extract w.heap.size w'.heap.size:=by
  refine Array.ext_getElem? fun k=>?_;by_cases hk:k<w.heap.size
  ·rw[S7 hk];exact hb.block k hk
  ·rw[Array.getElem?_append_right (by omega),Array.getElem?_extract];have:=hb.size;split
   ·rw[show w.heap.size+(k-w.heap.size)=k by omega]
   ·rw[Ss (by omega)]
 have h1:=hb.os;have h2:=hb.tape;have h3:=hb.output;have h4:=hb.drawn;clear hb hR hd;obtain⟨he,ta,dr,oss,out⟩:=w;obtain⟨he',ta',dr',oss',out'⟩:=w';simp only at h1 h2 h3 h4 hheap;subst h1;subst h2;subst h3;have e:dr+(dr'-dr)=dr':=by omega
 show World.mk he' ta' dr' oss' out'=World.mk (he++he'.extract he.size he'.size) ta' (dr+(dr'-dr)) oss' out';rw[e,←hheap]
theorem Ek(blk off size:Nat)(w:World):CmpLays Tryz.prog 23 #[] cZ 3 iH blk off size w:=fun m os dk _ x y=>by
 have:=BA (Go.Proofs.sortWorldK cZ 3 w blk off m dk os) x y;exact this
def kK(l:List G):List G:=l.mergeSort fun x y=>!(ltOf iH) y x
theorem gl(l:List G):(kK l).length=l.length:=List.length_mergeSort l
theorem Bx{l:List G}{j:Nat}{a:G}(h:l[j]? =some a):l.toArray[j]! =a:=by
 obtain⟨hlt,rfl⟩:=Rp.1 h;rw[getElem!_pos l.toArray j (by simpa using hlt)];simp
theorem oZ{l:List G}{i c:Nat}{a:G}(h:l[i]? =some a)(hc:c<3):(Go.Sort.flatK cZ 3 l.toArray)[i*3+c]! =(cZ a)[c]! :=by
 have hlt:i<l.length:=(Rp.1 h).1;rw[Go.Sort.get_flatK cZ 3 _ _ (by simp;omega),show(i*3+c)/3=i by omega,show(i*3+c)%3=c by omega,Bx h]
theorem rV{w:World}{n b e:Nat}{cs:Array Value}{zs:List G}{os:Array Obj}(hb:w.heap[b]? =some (.cells cs e (0,0)))(hn:zs.length*3≤cs.size):
 ∃cs',(Go.Proofs.sortWorldK cZ 3 w b 0 n zs.toArray os).heap[b]? =some (.cells cs' e (0,0))∧cs'.size=cs.size∧(∀(i:Nat) (a:G) (c:Nat),zs[i]? =some a→c<3→cs'[i*3+c]? =(cZ a)[c]?)∧∀x,x∈cs'.toList→x∈cs.toList∨∃a,x= .int .i64 a:=by
 refine⟨Go.Sort.putCells id 0 (Go.Sort.flatK cZ 3 zs.toArray) cs,?_,by simp[Go.Sort.putCells],fun i a c hi hc2=>?_,fun x hx=>?_⟩
 ·unfold Go.Proofs.sortWorldK;rw[Go.Sort.heap_grow_old _ _ (by have:=(Rq.1 hb).1;simpa[Go.Sort.putRowK]using this)];simp only[Go.Sort.putRowK,Go.Sort.putRow,Go.Sort.mapBlock,Go.Sort.heap_ahead,SD,if_true,hb,R6,Go.Sort.onCells]
 ·have hlt:i<zs.length:=(Rp.1 hi).1;have hc:cs[i*3+c]? =some cs[i*3+c]:=SH (by omega);simp only[Go.Sort.putCells,Array.getElem?_mapIdx,hc,R6];rw[if_pos (by simp;omega)];simp only[Nat.sub_zero];rw[oZ hi hc2]
  match c,hc2 with
  |0,_=>rfl
  |1,_=>rfl
  |2,_=>rfl
 ·obtain⟨i,hi⟩:=Su.1 hx;rw[Sk]at hi;simp only[Go.Sort.putCells,Array.getElem?_mapIdx,Rw]at hi;obtain⟨y,hy,rfl⟩:=hi;split
  ·rename_i hh;have h2:i<zs.length*3:=by have:=hh.2;simpa using this
   have hq:zs[i/3]? =some zs[i/3]:=so (by omega);have:=oZ (c:=i%3) hq (by omega);rw[show i/3*3+i%3=i by omega]at this;refine .inr ?_;rw[Nat.sub_zero,this];rcases(show i%3=0∨i%3=1∨i%3=2 by omega)with h|h|h <;>rw[h] <;>exact⟨_,rfl⟩
  ·exact .inl (Array.mem_toList_iff.2 (SR hy))
theorem LH{g:Gh}{a:G}{u:Value}(h:aA g (gD a) u):u= .agg (cZ a).toArray:=by
 unfold gD at h;cases h;rename_i us h1 hl hr
 match us,hl,hr with
 |[x,y,z],_,hr=>
  have e1:=an (hr 0 _ _ rfl rfl);have e2:=an (hr 1 _ _ rfl rfl);have e3:=an (hr 2 _ _ rfl rfl);rw[e1,e2,e3];rfl
theorem vR(w0:W0){l:Nat}{zs:List G}{S:St}(hl:lk S.acc l=some (.arr 3 (zs.map gD)))(hsz:zs.length<4611686018427387904):
 ab Tryz.prog w0 22 [.acc l zs.length,.v (.func (.func 23) #[] #[])] S (fun d S'=>d= .bU []∧S'=⟨S.box,up S.acc l (.arr 3 ((kK zs).map gD))⟩):=by
 intro g vs w h1 h2;obtain⟨u,us,hvs,hr,h3⟩:=h2.ba;obtain⟨u2,us2,hvs2,hr2,h4⟩:=h3.ba;have hus:us2=[]:=Rs (by have:=h4.len;simpa using this.symm);subst hus;have hvs':vs= #[u,u2]:=by rw[←Array.toArray_toList (xs:=vs),hvs,hvs2]
 subst hvs';obtain⟨o,c,hv,ha⟩:=ep hr;subst hv;have hv2:=an hr2;subst hv2;by_cases hz:zs=[]
 ·subst hz;refine(Tryz.qc o c _ w).mono ?_;rintro e w' ⟨rfl,rfl⟩;refine .inl ⟨_,g,.bU [],_,rfl,.refl g,?_,.bU [] [] rfl (by intro i d u h;simp at h),rfl,rfl⟩;have:kK []=[]:=by simp[kK]
  rw[this,sY hl];exact h1
 ·have hpos:0<zs.length:=Sv.2 hz;obtain⟨ow,hO⟩:=h1.open_;obtain⟨hs,⟨he,o2,_⟩|⟨b,c2,cs,e,q1,q2,q3,q4,q5,q6,q7,q8,q8x,us,q9,q10,q11,q12⟩⟩:=hO.acc l _ (bd hl)
  ·exact absurd (by simpa using he) hz
  ·rw[RM]at q1 q7;have q1':=q1;rw[ha]at q1;simp only[RC,Value.slice.injEq,true_and]at q1;obtain⟨rfl,rfl⟩:=q1;have hul:us.length=zs.length:=by have:=q9.len;simpa using this.symm
   have hus:∀(i:Nat) (a:G),zs[i]? =some a→us[i]? =some (.agg (cZ a).toArray):=by
    intro i a hi;have hlt:i<us.length:=by rw[hul];exact(Rp.1 hi).1
    have hu:us[i]? =some us[i]:=so hlt;have:=q9.at_ i (gD a) _ (by simp[hi]) hu;have:=LH this;rw[hu,this]
   have hcell:∀(a:G) (j:Nat),(Value.agg (cZ a).toArray).cells[j]? =(cZ a)[j]? :=fun a j=>by
    have e:(Value.agg (cZ a).toArray).cells=(cZ a).toArray:=rfl;rw[e];simp
   have hcs:∀(i:Nat) (a:G) (j:Nat),zs[i]? =some a→j<3→cs[i*3+j]? =(cZ a)[j]? :=by
    intro i a j hi hj;have hx:(cZ a)[j]? =some ((cZ a)[j]'(by unfold cZ;simpa using hj)):=so _;rw[hx];exact q12 i _ j _ (hus i a hi) (by rw[hcell,hx])
   have hH:Go.Sort.HoldsK cZ 3 w b 0 zs.toArray:=by
    intro j hj
    have hj':j<zs.length*3:=by
     have:(Go.Sort.flatK cZ 3 zs.toArray).size=zs.length*3:=by simp[Go.Sort.flatK]
     omega
    have hi:zs[j/3]? =some zs[j/3]:=so (by omega);have hf:=oZ (c:=j%3) hi (by omega);have hk:=hcs (j/3) _ (j%3) hi (by omega);rw[show j/3*3+j%3=j by omega]at hf hk;constructor
    ·rw[bq q5,Sz,hk,hf];rcases(show j%3=0∨j%3=1∨j%3=2 by omega)with h|h|h <;>rw[h] <;>rfl
    ·simp[World.frozen?,q5]
   refine(AnyQ.slices_SortFunc_total Tryz.Qd 3 (fun _=>rfl) (fun _=>rfl) cZ (fun _=>rfl) (fun x v hv=>by
    unfold cZ at hv;simp at hv;rcases hv with rfl|rfl|rfl <;>rfl) iH My 23 #[] b 0 c zs.toArray w (fun _ _=>rfl) (Ek b 0 _ w) hH (lt_of_heap q5) (by simpa using hsz) Pb).mono ?_
   rintro ex w' ⟨rfl,n,os,rfl⟩;have hss:(zs.toArray.toList.mergeSort fun x y=>!(ltOf iH) y x)=kK zs:=by simp[kK]
   rw[hss];obtain⟨cs',h5,h6,h7,h8⟩:=rV (n:=n) (os:=os) (zs:=kK zs) q5 (by rw[gl];omega)
   have hold:∀k,k<w.heap.size→k≠b→(Go.Proofs.sortWorldK cZ 3 w b 0 n (kK zs).toArray os).heap[k]? =w.heap[k]? :=fun k hk hne=>by
    unfold Go.Proofs.sortWorldK;rw[Go.Sort.heap_grow_old _ _ (by simp[Go.Sort.putRowK];exact hk)];have:b≠k:=fun e=>hne e.symm;simp[Go.Sort.putRowK,Go.Sort.putRow,Go.Sort.mapBlock,SD,this]
   have hgs:w.heap.size≤(Go.Proofs.sortWorldK cZ 3 w b 0 n (kK zs).toArray os).heap.size:=by
    unfold Go.Proofs.sortWorldK;simp[Go.Sort.putRowK]
   refine .inl ⟨_,g,.bU [],_,rfl,.refl g,?_,.bU [] [] rfl (by intro i d u h;simp at h),rfl,rfl⟩;refine h1.JD (us:=(kK zs).map fun a=>Value.agg (cZ a).toArray) (b:=b) (c:=c) (e:=e) (cs:=cs') hl (by rw[RM];exact ha) (by simp[gl]) (by omega) h5 (by omega) ?_ hgs hold ?_ ?_ ?_ ?_ fun x hx=>(h8 x hx).elim (q8x x) fun⟨a,e⟩=>by rw[e];rfl
   ·refine h1.below.step ⟨rfl,rfl,rfl,hgs,fun k hk=>?_,Nat.le_add_right _ _⟩ b (iY q5) fun k hk hne=>hold k hk hne;have:=h1.below.size;exact hold k (by omega) (by omega)
   ·exact⟨by simp,fun i d u a1 a2=>by
     simp only[Rt,Rw]at a1 a2;obtain⟨x,hx,rfl⟩:=a1;obtain⟨y,hy,rfl⟩:=a2;rw[hx]at hy;cases hy
     exact .agg _ _ rfl (fun i d u h1 h2=>by
      match i,h1,h2 with
      |0,h1,h2=>cases h1;cases h2;exact .v _ rfl
      |1,h1,h2=>cases h1;cases h2;exact .v _ rfl
      |2,h1,h2=>cases h1;cases h2;exact .v _ rfl
      |i+3,h1,h2=>simp at h1) (fun u hu=>by
      unfold cZ at hu;simp at hu;rcases hu with rfl|rfl|rfl <;>rfl)⟩
   ·intro i u hi;simp only[Rt,Rw]at hi;obtain⟨x,_,rfl⟩:=hi;rfl
   ·intro u hu x hx;obtain⟨a,_,rfl⟩:=RI.1 hu;have e:(Value.agg (cZ a).toArray).cells=(cZ a).toArray:=rfl;rw[e]at hx;unfold cZ at hx;simp at hx;rcases hx with rfl|rfl|rfl <;>rfl
   ·intro i u j x hi hj;simp only[Rt,Rw]at hi;obtain⟨a,ha',rfl⟩:=hi;rw[hcell]at hj
    have hj2:j<3:=by
     have:=(Rp.1 hj).1;simpa[cZ]using this
    rw[h7 i a j ha' hj2,hj]
end Go.Proofs.YtiihljlagmmljaaGreatDoor
namespace Aml.Y
open Go Go.RowKit
section
variable {P:Program} {w0:W0} {S0 S1:St} {ops:Array Oper} {md:Region.Mode}
def IC(gs ns:List Nat)(md:Region.Mode)(ops:Array Oper)(F:Array Bool→Bool):List Nat→Array Bool→Bool
 |[],listed=>F listed
 |k::ks,listed=>(Region.ready md ops listed).contains k&&Js gs ns md ops listed k&&IC gs ns md ops F ks (listed.setIfInBounds k true)
theorem nN{k:Nat}{listed:Array Bool}{m:Nat}(hun:listed.getD k true=false)(hcnt:∀l':List Nat,l'.Nodup→(∀k,k∈l'→listed.getD k true=false)→l'.length≤m+1):∀l':List Nat,l'.Nodup→(∀j,j∈l'→(listed.setIfInBounds k true).getD j true=false)→l'.length≤m:=by
 intro l' hn hl'
 have hks:k<listed.size:=by
  rcases Sj k listed.size with h|h
  ·exact h
  ·rw[RE,Ss h]at hun;cases hun
 have hkl:k∉l':=fun hk=>by
  have:=hl' k hk;rw[RE,RF]at this;simp[hks]at this
 have:=hcnt (k::l') (R0.2 ⟨hkl,hn⟩) fun m hm=>by
  rcases Rv.1 hm with rfl|hm
  ·exact hun
  ·have:=hl' m hm;rw[getD_set_ne true (show k≠m from fun e=>hkl (e▸hm))]at this;exact this
 simp at this;omega
theorem JF(hSS:∀T,Hm S0 T→Hm S1 T){gs ns:List Nat}{K G:List DV→St→Prop}{F:Array Bool→Bool}{m:Nat}
 (hG:∀listed fr S,F listed=true→(∀l':List Nat,l'.Nodup→(∀k,k∈l'→listed.getD k true=false)→l'.length≤m)→G fr S→II P w0 S0 S1 gs ns md ops K m listed fr S):∀(l:List Nat) (listed:Array Bool) (fr:List DV) (S:St),
 (∀l':List Nat,l'.Nodup→(∀k,k∈l'→listed.getD k true=false)→l'.length≤l.length+m)→
 IC gs ns md ops F l listed=true→LO P w0 S0 S1 gs ns ops G l fr S→II P w0 S0 S1 gs ns md ops K (l.length+m) listed fr S
 |[],listed,fr,S,hcnt,hB,h=>by
  simp only[Sf,Sz]at hcnt ⊢;exact hG listed fr S hB hcnt h
 |k::l,listed,fr,S,hcnt,hB,h=>by
  simp only[IC,Rm]at hB;obtain⟨⟨hr,hf⟩,hB'⟩:=hB;have hr':k∈Region.ready md ops listed:=by simpa using hr
  have hun:=(mem_ready.1 hr').1;unfold LO at h;split at h
  ·exact h.elim
  rename_i o h0
  have hcnt':∀l':List Nat,l'.Nodup→(∀k,k∈l'→listed.getD k true=false)→l'.length≤(l.length+m)+1:=fun l' a b=>by
   have:=hcnt l' a b;simp only[Ru]at this;omega
  have e:(k::l).length+m=(l.length+m)+1:=by simp only[Ru];omega
  rw[e];refine rn hSS h0 (l.length+m) listed fr S (rp hf) (pD h0 hf) hcnt' hr' ?_;exact da (fun fr S h=>⟨S,.refl S,JF hSS hG l _ fr S (nN hun hcnt') hB' h⟩) h
theorem nx{gs ns:List Nat}{K K':List DV→St→Prop}(h:∀fr S,K fr S→K' fr S):∀(l:List Nat) {fr:List DV} {S:St},LO P w0 S0 S1 gs ns ops K l fr S→LO P w0 S0 S1 gs ns ops K' l fr S
 |[],fr,S,q=>h _ _ q
 |i::is,fr,S,q=>by
  unfold LO at q ⊢;split at q
  ·exact q.elim
  ·exact da (fun fr S q=>nx h is q) q
inductive Tr where
 |ord (l:List Nat)
 |br (pre:List Nat) (a:Nat) (ta:Tr) (b:Nat) (tb:Tr)
def JC:Tr→Nat
 | .ord l=>l.length
 | .br pre a ta b tb=>pre.length+(JC ta+1)
def Gv(gs ns:List Nat)(ops:Array Oper):Tr→Array Bool→Bool
 | .ord l,listed=>w8 gs ns .any ops l listed
 | .br pre a ta b tb,listed=>JC ta==JC tb&&IC gs ns .any ops (fun listed=>(Region.ready .any ops listed).all (fun i=>i==a||i==b)&&!(Region.ready .any ops listed).isEmpty&&Gv gs ns ops ta (listed.setIfInBounds a true)&&Gv gs ns ops tb (listed.setIfInBounds b true)) pre listed
def LT(P:Program)(w0:W0)(S0 S1:St)(gs ns:List Nat)(ops:Array Oper)(K:List DV→St→Prop):Tr→List DV→St→Prop
 | .ord l,fr,S=>LO P w0 S0 S1 gs ns ops K l fr S
 | .br pre a ta b tb,fr,S=>LO P w0 S0 S1 gs ns ops (fun fr S=>LO P w0 S0 S1 gs ns ops (LT P w0 S0 S1 gs ns ops K ta) [a] fr S∧LO P w0 S0 S1 gs ns ops (LT P w0 S0 S1 gs ns ops K tb) [b] fr S) pre fr S
def Jr(P:Program)(w0:W0)(S0 S1:St)(gs ns:List Nat)(ops:Array Oper)(K:List DV→St→Prop):Tr→List DV→St→Prop
 | .ord l,fr,S=>iR P w0 S0 S1 gs ns ops K l fr S
 | .br pre a ta b tb,fr,S=>iR P w0 S0 S1 gs ns ops (fun fr S=>iR P w0 S0 S1 gs ns ops (Jr P w0 S0 S1 gs ns ops K ta) [a] fr S∧iR P w0 S0 S1 gs ns ops (Jr P w0 S0 S1 gs ns ops K tb) [b] fr S) pre fr S
theorem lQ{gs ns:List Nat}{K:List DV→St→Prop}(hs:∀(i:Nat) (o:Oper),ops[i]? =some o→eE o.op=true):∀(t:Tr) {fr:List DV} {S:St},Jr P w0 S0 S1 gs ns ops K t fr S→LT P w0 S0 S1 gs ns ops K t fr S
 | .ord l,fr,S,h=>cr hs l h
 | .br pre a ta b tb,fr,S,h=>nx (fun fr S h=>⟨nx (fun fr S h=>lQ hs ta h) _ (cr hs _ h.1),nx (fun fr S h=>lQ hs tb h) _ (cr hs _ h.2)⟩) pre (cr hs pre h)
theorem FV(hSS:∀T,Hm S0 T→Hm S1 T){gs ns:List Nat}{K:List DV→St→Prop}:∀(t:Tr) (listed:Array Bool) (fr:List DV) (S:St),
 (∀l':List Nat,l'.Nodup→(∀k,k∈l'→listed.getD k true=false)→l'.length≤JC t)→
 Gv gs ns ops t listed=true→LT P w0 S0 S1 gs ns ops K t fr S→II P w0 S0 S1 gs ns .any ops K (JC t) listed fr S
 | .ord l,listed,fr,S,hcnt,hB,h=>sr hSS l listed fr S hcnt hB h
 | .br pre a ta b tb,listed,fr,S,hcnt,hB,h=>by
  simp only[Gv,Rm,beq_iff_eq]at hB;obtain⟨he,hB⟩:=hB;refine JF hSS (m:=JC ta+1) (fun listed fr S hF hc hG=>?_) pre listed fr S hcnt hB h;simp only[Rm]at hF;obtain⟨⟨⟨hr,hne⟩,ha⟩,hb⟩:=hF;refine⟨fun h0=>(by rw[h0]at hne;cases hne),fun i hi=>?_⟩;have hik:i=a∨i=b:=by have:=RD.1 hr i hi;simpa using this
  have hun:=(mem_ready.1 hi).1;rcases hik with rfl|rfl
  ·have hq:=hG.1;unfold LO at hq;unfold qy
   cases ho:ops[i]? with
   |none=>rw[ho]at hq;exact hq.elim
   |some o=>
    rw[ho]at hq;simp only at hq ⊢;exact da (fun fr S h=>⟨S,.refl S,FV hSS ta _ fr S (nN hun hc) ha h⟩) hq
  ·have hq:=hG.2;unfold LO at hq;unfold qy
   cases ho:ops[i]? with
   |none=>rw[ho]at hq;exact hq.elim
   |some o=>
    rw[ho]at hq;simp only at hq ⊢;exact da (fun fr S h=>⟨S,.refl S,by rw[he];exact FV hSS tb _ fr S (fun l' x y=>by have:=nN hun hc l' x y;rw[he]at this;exact this) hb h⟩) hq
def MH(l:List Oper)(gs ns:List Nat)(t:Tr):Bool:=l.all (fun o=>eE o.op)&&Gv gs ns l.toArray t (Array.replicate l.length false)&&(JC t==l.length)
theorem Pu(S0 S1:St)(gs ns:List Nat)(t:Tr){id:Nat}{l:List Oper}{fr:List DV}{S:St}{Q:Exit→List DV→St→Prop}(hm:P.follows .mixedOrders=true)(hB:MH l gs ns t=true)(hSS:∀T,Hm S0 T→Hm S1 T)
 (h:Jr P w0 S0 S1 gs ns l.toArray (fun fr S=>fP fr fun fr=>Q .normal fr S) t fr S):fK P w0 (.region id l.toArray true) fr S Q:=by
 simp only[MH,Rm,beq_iff_eq]at hB
 have hs:∀(i:Nat) (o:Oper),l.toArray[i]? =some o→eE o.op=true:=fun i o ho=>by
  have:l[i]? =some o:=by simpa using ho
  exact RD.1 hB.1.1 o (Rj this)
 have h':=lQ hs t h;intro g a' w h1 h2 h3;refine fF hm fun ro=>?_;have hR:Rel w0 g S {w with drawn:=w.drawn+1}:=h1.grow (jT w)
 have hcnt:∀l':List Nat,l'.Nodup→(∀k,k∈l'→(Array.replicate l.length false).getD k true=false)→l'.length≤JC t:=by
  intro l' hn hl
  have hsub:∀k,k∈l'→k∈List.range l.length:=fun k hk=>by
   have:=hl k hk;rw[Si];rcases Sj k l.length with h|h
   ·exact h
   ·rw[RE,Ss (by simpa using h)]at this;cases this
  have:=hn.length_le_of_subset (l₂:=List.range l.length) hsub;rw[hB.2];simpa using this
 have:=FV (P:=P) (w0:=w0) (S0:=S0) (S1:=S1) (ops:=l.toArray) (K:=fun fr S=>Q .normal fr S) hSS t (Array.replicate l.length false) fr S hcnt hB.1.2 ?_
 ·have:=fB (ro:=ro) (g0:=g) (Q:=Q) _ _ fr S g a' _ (.refl g) hR h2 (h3.ma rfl fun _ _ h _=>h) this;rw[hB.2]at this;simpa using this
 ·exact h'
end
section
variable {P:Program} {w0:W0} {S0 S1:St} {gs ns:List Nat} {ops:Array Oper} {fr:List DV} {S:St} {K:List DV→St→Prop}
theorem MI(l:List Nat):Jr P w0 S0 S1 gs ns ops K (.ord l) fr S=iR P w0 S0 S1 gs ns ops K l fr S:=rfl
theorem Pw(pre:List Nat)(a:Nat)(ta:Tr)(b:Nat)(tb:Tr):Jr P w0 S0 S1 gs ns ops K (.br pre a ta b tb) fr S=iR P w0 S0 S1 gs ns ops (fun fr S=>iR P w0 S0 S1 gs ns ops (Jr P w0 S0 S1 gs ns ops K ta) [a] fr S∧iR P w0 S0 S1 gs ns ops (Jr P w0 S0 S1 gs ns ops K tb) [b] fr S) pre fr S:=rfl
theorem Ac(B:List (Nat×List DV))(A:List (Nat×Ob)):Has ⟨B,[]⟩ ⟨B,A⟩=True:=eq_true ⟨fun b x h=>h,fun l o h=>(by cases h)⟩
theorem xE(b:Nat)(X:List DV)(T:St):Has ⟨[(b,X)],[]⟩ T=(lk T.box b=some X):=propext ⟨fun h=>h.box b X (by simp[lk]),fun h=>⟨fun c x hc=>(by
 simp only[lk]at hc;split at hc
 ·rename_i e;cases hc;rw[←e];exact h
 ·cases hc),fun l o h=>(by cases h)⟩⟩
theorem Aa{S0:St}{b:Nat}{X:List DV}(h:lk S0.box b=some X):∀T,Hm S0 T→Hm ⟨[(b,X)],[]⟩ T:=fun T hT=>⟨fun c x hc=>(by
 simp only[lk]at hc;split at hc
 ·rename_i e;cases hc;rw[←e];exact hT.box b _ h
 ·cases hc),fun l o h=>(by cases h)⟩
end
attribute [go_sem ↓] MI Pw
attribute [go_sem] Ac xE
end Aml.Y
namespace Go.Proofs.YtiihljlagmmljaaGreatDoor
open Aml Go Lat Grs Rn
@[go_sem] def pS (R:St) (bp ln lu lq lg:Nat) (c:Cf):St:=⟨(bp,[.acc ln c.nm.length,.acc lu c.up.length,.acc lq c.qu.length,.acc lg c.gr.length])::R.box,(lg,.arr 3 (c.gr.map gD))::(lq,.arr 1 (c.qu.map dI))::(lu,.arr 1 (c.up.map fun x:Nat=>dU (x:Int)))::(ln,.tl 1 (aU c.nm))::R.acc⟩
structure LW(bp b4 br ln lu lq lg:Nat):Prop where
 a1:(br=b4)=False
 a2:(br=bp)=False
 a3:(b4=bp)=False
 cJ:(b4=br)=False
 cK:(bp=br)=False
 cA:(bp=b4)=False
 l1:(lg=lq)=False
 l2:(lg=lu)=False
 l3:(lg=ln)=False
 l4:(lq=lu)=False
 l5:(lq=ln)=False
 l6:(lu=ln)=False
 cI:(lq=lg)=False
 cO:(lu=lg)=False
 cM:(ln=lg)=False
 cP:(lu=lq)=False
 cH:(ln=lq)=False
 cN:(ln=lu)=False
@[go_sem] def lS (R:St) (bp b4 br ln lu lq lg:Nat) (c:Cf) (ws:List Wd) (e:Nat):St:=⟨(br,mC ws e)::(b4,[dI 0])::(pS R bp ln lu lq lg c).box,(pS R bp ln lu lq lg c).acc⟩
theorem Cd.mono{w0:W0}{S T:St}{n:Int}(h:Cd w0 S n)(k:Has S T):Cd w0 T n:=fun U hU=>h U (tq k hU)
theorem aJ{X:St}{B:List (Nat×List DV)}{A:List (Nat×Ob)}{b:Nat}{ds:List DV}(h:Has X ⟨B,A⟩)(hb:lk X.box b=none):Has X ⟨(b,ds)::B,A⟩:=⟨fun c x hc=>by
 have hne:¬b=c:=fun e=>by rw[←e,hb]at hc;cases hc
 show lk ((b,ds)::B) c=some x;unfold lk;rw[if_neg (by first|exact hne|exact fun e=>hne e.symm)];exact h.box c x hc,fun l o hl=>h.acc l o hl⟩
theorem xz(w0:W0)(S:St)(br:Nat)(w:Wd)(t:List Wd)(e:Nat)(hr:lk S.box br=some (mC (w::t) e))(F:FuncId)(hF:okF Tryz.prog F=true)(cap:Array Value)(hcap:cap.toList.all (fun u=>u.oneCell')=true)
 (his:∀T,Has S T→ab Tryz.prog w0 F (dS (tx w.1)::cap.toList.map .v) T (fun d T'=>d=dB true∧T'=T)):
 ab Tryz.prog w0 84 [.v (.pointer (some ⟨br,0,none⟩)),.v (.func (.func F) #[] cap)] S (fun d S'=>d=dS (tx w.1)∧S'=⟨up S.box br (mC t e),S.acc⟩):=by
 refine Oq [] mx Tryz.func84 rfl rfl (by kernel_rfl) ?_;simp(maxDischargeDepth:=12) (maxSteps:=1000000) -implicitDefEqProofs only[go_sem,Nat.reduceAdd,Nat.reduceSub,Nat.reduceMul,Nat.reduceLeDiff,Nat.reduceEqDiff,Nat.reduceGT,Nat.reduceBEq,reduceCtorEq,↓reduceIte,Int.reduceToNat,Int.reduceLE,Int.reduceLT,Int.reduceNe,Int.reduceEq,Tryz.ntmps84,hr];refine⟨fun h=>by omega,fun _=>⟨by omega,fun b=>⟨hcap,?_⟩⟩⟩;have eb:=fm b hr;have hH:∀ds,Has S ⟨(b.n,ds)::S.box,S.acc⟩:=fun ds=>(Has.refl S).oL b ds rfl;rw[hF];simp(maxDischargeDepth:=12) (maxSteps:=1000000) -implicitDefEqProofs only[go_sem,Nat.reduceAdd,Nat.reduceSub,Nat.reduceMul,Nat.reduceLeDiff,Nat.reduceEqDiff,Nat.reduceGT,Nat.reduceBEq,reduceCtorEq,↓reduceIte,Int.reduceToNat,Int.reduceLE,Int.reduceLT,Int.reduceNe,Int.reduceEq];refine aq (his _ (hH _)) ?_;simp(maxDischargeDepth:=12) (maxSteps:=1000000) -implicitDefEqProofs only[go_sem,Nat.reduceAdd,Nat.reduceSub,Nat.reduceMul,Nat.reduceLeDiff,Nat.reduceEqDiff,Nat.reduceGT,Nat.reduceBEq,reduceCtorEq,↓reduceIte,Int.reduceToNat,Int.reduceLE,Int.reduceLT,Int.reduceNe,Int.reduceEq,eb,hr];exact⟨by omega,_,⟨up S.box br (mC t e),S.acc⟩,.refl _,⟨.cons _ (.refl _),.refl _⟩,rfl,rfl⟩
theorem kM{R:St}{bp b4 br ln lu lq lg:Nat}(hN:LW bp b4 br ln lu lq lg)(hR:lk R.box br=none)(c:Cf)(e:Nat){X1 X2 X4 X5 X6 X7 X8:List DV}(b2:FN ((br,X1)::(b4,X4)::(bp,X5)::R.box))(b3:FN ((b2.n,X2)::(br,X6)::(b4,X7)::(bp,X8)::R.box))(ws':List Wd)(Y2 Y3:List DV):
 Has ⟨(b4,[dI 0])::(pS R bp ln lu lq lg c).box,(pS R bp ln lu lq lg c).acc⟩ ⟨(b3.n,Y3)::(b2.n,Y2)::(br,mC ws' e)::(b4,[dI 0])::(pS R bp ln lu lq lg c).box,(pS R bp ln lu lq lg c).acc⟩:=by
 have nn:∀(y:Nat) (l l':List (Nat×List DV)),l.map (·.1)=l'.map (·.1)→lk l y=none→lk l' y=none:=by
  intro y l
  induction l with
  |nil=>intro l' h _;cases l' with
   |nil=>rfl
   |cons p l'=>simp at h
  |cons p l ih=>
   intro l' h hl
   cases l' with
   |nil=>simp at h
   |cons p' l'=>
    obtain⟨k,x⟩:=p;obtain⟨k',x'⟩:=p';simp only[Rz,Tc]at h;obtain⟨rfl,h⟩:=h;unfold lk at hl ⊢;split at hl
    ·cases hl
    ·rename_i q;rw[if_neg q];exact ih l' h hl
 have tl:∀(x y:Nat) (ds:List DV) (l:List (Nat×List DV)),lk ((x,ds)::l) y=none→lk l y=none:=fun x y ds l h=>by
  unfold lk at h;split at h
  ·cases h
  ·exact h
 refine aJ (aJ (aJ (.refl _) ?_) ?_) ?_
 ·show lk ((b4,_)::(bp,_)::R.box) br=none;unfold lk;rw[if_neg (by first|exact fun e=>hN.a1.mp e.symm|exact fun e=>hN.a1.mp e)];unfold lk;rw[if_neg (by first|exact fun e=>hN.a2.mp e.symm|exact fun e=>hN.a2.mp e)];exact hR
 ·exact nn _ ((b4,X4)::(bp,X5)::R.box) _ rfl (tl _ _ _ _ (mH b2))
 ·exact nn _ ((b4,X7)::(bp,X8)::R.box) _ rfl (tl _ _ _ _ (tl _ _ _ _ (mH b3)))
def P2(K:DV→St→Prop)(d:DV)(S':St):Prop:=∃S'',Aml.Sub S'' S'∧K d S''
theorem fe{P:Program}{w0:W0}{f:FuncId}{args:List DV}{S:St}{K:DV→St→Prop}(h:ab P w0 f args S (P2 K)):ab P w0 f args S K:=by
 intro g vs w h1 h2;refine(h g vs w h1 h2).mono ?_;rintro e w' (⟨r,g',d,S',q1,q2,q3,q4,S'',q5,q6⟩|q)
 ·exact .inl ⟨r,g',d,S'',q1,q2,q3.forget q5.box q5.acc,q4,q6⟩
 ·exact .inr q
theorem Ny(w0:W0)(hk:KU w0)(hke:KE w0)(R:St)(bp b4 br ln lu lq lg:Nat)(hN:LW bp b4 br ln lu lq lg)(hR:lk R.box br=none)(c:Cf)(hc:Cw c)(a:Nat)(ws:List Wd)(hws:∀w,w∈ws→w.1.length≤1048576)(e:Nat)
 (hq:∀n,nS c ws e= .inl n→Cd w0 ⟨(b4,[dI 0])::(pS R bp ln lu lq lg c).box,(pS R bp ln lu lq lg c).acc⟩ n):
 ab Tryz.prog w0 54 [.v (.pointer (some ⟨bp,0,none⟩)),.v (.pointer (some ⟨br,0,none⟩))] (lS R bp b4 br ln lu lq lg c (([108,97,98,101,108],a)::ws) e) (fun d S'=>∃c',nS c ws e= .inr c'∧d= .bU []∧S'=lS R bp b4 br ln lu lq lg c' [] e):=by
 have hN':=hN;obtain⟨a1,a2,a3,cJ,cK,cA,l1,l2,l3,l4,l5,l6,cI,cO,cM,cP,cH,cN⟩:=hN';have h64:=hc.le;have e1:=hc.cu;have e2:=hc.eJ;refine fe ?_;refine yy [7,9,11,13,15] mx Tryz.func54 rfl rfl (by kernel_rfl) ?_;simp(maxDischargeDepth:=12) (maxSteps:=1000000) -implicitDefEqProofs only[Tryz.ntmps54,go_sem,Nat.reduceAdd,Nat.reduceSub,Nat.reduceMul,Nat.reduceLeDiff,Nat.reduceEqDiff,Nat.reduceGT,Nat.reduceBEq,reduceCtorEq,↓reduceIte,Int.reduceToNat,Int.reduceLE,Int.reduceLT,Int.reduceNe,Int.reduceEq,a1,a2,a3,cJ,cK,cA,l1,l2,l3,l4,l5,l6,cI,cO,cM,cP,cH,cN];intro b2 b3;have hHas:=fun ws' Y2 Y3=>kM hN hR c e b2 b3 ws' Y2 Y3;have f1:=af b2 (br) (by simp(maxDischargeDepth:=12) (maxSteps:=1000000) -implicitDefEqProofs only[go_sem,Nat.reduceAdd,Nat.reduceSub,Nat.reduceMul,Nat.reduceLeDiff,Nat.reduceEqDiff,Nat.reduceGT,Nat.reduceBEq,reduceCtorEq,↓reduceIte,Int.reduceToNat,Int.reduceLE,Int.reduceLT,Int.reduceNe,Int.reduceEq]);have f2:=af b2 (b4) (by simp(maxDischargeDepth:=12) (maxSteps:=1000000) -implicitDefEqProofs only[go_sem,Nat.reduceAdd,Nat.reduceSub,Nat.reduceMul,Nat.reduceLeDiff,Nat.reduceEqDiff,Nat.reduceGT,Nat.reduceBEq,reduceCtorEq,↓reduceIte,Int.reduceToNat,Int.reduceLE,Int.reduceLT,Int.reduceNe,Int.reduceEq,a1]);have f3:=af b2 (bp) (by simp(maxDischargeDepth:=12) (maxSteps:=1000000) -implicitDefEqProofs only[go_sem,Nat.reduceAdd,Nat.reduceSub,Nat.reduceMul,Nat.reduceLeDiff,Nat.reduceEqDiff,Nat.reduceGT,Nat.reduceBEq,reduceCtorEq,↓reduceIte,Int.reduceToNat,Int.reduceLE,Int.reduceLT,Int.reduceNe,Int.reduceEq,a2,a3]);have g0:=af b3 (b2.n) (by simp(maxDischargeDepth:=12) (maxSteps:=1000000) -implicitDefEqProofs only[go_sem,Nat.reduceAdd,Nat.reduceSub,Nat.reduceMul,Nat.reduceLeDiff,Nat.reduceEqDiff,Nat.reduceGT,Nat.reduceBEq,reduceCtorEq,↓reduceIte,Int.reduceToNat,Int.reduceLE,Int.reduceLT,Int.reduceNe,Int.reduceEq]);have g1:=af b3 (br) (by simp(maxDischargeDepth:=12) (maxSteps:=1000000) -implicitDefEqProofs only[go_sem,Nat.reduceAdd,Nat.reduceSub,Nat.reduceMul,Nat.reduceLeDiff,Nat.reduceEqDiff,Nat.reduceGT,Nat.reduceBEq,reduceCtorEq,↓reduceIte,Int.reduceToNat,Int.reduceLE,Int.reduceLT,Int.reduceNe,Int.reduceEq,f1]);have g2:=af b3 (b4) (by simp(maxDischargeDepth:=12) (maxSteps:=1000000) -implicitDefEqProofs only[go_sem,Nat.reduceAdd,Nat.reduceSub,Nat.reduceMul,Nat.reduceLeDiff,Nat.reduceEqDiff,Nat.reduceGT,Nat.reduceBEq,reduceCtorEq,↓reduceIte,Int.reduceToNat,Int.reduceLE,Int.reduceLT,Int.reduceNe,Int.reduceEq,f2,a1]);have g3:=af b3 (bp) (by simp(maxDischargeDepth:=12) (maxSteps:=1000000) -implicitDefEqProofs only[go_sem,Nat.reduceAdd,Nat.reduceSub,Nat.reduceMul,Nat.reduceLeDiff,Nat.reduceEqDiff,Nat.reduceGT,Nat.reduceBEq,reduceCtorEq,↓reduceIte,Int.reduceToNat,Int.reduceLE,Int.reduceLT,Int.reduceNe,Int.reduceEq,f3,a2,a3]);have hNm:∀ws',iF ⟨(b3.n,[.v (.pointer (some ⟨br,0,none⟩))])::(b2.n,[.v (.pointer (some ⟨bp,0,none⟩))])::(br,mC ws' e)::(b4,[dI 0])::(pS R bp ln lu lq lg c).box,(pS R bp ln lu lq lg c).acc⟩ bp c.nm:=fun ws'=>⟨ln,.acc lu c.up.length,.acc lq c.qu.length,.acc lg c.gr.length,by simp(maxDischargeDepth:=12) (maxSteps:=1000000) -implicitDefEqProofs only[go_sem,Nat.reduceAdd,Nat.reduceSub,Nat.reduceMul,Nat.reduceLeDiff,Nat.reduceEqDiff,Nat.reduceGT,Nat.reduceBEq,reduceCtorEq,↓reduceIte,Int.reduceToNat,Int.reduceLE,Int.reduceLT,Int.reduceNe,Int.reduceEq,a1,a2,a3,cJ,cK,cA,l1,l2,l3,l4,l5,l6,cI,cO,cM,cP,cH,cN,f1,f2,f3,g0,g1,g2,g3],by simp(maxDischargeDepth:=12) (maxSteps:=1000000) -implicitDefEqProofs only[go_sem,Nat.reduceAdd,Nat.reduceSub,Nat.reduceMul,Nat.reduceLeDiff,Nat.reduceEqDiff,Nat.reduceGT,Nat.reduceBEq,reduceCtorEq,↓reduceIte,Int.reduceToNat,Int.reduceLE,Int.reduceLT,Int.reduceNe,Int.reduceEq,a1,a2,a3,cJ,cK,cA,l1,l2,l3,l4,l5,l6,cI,cO,cM,cP,cH,cN,f1,f2,f3,g0,g1,g2,g3]⟩;refine bQ (xz _ _ br ([108,97,98,101,108],a) ws e (by simp(maxDischargeDepth:=12) (maxSteps:=1000000) -implicitDefEqProofs only[go_sem,Nat.reduceAdd,Nat.reduceSub,Nat.reduceMul,Nat.reduceLeDiff,Nat.reduceEqDiff,Nat.reduceGT,Nat.reduceBEq,reduceCtorEq,↓reduceIte,Int.reduceToNat,Int.reduceLE,Int.reduceLT,Int.reduceNe,Int.reduceEq,a1,a2,a3,cJ,cK,cA,l1,l2,l3,l4,l5,l6,cI,cO,cM,cP,cH,cN,f1,f2,f3,g0,g1,g2,g3]) 85 (by kernel_rfl) #[] rfl (fun T hT=>tc _ T [108,97,98,101,108])) ?_;rintro _ _ ⟨rfl,rfl⟩;have k0:(([108,97,98,101,108]:List UInt8)=[108,97,98,101,108])=True:=eq_self _;simp(maxDischargeDepth:=12) (maxSteps:=1000000) -implicitDefEqProofs only[go_sem,Nat.reduceAdd,Nat.reduceSub,Nat.reduceMul,Nat.reduceLeDiff,Nat.reduceEqDiff,Nat.reduceGT,Nat.reduceBEq,reduceCtorEq,↓reduceIte,Int.reduceToNat,Int.reduceLE,Int.reduceLT,Int.reduceNe,Int.reduceEq,k0,a1,a2,a3,cJ,cK,cA,l1,l2,l3,l4,l5,l6,cI,cO,cM,cP,cH,cN,f1,f2,f3,g0,g1,g2,g3];refine bQ (yL _ _ br ws e (by simp(maxDischargeDepth:=12) (maxSteps:=1000000) -implicitDefEqProofs only[go_sem,Nat.reduceAdd,Nat.reduceSub,Nat.reduceMul,Nat.reduceLeDiff,Nat.reduceEqDiff,Nat.reduceGT,Nat.reduceBEq,reduceCtorEq,↓reduceIte,Int.reduceToNat,Int.reduceLE,Int.reduceLT,Int.reduceNe,Int.reduceEq,a1,a2,a3,cJ,cK,cA,l1,l2,l3,l4,l5,l6,cI,cO,cM,cP,cH,cN,f1,f2,f3,g0,g1,g2,g3]) 86 (by kernel_rfl) #[.pointer (some ⟨b2.n,0,none⟩)] rfl (fun s=>pB (jY c.nm s)) (fun T w hT hw=>Ky _ hk T bp b2.n (hT.box _ _ (by simp(maxDischargeDepth:=12) (maxSteps:=1000000) -implicitDefEqProofs only[go_sem,Nat.reduceAdd,Nat.reduceSub,Nat.reduceMul,Nat.reduceLeDiff,Nat.reduceEqDiff,Nat.reduceGT,Nat.reduceBEq,reduceCtorEq,↓reduceIte,Int.reduceToNat,Int.reduceLE,Int.reduceLT,Int.reduceNe,Int.reduceEq,a1,a2,a3,cJ,cK,cA,l1,l2,l3,l4,l5,l6,cI,cO,cM,cP,cH,cN,f1,f2,f3,g0,g1,g2,g3])) c.nm ((hNm ws).mono hT) h64 w.1 (hws w hw)) (fun h=>(hq e (by rw[h];rfl)).mono (hHas ws _ _)) (fun w t h hb=>(hq w.2 (by rw[h];unfold nS;simp only[az,hb];rfl)).mono (hHas ws _ _))) ?_;rintro _ _ ⟨w,t,rfl,hkw,rfl,rfl⟩;simp(maxDischargeDepth:=12) (maxSteps:=1000000) -implicitDefEqProofs only[go_sem,Nat.reduceAdd,Nat.reduceSub,Nat.reduceMul,Nat.reduceLeDiff,Nat.reduceEqDiff,Nat.reduceGT,Nat.reduceBEq,reduceCtorEq,↓reduceIte,Int.reduceToNat,Int.reduceLE,Int.reduceLT,Int.reduceNe,Int.reduceEq,a1,a2,a3,cJ,cK,cA,l1,l2,l3,l4,l5,l6,cI,cO,cM,cP,cH,cN,f1,f2,f3,g0,g1,g2,g3];have hwl:=hws w (by simp);refine bQ (yL _ _ br t e (by simp(maxDischargeDepth:=12) (maxSteps:=1000000) -implicitDefEqProofs only[go_sem,Nat.reduceAdd,Nat.reduceSub,Nat.reduceMul,Nat.reduceLeDiff,Nat.reduceEqDiff,Nat.reduceGT,Nat.reduceBEq,reduceCtorEq,↓reduceIte,Int.reduceToNat,Int.reduceLE,Int.reduceLT,Int.reduceNe,Int.reduceEq,a1,a2,a3,cJ,cK,cA,l1,l2,l3,l4,l5,l6,cI,cO,cM,cP,cH,cN,f1,f2,f3,g0,g1,g2,g3]) 89 (by kernel_rfl) #[] rfl (fun s=>decide (dM s)) (fun T w' hT hw'=>KY _ hke T w'.1 (hws w' (by simp[hw']))) (fun h=>(hq e (by rw[h];unfold nS;simp only[az,hkw];rfl)).mono (hHas t _ _)) (fun w' t' h hb=>(hq w'.2 (by rw[h];unfold nS;simp only[az,hkw,hb];rfl)).mono (hHas t _ _))) ?_;rintro _ _ ⟨w',t',rfl,hkw',rfl,rfl⟩;simp(maxDischargeDepth:=12) (maxSteps:=1000000) -implicitDefEqProofs only[go_sem,Nat.reduceAdd,Nat.reduceSub,Nat.reduceMul,Nat.reduceLeDiff,Nat.reduceEqDiff,Nat.reduceGT,Nat.reduceBEq,reduceCtorEq,↓reduceIte,Int.reduceToNat,Int.reduceLE,Int.reduceLT,Int.reduceNe,Int.reduceEq,a1,a2,a3,cJ,cK,cA,l1,l2,l3,l4,l5,l6,cI,cO,cM,cP,cH,cN,f1,f2,f3,g0,g1,g2,g3];have hwl':=hws w' (by simp);refine aq (zq _ hke w'.1 hwl' _) ?_;simp(maxDischargeDepth:=12) (maxSteps:=1000000) -implicitDefEqProofs only[go_sem,Nat.reduceAdd,Nat.reduceSub,Nat.reduceMul,Nat.reduceLeDiff,Nat.reduceEqDiff,Nat.reduceGT,Nat.reduceBEq,reduceCtorEq,↓reduceIte,Int.reduceToNat,Int.reduceLE,Int.reduceLT,Int.reduceNe,Int.reduceEq,a1,a2,a3,cJ,cK,cA,l1,l2,l3,l4,l5,l6,cI,cO,cM,cP,cH,cN,f1,f2,f3,g0,g1,g2,g3];refine bQ (rm _ _ br b3.n (by simp(maxDischargeDepth:=12) (maxSteps:=1000000) -implicitDefEqProofs only[go_sem,Nat.reduceAdd,Nat.reduceSub,Nat.reduceMul,Nat.reduceLeDiff,Nat.reduceEqDiff,Nat.reduceGT,Nat.reduceBEq,reduceCtorEq,↓reduceIte,Int.reduceToNat,Int.reduceLE,Int.reduceLT,Int.reduceNe,Int.reduceEq,a1,a2,a3,cJ,cK,cA,l1,l2,l3,l4,l5,l6,cI,cO,cM,cP,cH,cN,f1,f2,f3,g0,g1,g2,g3]) t' e (by simp(maxDischargeDepth:=12) (maxSteps:=1000000) -implicitDefEqProofs only[go_sem,Nat.reduceAdd,Nat.reduceSub,Nat.reduceMul,Nat.reduceLeDiff,Nat.reduceEqDiff,Nat.reduceGT,Nat.reduceBEq,reduceCtorEq,↓reduceIte,Int.reduceToNat,Int.reduceLE,Int.reduceLT,Int.reduceNe,Int.reduceEq,a1,a2,a3,cJ,cK,cA,l1,l2,l3,l4,l5,l6,cI,cO,cM,cP,cH,cN,f1,f2,f3,g0,g1,g2,g3]) (fun w2 t2 h=>(hq w2.2 (by rw[h];unfold nS;simp only[az,hkw,hkw',gp];rfl)).mono (hHas t' _ _))) ?_;rintro _ _ ⟨rfl,rfl,rfl⟩;simp(maxDischargeDepth:=12) (maxSteps:=1000000) -implicitDefEqProofs only[go_sem,Nat.reduceAdd,Nat.reduceSub,Nat.reduceMul,Nat.reduceLeDiff,Nat.reduceEqDiff,Nat.reduceGT,Nat.reduceBEq,reduceCtorEq,↓reduceIte,Int.reduceToNat,Int.reduceLE,Int.reduceLT,Int.reduceNe,Int.reduceEq,a1,a2,a3,cJ,cK,cA,l1,l2,l3,l4,l5,l6,cI,cO,cM,cP,cH,cN,f1,f2,f3,g0,g1,g2,g3];refine Y.u1 ⟨(b3.n,[.v (.pointer (some ⟨br,0,none⟩))])::(b2.n,[.v (.pointer (some ⟨bp,0,none⟩))])::(br,mC [] e)::(b4,[dI 0])::(pS R bp ln lu lq lg c).box,[]⟩ ⟨[(b2.n,[.v (.pointer (some ⟨bp,0,none⟩))])],[]⟩ [10,18,25] [29,33,37,1001,1002] [8,9,16,17,24,0,1,2,3,4,5,6,7,11,12,13,14,15,19,20,21,22,23,10,18,25,26,27,28,29,30,31,32,33,34,35,36,37] mx (by kernel_rfl) (Y.Aa (by simp(maxDischargeDepth:=12) (maxSteps:=1000000) -implicitDefEqProofs only[go_sem,Nat.reduceAdd,Nat.reduceSub,Nat.reduceMul,Nat.reduceLeDiff,Nat.reduceEqDiff,Nat.reduceGT,Nat.reduceBEq,reduceCtorEq,↓reduceIte,Int.reduceToNat,Int.reduceLE,Int.reduceLT,Int.reduceNe,Int.reduceEq,g0])) ?_;simp(maxDischargeDepth:=12) (maxSteps:=1000000) -implicitDefEqProofs only[go_sem,Nat.reduceAdd,Nat.reduceSub,Nat.reduceMul,Nat.reduceLeDiff,Nat.reduceEqDiff,Nat.reduceGT,Nat.reduceBEq,reduceCtorEq,↓reduceIte,Int.reduceToNat,Int.reduceLE,Int.reduceLT,Int.reduceNe,Int.reduceEq,a1,a2,a3,cJ,cK,cA,l1,l2,l3,l4,l5,l6,cI,cO,cM,cP,cH,cN,f1,f2,f3,g0,g1,g2,g3];have hm8:maxLen=9223372036854775807:=rfl;refine⟨by omega,by omega,by omega,by omega,by omega,by omega,⟨_,_⟩,⟨.cons _ (.cons _ (.refl _)),.refl _⟩,⟨c.nm++[w.1],c.up++[0],c.qu++[(iD w'.1:Int)],c.gr⟩,?_,rfl,?_⟩
 ·unfold nS;simp only[az,hkw,hkw',gp];rfl
 ·simp only[Rk,Sg,R8,Rz,SN];rfl
theorem aT{c:Cf}{s:List UInt8}(h:s∈c.nm):bB c.nm s=(ix c s:Int):=by unfold bB ix;rw[if_pos h]
theorem MW(w0:W0)(R:St)(bp b4 br ln lu lq lg:Nat)(hN:LW bp b4 br ln lu lq lg)(hR:lk R.box br=none)(c:Cf)(hc:Cw c)(a:Nat)(ws:List Wd)(e:Nat)
 (hq:∀n,oG c ws e= .inl n→Cd w0 ⟨(b4,[dI 0])::(pS R bp ln lu lq lg c).box,(pS R bp ln lu lq lg c).acc⟩ n):
 ab Tryz.prog w0 54 [.v (.pointer (some ⟨bp,0,none⟩)),.v (.pointer (some ⟨br,0,none⟩))] (lS R bp b4 br ln lu lq lg c (([117,110,100,101,114],a)::ws) e) (fun d S'=>∃c',oG c ws e= .inr c'∧d= .bU []∧S'=lS R bp b4 br ln lu lq lg c' [] e):=by
 have hN':=hN;obtain⟨a1,a2,a3,cJ,cK,cA,l1,l2,l3,l4,l5,l6,cI,cO,cM,cP,cH,cN⟩:=hN';have h64:=hc.le;have e1:=hc.cu;have e2:=hc.eJ;refine fe ?_;refine yy [7,9,11,13,15] mx Tryz.func54 rfl rfl (by kernel_rfl) ?_;simp(maxDischargeDepth:=12) (maxSteps:=1000000) -implicitDefEqProofs only[Tryz.ntmps54,go_sem,Nat.reduceAdd,Nat.reduceSub,Nat.reduceMul,Nat.reduceLeDiff,Nat.reduceEqDiff,Nat.reduceGT,Nat.reduceBEq,reduceCtorEq,↓reduceIte,Int.reduceToNat,Int.reduceLE,Int.reduceLT,Int.reduceNe,Int.reduceEq,a1,a2,a3,cJ,cK,cA,l1,l2,l3,l4,l5,l6,cI,cO,cM,cP,cH,cN];intro b2 b3;have hHas:=fun ws' Y2 Y3=>kM hN hR c e b2 b3 ws' Y2 Y3;have f1:=af b2 (br) (by simp(maxDischargeDepth:=12) (maxSteps:=1000000) -implicitDefEqProofs only[go_sem,Nat.reduceAdd,Nat.reduceSub,Nat.reduceMul,Nat.reduceLeDiff,Nat.reduceEqDiff,Nat.reduceGT,Nat.reduceBEq,reduceCtorEq,↓reduceIte,Int.reduceToNat,Int.reduceLE,Int.reduceLT,Int.reduceNe,Int.reduceEq]);have f2:=af b2 (b4) (by simp(maxDischargeDepth:=12) (maxSteps:=1000000) -implicitDefEqProofs only[go_sem,Nat.reduceAdd,Nat.reduceSub,Nat.reduceMul,Nat.reduceLeDiff,Nat.reduceEqDiff,Nat.reduceGT,Nat.reduceBEq,reduceCtorEq,↓reduceIte,Int.reduceToNat,Int.reduceLE,Int.reduceLT,Int.reduceNe,Int.reduceEq,a1]);have f3:=af b2 (bp) (by simp(maxDischargeDepth:=12) (maxSteps:=1000000) -implicitDefEqProofs only[go_sem,Nat.reduceAdd,Nat.reduceSub,Nat.reduceMul,Nat.reduceLeDiff,Nat.reduceEqDiff,Nat.reduceGT,Nat.reduceBEq,reduceCtorEq,↓reduceIte,Int.reduceToNat,Int.reduceLE,Int.reduceLT,Int.reduceNe,Int.reduceEq,a2,a3]);have g0:=af b3 (b2.n) (by simp(maxDischargeDepth:=12) (maxSteps:=1000000) -implicitDefEqProofs only[go_sem,Nat.reduceAdd,Nat.reduceSub,Nat.reduceMul,Nat.reduceLeDiff,Nat.reduceEqDiff,Nat.reduceGT,Nat.reduceBEq,reduceCtorEq,↓reduceIte,Int.reduceToNat,Int.reduceLE,Int.reduceLT,Int.reduceNe,Int.reduceEq]);have g1:=af b3 (br) (by simp(maxDischargeDepth:=12) (maxSteps:=1000000) -implicitDefEqProofs only[go_sem,Nat.reduceAdd,Nat.reduceSub,Nat.reduceMul,Nat.reduceLeDiff,Nat.reduceEqDiff,Nat.reduceGT,Nat.reduceBEq,reduceCtorEq,↓reduceIte,Int.reduceToNat,Int.reduceLE,Int.reduceLT,Int.reduceNe,Int.reduceEq,f1]);have g2:=af b3 (b4) (by simp(maxDischargeDepth:=12) (maxSteps:=1000000) -implicitDefEqProofs only[go_sem,Nat.reduceAdd,Nat.reduceSub,Nat.reduceMul,Nat.reduceLeDiff,Nat.reduceEqDiff,Nat.reduceGT,Nat.reduceBEq,reduceCtorEq,↓reduceIte,Int.reduceToNat,Int.reduceLE,Int.reduceLT,Int.reduceNe,Int.reduceEq,f2,a1]);have g3:=af b3 (bp) (by simp(maxDischargeDepth:=12) (maxSteps:=1000000) -implicitDefEqProofs only[go_sem,Nat.reduceAdd,Nat.reduceSub,Nat.reduceMul,Nat.reduceLeDiff,Nat.reduceEqDiff,Nat.reduceGT,Nat.reduceBEq,reduceCtorEq,↓reduceIte,Int.reduceToNat,Int.reduceLE,Int.reduceLT,Int.reduceNe,Int.reduceEq,f3,a2,a3]);have g4:(br=b3.n)=False:=by rw[←g1];exact propext eq_comm
 have f4:(br=b2.n)=False:=by rw[←f1];exact propext eq_comm
 have hNm:∀ws',iF ⟨(b3.n,[.v (.pointer (some ⟨br,0,none⟩))])::(b2.n,[.v (.pointer (some ⟨bp,0,none⟩))])::(br,mC ws' e)::(b4,[dI 0])::(pS R bp ln lu lq lg c).box,(pS R bp ln lu lq lg c).acc⟩ bp c.nm:=fun ws'=>⟨ln,.acc lu c.up.length,.acc lq c.qu.length,.acc lg c.gr.length,by simp(maxDischargeDepth:=12) (maxSteps:=1000000) -implicitDefEqProofs only[go_sem,Nat.reduceAdd,Nat.reduceSub,Nat.reduceMul,Nat.reduceLeDiff,Nat.reduceEqDiff,Nat.reduceGT,Nat.reduceBEq,reduceCtorEq,↓reduceIte,Int.reduceToNat,Int.reduceLE,Int.reduceLT,Int.reduceNe,Int.reduceEq,a1,a2,a3,cJ,cK,cA,l1,l2,l3,l4,l5,l6,cI,cO,cM,cP,cH,cN,f1,f2,f3,g0,g1,g2,g3],by simp(maxDischargeDepth:=12) (maxSteps:=1000000) -implicitDefEqProofs only[go_sem,Nat.reduceAdd,Nat.reduceSub,Nat.reduceMul,Nat.reduceLeDiff,Nat.reduceEqDiff,Nat.reduceGT,Nat.reduceBEq,reduceCtorEq,↓reduceIte,Int.reduceToNat,Int.reduceLE,Int.reduceLT,Int.reduceNe,Int.reduceEq,a1,a2,a3,cJ,cK,cA,l1,l2,l3,l4,l5,l6,cI,cO,cM,cP,cH,cN,f1,f2,f3,g0,g1,g2,g3]⟩;refine bQ (xz _ _ br ([117,110,100,101,114],a) ws e (by simp(maxDischargeDepth:=12) (maxSteps:=1000000) -implicitDefEqProofs only[go_sem,Nat.reduceAdd,Nat.reduceSub,Nat.reduceMul,Nat.reduceLeDiff,Nat.reduceEqDiff,Nat.reduceGT,Nat.reduceBEq,reduceCtorEq,↓reduceIte,Int.reduceToNat,Int.reduceLE,Int.reduceLT,Int.reduceNe,Int.reduceEq,a1,a2,a3,cJ,cK,cA,l1,l2,l3,l4,l5,l6,cI,cO,cM,cP,cH,cN,f1,f2,f3,g0,g1,g2,g3]) 85 (by kernel_rfl) #[] rfl (fun T hT=>tc _ T [117,110,100,101,114])) ?_;rintro _ _ ⟨rfl,rfl⟩;have k0:(([117,110,100,101,114]:List UInt8)=[108,97,98,101,108])=False:=eq_false (by decide);have k1:(([117,110,100,101,114]:List UInt8)=[117,110,100,101,114])=True:=eq_self _;simp(maxDischargeDepth:=12) (maxSteps:=1000000) -implicitDefEqProofs only[go_sem,Nat.reduceAdd,Nat.reduceSub,Nat.reduceMul,Nat.reduceLeDiff,Nat.reduceEqDiff,Nat.reduceGT,Nat.reduceBEq,reduceCtorEq,↓reduceIte,Int.reduceToNat,Int.reduceLE,Int.reduceLT,Int.reduceNe,Int.reduceEq,k0,k1,a1,a2,a3,cJ,cK,cA,l1,l2,l3,l4,l5,l6,cI,cO,cM,cP,cH,cN,f1,f2,f3,g0,g1,g2,g3];refine Y.MM [br] [2,5] [] [0,1,3,4,2,5,6,7] mx (by kernel_rfl) ?_;simp(maxDischargeDepth:=12) (maxSteps:=1000000) -implicitDefEqProofs only[go_sem,Nat.reduceAdd,Nat.reduceSub,Nat.reduceMul,Nat.reduceLeDiff,Nat.reduceEqDiff,Nat.reduceGT,Nat.reduceBEq,reduceCtorEq,↓reduceIte,Int.reduceToNat,Int.reduceLE,Int.reduceLT,Int.reduceNe,Int.reduceEq,f4,g4,a1,a2,a3,cJ,cK,cA,l1,l2,l3,l4,l5,l6,cI,cO,cM,cP,cH,cN,f1,f2,f3,g0,g1,g2,g3];refine bQ (fG _ _ bp br a2 c.nm (hNm ws) h64 ws e (by simp(maxDischargeDepth:=12) (maxSteps:=1000000) -implicitDefEqProofs only[go_sem,Nat.reduceAdd,Nat.reduceSub,Nat.reduceMul,Nat.reduceLeDiff,Nat.reduceEqDiff,Nat.reduceGT,Nat.reduceBEq,reduceCtorEq,↓reduceIte,Int.reduceToNat,Int.reduceLE,Int.reduceLT,Int.reduceNe,Int.reduceEq,a1,a2,a3,cJ,cK,cA,l1,l2,l3,l4,l5,l6,cI,cO,cM,cP,cH,cN,f1,f2,f3,g0,g1,g2,g3]) (fun h=>(hq e (by rw[h];rfl)).mono (hHas ws _ _)) (fun w t h hb=>(hq w.2 (by rw[h];unfold oG;simp only[az,decide_eq_false hb];rfl)).mono (hHas ws _ _))) ?_;rintro _ _ ⟨w,t,rfl,hw,rfl,rfl⟩;simp(maxDischargeDepth:=12) (maxSteps:=1000000) -implicitDefEqProofs only[go_sem,Nat.reduceAdd,Nat.reduceSub,Nat.reduceMul,Nat.reduceLeDiff,Nat.reduceEqDiff,Nat.reduceGT,Nat.reduceBEq,reduceCtorEq,↓reduceIte,Int.reduceToNat,Int.reduceLE,Int.reduceLT,Int.reduceNe,Int.reduceEq,f4,g4,a1,a2,a3,cJ,cK,cA,l1,l2,l3,l4,l5,l6,cI,cO,cM,cP,cH,cN,f1,f2,f3,g0,g1,g2,g3];refine bQ (fG _ _ bp br a2 c.nm (hNm t) h64 t e (by simp(maxDischargeDepth:=12) (maxSteps:=1000000) -implicitDefEqProofs only[go_sem,Nat.reduceAdd,Nat.reduceSub,Nat.reduceMul,Nat.reduceLeDiff,Nat.reduceEqDiff,Nat.reduceGT,Nat.reduceBEq,reduceCtorEq,↓reduceIte,Int.reduceToNat,Int.reduceLE,Int.reduceLT,Int.reduceNe,Int.reduceEq,a1,a2,a3,cJ,cK,cA,l1,l2,l3,l4,l5,l6,cI,cO,cM,cP,cH,cN,f1,f2,f3,g0,g1,g2,g3]) (fun h=>(hq e (by rw[h];unfold oG;simp only[az,decide_eq_true hw];rfl)).mono (hHas t _ _)) (fun w2 t2 h hb=>(hq w2.2 (by rw[h];unfold oG;simp only[az,decide_eq_true hw,decide_eq_false hb];rfl)).mono (hHas t _ _))) ?_;rintro _ _ ⟨w',t',rfl,hw',rfl,rfl⟩;simp(maxDischargeDepth:=12) (maxSteps:=1000000) -implicitDefEqProofs only[go_sem,Nat.reduceAdd,Nat.reduceSub,Nat.reduceMul,Nat.reduceLeDiff,Nat.reduceEqDiff,Nat.reduceGT,Nat.reduceBEq,reduceCtorEq,↓reduceIte,Int.reduceToNat,Int.reduceLE,Int.reduceLT,Int.reduceNe,Int.reduceEq,f4,g4,a1,a2,a3,cJ,cK,cA,l1,l2,l3,l4,l5,l6,cI,cO,cM,cP,cH,cN,f1,f2,f3,g0,g1,g2,g3];refine bQ (rm _ _ br b3.n (by simp(maxDischargeDepth:=12) (maxSteps:=1000000) -implicitDefEqProofs only[go_sem,Nat.reduceAdd,Nat.reduceSub,Nat.reduceMul,Nat.reduceLeDiff,Nat.reduceEqDiff,Nat.reduceGT,Nat.reduceBEq,reduceCtorEq,↓reduceIte,Int.reduceToNat,Int.reduceLE,Int.reduceLT,Int.reduceNe,Int.reduceEq,a1,a2,a3,cJ,cK,cA,l1,l2,l3,l4,l5,l6,cI,cO,cM,cP,cH,cN,f1,f2,f3,g0,g1,g2,g3]) t' e (by simp(maxDischargeDepth:=12) (maxSteps:=1000000) -implicitDefEqProofs only[go_sem,Nat.reduceAdd,Nat.reduceSub,Nat.reduceMul,Nat.reduceLeDiff,Nat.reduceEqDiff,Nat.reduceGT,Nat.reduceBEq,reduceCtorEq,↓reduceIte,Int.reduceToNat,Int.reduceLE,Int.reduceLT,Int.reduceNe,Int.reduceEq,a1,a2,a3,cJ,cK,cA,l1,l2,l3,l4,l5,l6,cI,cO,cM,cP,cH,cN,f1,f2,f3,g0,g1,g2,g3]) (fun w2 t2 h=>(hq w2.2 (by rw[h];unfold oG;simp only[az,decide_eq_true hw,decide_eq_true hw',gp];rfl)).mono (hHas t' _ _))) ?_;rintro _ _ ⟨rfl,rfl,rfl⟩;simp(maxDischargeDepth:=12) (maxSteps:=1000000) -implicitDefEqProofs only[go_sem,Nat.reduceAdd,Nat.reduceSub,Nat.reduceMul,Nat.reduceLeDiff,Nat.reduceEqDiff,Nat.reduceGT,Nat.reduceBEq,reduceCtorEq,↓reduceIte,Int.reduceToNat,Int.reduceLE,Int.reduceLT,Int.reduceNe,Int.reduceEq,f4,g4,a1,a2,a3,cJ,cK,cA,l1,l2,l3,l4,l5,l6,cI,cO,cM,cP,cH,cN,f1,f2,f3,g0,g1,g2,g3];refine Y.Ib [] [] [5,8,9,0,1,2,3,4,6,7,10,11,12] mx (by kernel_rfl) ?_;have hi1:=my hw;have hi2:=my hw';have i1:=aT hw;have i2:=aT hw';have ha:c.up[ix c w.1]? =some (c.up[ix c w.1]'(by omega)):=so (by omega);have hax:c.up[ix c w.1]'(by omega)<18446744073709551616:=nY h64 (hc.bit _ (TE _));have hgd:c.up.getD (ix c w.1) 0=c.up[ix c w.1]'(by omega):=by rw[Rl,ha];rfl
 have hsh:=CA (i:=ix c w'.1) (by omega);have hor:=jm hax (py (k:=ix c w'.1) (by omega));generalize c.up[ix c w.1]'(by omega)=x at ha hax hgd hor;simp(maxDischargeDepth:=12) (maxSteps:=1000000) -implicitDefEqProofs only[go_sem,Nat.reduceAdd,Nat.reduceSub,Nat.reduceMul,Nat.reduceLeDiff,Nat.reduceEqDiff,Nat.reduceGT,Nat.reduceBEq,reduceCtorEq,↓reduceIte,Int.reduceToNat,Int.reduceLE,Int.reduceLT,Int.reduceNe,Int.reduceEq,f4,g4,i1,i2,ha,hsh,hor,a1,a2,a3,cJ,cK,cA,l1,l2,l3,l4,l5,l6,cI,cO,cM,cP,cH,cN,f1,f2,f3,g0,g1,g2,g3];refine⟨by omega,by omega,by omega,by omega,⟨_,_⟩,⟨.cons _ (.cons _ (.refl _)),.refl _⟩,⟨c.nm,c.up.set (ix c w.1) (c.up.getD (ix c w.1) 0 ||| 2^ix c w'.1),c.qu,c.gr⟩,?_,rfl,?_⟩
 ·unfold oG;simp only[az,decide_eq_true hw,decide_eq_true hw',gp];rfl
 ·rw[hgd,List.map_set,SZ]
theorem Nc(w0:W0)(R:St)(bp b4 br ln lu lq lg:Nat)(hN:LW bp b4 br ln lu lq lg)(hR:lk R.box br=none)(c:Cf)(hc:Cw c)(hg:c.gr.length≤1048576)(a:Nat)(ws:List Wd)(e:Nat)
 (hq:∀n,dq c ws e= .inl n→Cd w0 ⟨(b4,[dI 0])::(pS R bp ln lu lq lg c).box,(pS R bp ln lu lq lg c).acc⟩ n):
 ab Tryz.prog w0 54 [.v (.pointer (some ⟨bp,0,none⟩)),.v (.pointer (some ⟨br,0,none⟩))] (lS R bp b4 br ln lu lq lg c (([103,114,97,110,116],a)::ws) e) (fun d S'=>∃c',dq c ws e= .inr c'∧d= .bU []∧S'=lS R bp b4 br ln lu lq lg c' [] e):=by
 have hN':=hN;obtain⟨a1,a2,a3,cJ,cK,cA,l1,l2,l3,l4,l5,l6,cI,cO,cM,cP,cH,cN⟩:=hN';have h64:=hc.le;have e1:=hc.cu;have e2:=hc.eJ;refine fe ?_;refine yy [7,9,11,13,15] mx Tryz.func54 rfl rfl (by kernel_rfl) ?_;simp(maxDischargeDepth:=12) (maxSteps:=1000000) -implicitDefEqProofs only[Tryz.ntmps54,go_sem,Nat.reduceAdd,Nat.reduceSub,Nat.reduceMul,Nat.reduceLeDiff,Nat.reduceEqDiff,Nat.reduceGT,Nat.reduceBEq,reduceCtorEq,↓reduceIte,Int.reduceToNat,Int.reduceLE,Int.reduceLT,Int.reduceNe,Int.reduceEq,a1,a2,a3,cJ,cK,cA,l1,l2,l3,l4,l5,l6,cI,cO,cM,cP,cH,cN];intro b2 b3;have hHas:=fun ws' Y2 Y3=>kM hN hR c e b2 b3 ws' Y2 Y3;have f1:=af b2 (br) (by simp(maxDischargeDepth:=12) (maxSteps:=1000000) -implicitDefEqProofs only[go_sem,Nat.reduceAdd,Nat.reduceSub,Nat.reduceMul,Nat.reduceLeDiff,Nat.reduceEqDiff,Nat.reduceGT,Nat.reduceBEq,reduceCtorEq,↓reduceIte,Int.reduceToNat,Int.reduceLE,Int.reduceLT,Int.reduceNe,Int.reduceEq]);have f2:=af b2 (b4) (by simp(maxDischargeDepth:=12) (maxSteps:=1000000) -implicitDefEqProofs only[go_sem,Nat.reduceAdd,Nat.reduceSub,Nat.reduceMul,Nat.reduceLeDiff,Nat.reduceEqDiff,Nat.reduceGT,Nat.reduceBEq,reduceCtorEq,↓reduceIte,Int.reduceToNat,Int.reduceLE,Int.reduceLT,Int.reduceNe,Int.reduceEq,a1]);have f3:=af b2 (bp) (by simp(maxDischargeDepth:=12) (maxSteps:=1000000) -implicitDefEqProofs only[go_sem,Nat.reduceAdd,Nat.reduceSub,Nat.reduceMul,Nat.reduceLeDiff,Nat.reduceEqDiff,Nat.reduceGT,Nat.reduceBEq,reduceCtorEq,↓reduceIte,Int.reduceToNat,Int.reduceLE,Int.reduceLT,Int.reduceNe,Int.reduceEq,a2,a3]);have g0:=af b3 (b2.n) (by simp(maxDischargeDepth:=12) (maxSteps:=1000000) -implicitDefEqProofs only[go_sem,Nat.reduceAdd,Nat.reduceSub,Nat.reduceMul,Nat.reduceLeDiff,Nat.reduceEqDiff,Nat.reduceGT,Nat.reduceBEq,reduceCtorEq,↓reduceIte,Int.reduceToNat,Int.reduceLE,Int.reduceLT,Int.reduceNe,Int.reduceEq]);have g1:=af b3 (br) (by simp(maxDischargeDepth:=12) (maxSteps:=1000000) -implicitDefEqProofs only[go_sem,Nat.reduceAdd,Nat.reduceSub,Nat.reduceMul,Nat.reduceLeDiff,Nat.reduceEqDiff,Nat.reduceGT,Nat.reduceBEq,reduceCtorEq,↓reduceIte,Int.reduceToNat,Int.reduceLE,Int.reduceLT,Int.reduceNe,Int.reduceEq,f1]);have g2:=af b3 (b4) (by simp(maxDischargeDepth:=12) (maxSteps:=1000000) -implicitDefEqProofs only[go_sem,Nat.reduceAdd,Nat.reduceSub,Nat.reduceMul,Nat.reduceLeDiff,Nat.reduceEqDiff,Nat.reduceGT,Nat.reduceBEq,reduceCtorEq,↓reduceIte,Int.reduceToNat,Int.reduceLE,Int.reduceLT,Int.reduceNe,Int.reduceEq,f2,a1]);have g3:=af b3 (bp) (by simp(maxDischargeDepth:=12) (maxSteps:=1000000) -implicitDefEqProofs only[go_sem,Nat.reduceAdd,Nat.reduceSub,Nat.reduceMul,Nat.reduceLeDiff,Nat.reduceEqDiff,Nat.reduceGT,Nat.reduceBEq,reduceCtorEq,↓reduceIte,Int.reduceToNat,Int.reduceLE,Int.reduceLT,Int.reduceNe,Int.reduceEq,f3,a2,a3]);have g4:(br=b3.n)=False:=by rw[←g1];exact propext eq_comm
 have f4:(br=b2.n)=False:=by rw[←f1];exact propext eq_comm
 have hNm:∀ws',iF ⟨(b3.n,[.v (.pointer (some ⟨br,0,none⟩))])::(b2.n,[.v (.pointer (some ⟨bp,0,none⟩))])::(br,mC ws' e)::(b4,[dI 0])::(pS R bp ln lu lq lg c).box,(pS R bp ln lu lq lg c).acc⟩ bp c.nm:=fun ws'=>⟨ln,.acc lu c.up.length,.acc lq c.qu.length,.acc lg c.gr.length,by simp(maxDischargeDepth:=12) (maxSteps:=1000000) -implicitDefEqProofs only[go_sem,Nat.reduceAdd,Nat.reduceSub,Nat.reduceMul,Nat.reduceLeDiff,Nat.reduceEqDiff,Nat.reduceGT,Nat.reduceBEq,reduceCtorEq,↓reduceIte,Int.reduceToNat,Int.reduceLE,Int.reduceLT,Int.reduceNe,Int.reduceEq,a1,a2,a3,cJ,cK,cA,l1,l2,l3,l4,l5,l6,cI,cO,cM,cP,cH,cN,f1,f2,f3,g0,g1,g2,g3],by simp(maxDischargeDepth:=12) (maxSteps:=1000000) -implicitDefEqProofs only[go_sem,Nat.reduceAdd,Nat.reduceSub,Nat.reduceMul,Nat.reduceLeDiff,Nat.reduceEqDiff,Nat.reduceGT,Nat.reduceBEq,reduceCtorEq,↓reduceIte,Int.reduceToNat,Int.reduceLE,Int.reduceLT,Int.reduceNe,Int.reduceEq,a1,a2,a3,cJ,cK,cA,l1,l2,l3,l4,l5,l6,cI,cO,cM,cP,cH,cN,f1,f2,f3,g0,g1,g2,g3]⟩;refine bQ (xz _ _ br ([103,114,97,110,116],a) ws e (by simp(maxDischargeDepth:=12) (maxSteps:=1000000) -implicitDefEqProofs only[go_sem,Nat.reduceAdd,Nat.reduceSub,Nat.reduceMul,Nat.reduceLeDiff,Nat.reduceEqDiff,Nat.reduceGT,Nat.reduceBEq,reduceCtorEq,↓reduceIte,Int.reduceToNat,Int.reduceLE,Int.reduceLT,Int.reduceNe,Int.reduceEq,a1,a2,a3,cJ,cK,cA,l1,l2,l3,l4,l5,l6,cI,cO,cM,cP,cH,cN,f1,f2,f3,g0,g1,g2,g3]) 85 (by kernel_rfl) #[] rfl (fun T hT=>tc _ T [103,114,97,110,116])) ?_;rintro _ _ ⟨rfl,rfl⟩;have k0:(([103,114,97,110,116]:List UInt8)=[108,97,98,101,108])=False:=eq_false (by decide);have k1:(([103,114,97,110,116]:List UInt8)=[117,110,100,101,114])=False:=eq_false (by decide);have k2:(([103,114,97,110,116]:List UInt8)=[103,114,97,110,116])=True:=eq_self _;simp(maxDischargeDepth:=12) (maxSteps:=1000000) -implicitDefEqProofs only[go_sem,Nat.reduceAdd,Nat.reduceSub,Nat.reduceMul,Nat.reduceLeDiff,Nat.reduceEqDiff,Nat.reduceGT,Nat.reduceBEq,reduceCtorEq,↓reduceIte,Int.reduceToNat,Int.reduceLE,Int.reduceLT,Int.reduceNe,Int.reduceEq,k0,k1,k2,a1,a2,a3,cJ,cK,cA,l1,l2,l3,l4,l5,l6,cI,cO,cM,cP,cH,cN,f1,f2,f3,g0,g1,g2,g3];refine Y.Pu (Y.Bd [br] ⟨(b3.n,[.v (.pointer (some ⟨br,0,none⟩))])::(b2.n,[.v (.pointer (some ⟨bp,0,none⟩))])::(br,mC ws e)::(b4,[dI 0])::(pS R bp ln lu lq lg c).box,(pS R bp ln lu lq lg c).acc⟩) ⟨[],[]⟩ [2,5,8] [] (.br [0,1,3,4,6,7] 2 (.br [] 5 (.br [] 8 (.ord [9,10,11]) 10 (.ord [8,9,11])) 10 (.ord [5,8,9,11])) 10 (.ord [2,5,8,9,11])) mx (by kernel_rfl) (fun T _=>Y.gq T) ?_;have hW:=fun(n:Nat) (ws':List Wd) (h:dq c ws e= .inl n)=>(hq n h).mono (hHas ws' [.v (.pointer (some ⟨bp,0,none⟩))] [.v (.pointer (some ⟨br,0,none⟩))]);have hm8:maxLen=9223372036854775807:=rfl;simp(maxDischargeDepth:=12) (maxSteps:=1000000) -implicitDefEqProofs only[go_sem,Nat.reduceAdd,Nat.reduceSub,Nat.reduceMul,Nat.reduceLeDiff,Nat.reduceEqDiff,Nat.reduceGT,Nat.reduceBEq,reduceCtorEq,↓reduceIte,Int.reduceToNat,Int.reduceLE,Int.reduceLT,Int.reduceNe,Int.reduceEq,f4,g4,a1,a2,a3,cJ,cK,cA,l1,l2,l3,l4,l5,l6,cI,cO,cM,cP,cH,cN,f1,f2,f3,g0,g1,g2,g3];refine⟨?_,?_⟩
 ·refine bQ (fG _ _ bp br a2 c.nm (hNm ws) h64 ws e (by simp(maxDischargeDepth:=12) (maxSteps:=1000000) -implicitDefEqProofs only[go_sem,Nat.reduceAdd,Nat.reduceSub,Nat.reduceMul,Nat.reduceLeDiff,Nat.reduceEqDiff,Nat.reduceGT,Nat.reduceBEq,reduceCtorEq,↓reduceIte,Int.reduceToNat,Int.reduceLE,Int.reduceLT,Int.reduceNe,Int.reduceEq,a1,a2,a3,cJ,cK,cA,l1,l2,l3,l4,l5,l6,cI,cO,cM,cP,cH,cN,f1,f2,f3,g0,g1,g2,g3]) (fun h=>(hW _ ws (by rw[h];rfl))) (fun wx tx h hb=>(hW _ ws (by rw[h];unfold dq;simp only[az,decide_eq_false hb];rfl)))) ?_;rintro _ _ ⟨w,t,rfl,hw,rfl,rfl⟩;simp(maxDischargeDepth:=12) (maxSteps:=1000000) -implicitDefEqProofs only[go_sem,Nat.reduceAdd,Nat.reduceSub,Nat.reduceMul,Nat.reduceLeDiff,Nat.reduceEqDiff,Nat.reduceGT,Nat.reduceBEq,reduceCtorEq,↓reduceIte,Int.reduceToNat,Int.reduceLE,Int.reduceLT,Int.reduceNe,Int.reduceEq,f4,g4,a1,a2,a3,cJ,cK,cA,l1,l2,l3,l4,l5,l6,cI,cO,cM,cP,cH,cN,f1,f2,f3,g0,g1,g2,g3];refine⟨?_,?_⟩
  ·refine bQ (fG _ _ bp br a2 c.nm (hNm t) h64 t e (by simp(maxDischargeDepth:=12) (maxSteps:=1000000) -implicitDefEqProofs only[go_sem,Nat.reduceAdd,Nat.reduceSub,Nat.reduceMul,Nat.reduceLeDiff,Nat.reduceEqDiff,Nat.reduceGT,Nat.reduceBEq,reduceCtorEq,↓reduceIte,Int.reduceToNat,Int.reduceLE,Int.reduceLT,Int.reduceNe,Int.reduceEq,a1,a2,a3,cJ,cK,cA,l1,l2,l3,l4,l5,l6,cI,cO,cM,cP,cH,cN,f1,f2,f3,g0,g1,g2,g3]) (fun h=>(hW _ t (by rw[h];unfold dq;simp only[az,decide_eq_true hw,az];rfl))) (fun wx tx h hb=>(hW _ t (by rw[h];unfold dq;simp only[az,decide_eq_true hw,decide_eq_false hb];rfl)))) ?_;rintro _ _ ⟨w',t',rfl,hw',rfl,rfl⟩;simp(maxDischargeDepth:=12) (maxSteps:=1000000) -implicitDefEqProofs only[go_sem,Nat.reduceAdd,Nat.reduceSub,Nat.reduceMul,Nat.reduceLeDiff,Nat.reduceEqDiff,Nat.reduceGT,Nat.reduceBEq,reduceCtorEq,↓reduceIte,Int.reduceToNat,Int.reduceLE,Int.reduceLT,Int.reduceNe,Int.reduceEq,f4,g4,a1,a2,a3,cJ,cK,cA,l1,l2,l3,l4,l5,l6,cI,cO,cM,cP,cH,cN,f1,f2,f3,g0,g1,g2,g3];refine⟨?_,?_⟩
   ·refine bQ (fG _ _ bp br a2 c.nm (hNm t') h64 t' e (by simp(maxDischargeDepth:=12) (maxSteps:=1000000) -implicitDefEqProofs only[go_sem,Nat.reduceAdd,Nat.reduceSub,Nat.reduceMul,Nat.reduceLeDiff,Nat.reduceEqDiff,Nat.reduceGT,Nat.reduceBEq,reduceCtorEq,↓reduceIte,Int.reduceToNat,Int.reduceLE,Int.reduceLT,Int.reduceNe,Int.reduceEq,a1,a2,a3,cJ,cK,cA,l1,l2,l3,l4,l5,l6,cI,cO,cM,cP,cH,cN,f1,f2,f3,g0,g1,g2,g3]) (fun h=>(hW _ t' (by rw[h];unfold dq;simp only[az,decide_eq_true hw,decide_eq_true hw',az];rfl))) (fun wx tx h hb=>(hW _ t' (by rw[h];unfold dq;simp only[az,decide_eq_true hw,decide_eq_true hw',decide_eq_false hb];rfl)))) ?_;rintro _ _ ⟨u,t2,rfl,hu,rfl,rfl⟩;simp(maxDischargeDepth:=12) (maxSteps:=1000000) -implicitDefEqProofs only[go_sem,Nat.reduceAdd,Nat.reduceSub,Nat.reduceMul,Nat.reduceLeDiff,Nat.reduceEqDiff,Nat.reduceGT,Nat.reduceBEq,reduceCtorEq,↓reduceIte,Int.reduceToNat,Int.reduceLE,Int.reduceLT,Int.reduceNe,Int.reduceEq,f4,g4,a1,a2,a3,cJ,cK,cA,l1,l2,l3,l4,l5,l6,cI,cO,cM,cP,cH,cN,f1,f2,f3,g0,g1,g2,g3];intro b;have q0:=af b (b3.n) (by simp(maxDischargeDepth:=12) (maxSteps:=1000000) -implicitDefEqProofs only[go_sem,Nat.reduceAdd,Nat.reduceSub,Nat.reduceMul,Nat.reduceLeDiff,Nat.reduceEqDiff,Nat.reduceGT,Nat.reduceBEq,reduceCtorEq,↓reduceIte,Int.reduceToNat,Int.reduceLE,Int.reduceLT,Int.reduceNe,Int.reduceEq]);have q1:=af b (b2.n) (by simp(maxDischargeDepth:=12) (maxSteps:=1000000) -implicitDefEqProofs only[go_sem,Nat.reduceAdd,Nat.reduceSub,Nat.reduceMul,Nat.reduceLeDiff,Nat.reduceEqDiff,Nat.reduceGT,Nat.reduceBEq,reduceCtorEq,↓reduceIte,Int.reduceToNat,Int.reduceLE,Int.reduceLT,Int.reduceNe,Int.reduceEq,g0]);have q2:=af b (br) (by simp(maxDischargeDepth:=12) (maxSteps:=1000000) -implicitDefEqProofs only[go_sem,Nat.reduceAdd,Nat.reduceSub,Nat.reduceMul,Nat.reduceLeDiff,Nat.reduceEqDiff,Nat.reduceGT,Nat.reduceBEq,reduceCtorEq,↓reduceIte,Int.reduceToNat,Int.reduceLE,Int.reduceLT,Int.reduceNe,Int.reduceEq,g1,f1]);have q3:=af b (b4) (by simp(maxDischargeDepth:=12) (maxSteps:=1000000) -implicitDefEqProofs only[go_sem,Nat.reduceAdd,Nat.reduceSub,Nat.reduceMul,Nat.reduceLeDiff,Nat.reduceEqDiff,Nat.reduceGT,Nat.reduceBEq,reduceCtorEq,↓reduceIte,Int.reduceToNat,Int.reduceLE,Int.reduceLT,Int.reduceNe,Int.reduceEq,g2,f2,a1]);have q4:=af b (bp) (by simp(maxDischargeDepth:=12) (maxSteps:=1000000) -implicitDefEqProofs only[go_sem,Nat.reduceAdd,Nat.reduceSub,Nat.reduceMul,Nat.reduceLeDiff,Nat.reduceEqDiff,Nat.reduceGT,Nat.reduceBEq,reduceCtorEq,↓reduceIte,Int.reduceToNat,Int.reduceLE,Int.reduceLT,Int.reduceNe,Int.reduceEq,g3,f3,a2,a3]);have q0r:(b3.n=b.n)=False:=by rw[←q0];exact propext eq_comm
    have q1r:(b2.n=b.n)=False:=by rw[←q1];exact propext eq_comm
    have q2r:(br=b.n)=False:=by rw[←q2];exact propext eq_comm
    have q3r:(b4=b.n)=False:=by rw[←q3];exact propext eq_comm
    have q4r:(bp=b.n)=False:=by rw[←q4];exact propext eq_comm
    have q5:=q2r;have qR:=mH b;simp only[go_sem,q0r,q1r,q2r,q3r,q4r,↓reduceIte]at qR;have hb0:∀ws',lk ((b3.n,[.v (.pointer (some ⟨br,0,none⟩))])::(b2.n,[.v (.pointer (some ⟨bp,0,none⟩))])::(br,mC ws' e)::(b4,[dI 0])::(pS R bp ln lu lq lg c).box) b.n=none:=fun ws'=>by simp(maxDischargeDepth:=12) (maxSteps:=1000000) -implicitDefEqProofs only[go_sem,Nat.reduceAdd,Nat.reduceSub,Nat.reduceMul,Nat.reduceLeDiff,Nat.reduceEqDiff,Nat.reduceGT,Nat.reduceBEq,reduceCtorEq,↓reduceIte,Int.reduceToNat,Int.reduceLE,Int.reduceLT,Int.reduceNe,Int.reduceEq,q0r,q1r,q2r,q3r,q4r,qR]
    refine bQ (rm _ _ br b3.n (by simp(maxDischargeDepth:=12) (maxSteps:=1000000) -implicitDefEqProofs only[go_sem,Nat.reduceAdd,Nat.reduceSub,Nat.reduceMul,Nat.reduceLeDiff,Nat.reduceEqDiff,Nat.reduceGT,Nat.reduceBEq,reduceCtorEq,↓reduceIte,Int.reduceToNat,Int.reduceLE,Int.reduceLT,Int.reduceNe,Int.reduceEq,q0,q1,q2,q3,q4,q5,a1,a2,a3,cJ,cK,cA,l1,l2,l3,l4,l5,l6,cI,cO,cM,cP,cH,cN,f1,f2,f3,g0,g1,g2,g3]) t2 e (by simp(maxDischargeDepth:=12) (maxSteps:=1000000) -implicitDefEqProofs only[go_sem,Nat.reduceAdd,Nat.reduceSub,Nat.reduceMul,Nat.reduceLeDiff,Nat.reduceEqDiff,Nat.reduceGT,Nat.reduceBEq,reduceCtorEq,↓reduceIte,Int.reduceToNat,Int.reduceLE,Int.reduceLT,Int.reduceNe,Int.reduceEq,q0,q1,q2,q3,q4,q5,a1,a2,a3,cJ,cK,cA,l1,l2,l3,l4,l5,l6,cI,cO,cM,cP,cH,cN,f1,f2,f3,g0,g1,g2,g3]) (fun w2 t2' h=>((hW _ t2 (by rw[h];unfold dq;simp only[az,decide_eq_true hw,decide_eq_true hw',decide_eq_true hu,gp];rfl)).mono (aJ (.refl _) (hb0 t2))))) ?_;rintro _ _ ⟨rfl,rfl,rfl⟩;simp(maxDischargeDepth:=12) (maxSteps:=1000000) -implicitDefEqProofs only[go_sem,Nat.reduceAdd,Nat.reduceSub,Nat.reduceMul,Nat.reduceLeDiff,Nat.reduceEqDiff,Nat.reduceGT,Nat.reduceBEq,reduceCtorEq,↓reduceIte,Int.reduceToNat,Int.reduceLE,Int.reduceLT,Int.reduceNe,Int.reduceEq,f4,g4,q0,q1,q2,q3,q4,q5,a1,a2,a3,cJ,cK,cA,l1,l2,l3,l4,l5,l6,cI,cO,cM,cP,cH,cN,f1,f2,f3,g0,g1,g2,g3];refine Y.u1 ⟨(b.n,[dI (bB c.nm w.1),dI (bB c.nm w'.1),dI (bB c.nm u.1)])::(b3.n,[.v (.pointer (some ⟨br,0,none⟩))])::(b2.n,[.v (.pointer (some ⟨bp,0,none⟩))])::(br,mC [] e)::(b4,[dI 0])::(pS R bp ln lu lq lg c).box,[]⟩ ⟨[],[]⟩ [8] [12] [0,1,2,3,4,5,6,7,8,9,10,11,12] mx (by kernel_rfl) (fun T _=>Y.gq T) ?_;simp(maxDischargeDepth:=12) (maxSteps:=1000000) -implicitDefEqProofs only[go_sem,Nat.reduceAdd,Nat.reduceSub,Nat.reduceMul,Nat.reduceLeDiff,Nat.reduceEqDiff,Nat.reduceGT,Nat.reduceBEq,reduceCtorEq,↓reduceIte,Int.reduceToNat,Int.reduceLE,Int.reduceLT,Int.reduceNe,Int.reduceEq,f4,g4,q0,q1,q2,q3,q4,q5,a1,a2,a3,cJ,cK,cA,l1,l2,l3,l4,l5,l6,cI,cO,cM,cP,cH,cN,f1,f2,f3,g0,g1,g2,g3];refine⟨by omega,by omega,⟨_,_⟩,⟨.cons _ (.cons _ (.cons _ (.refl _))),.refl _⟩,⟨c.nm,c.up,c.qu,c.gr++[⟨(ix c w.1:Int),(ix c w'.1:Int),(ix c u.1:Int)⟩]⟩,?_,rfl,?_⟩
    ·unfold dq;simp only[az,decide_eq_true hw,decide_eq_true hw',decide_eq_true hu,gp];rfl
    ·rw[aT hw,aT hw',aT hu];simp only[Rk,Sg,R8,Rz,SN];rfl
   ·intro b;have q0:=af b (b3.n) (by simp(maxDischargeDepth:=12) (maxSteps:=1000000) -implicitDefEqProofs only[go_sem,Nat.reduceAdd,Nat.reduceSub,Nat.reduceMul,Nat.reduceLeDiff,Nat.reduceEqDiff,Nat.reduceGT,Nat.reduceBEq,reduceCtorEq,↓reduceIte,Int.reduceToNat,Int.reduceLE,Int.reduceLT,Int.reduceNe,Int.reduceEq]);have q1:=af b (b2.n) (by simp(maxDischargeDepth:=12) (maxSteps:=1000000) -implicitDefEqProofs only[go_sem,Nat.reduceAdd,Nat.reduceSub,Nat.reduceMul,Nat.reduceLeDiff,Nat.reduceEqDiff,Nat.reduceGT,Nat.reduceBEq,reduceCtorEq,↓reduceIte,Int.reduceToNat,Int.reduceLE,Int.reduceLT,Int.reduceNe,Int.reduceEq,g0]);have q2:=af b (br) (by simp(maxDischargeDepth:=12) (maxSteps:=1000000) -implicitDefEqProofs only[go_sem,Nat.reduceAdd,Nat.reduceSub,Nat.reduceMul,Nat.reduceLeDiff,Nat.reduceEqDiff,Nat.reduceGT,Nat.reduceBEq,reduceCtorEq,↓reduceIte,Int.reduceToNat,Int.reduceLE,Int.reduceLT,Int.reduceNe,Int.reduceEq,g1,f1]);have q3:=af b (b4) (by simp(maxDischargeDepth:=12) (maxSteps:=1000000) -implicitDefEqProofs only[go_sem,Nat.reduceAdd,Nat.reduceSub,Nat.reduceMul,Nat.reduceLeDiff,Nat.reduceEqDiff,Nat.reduceGT,Nat.reduceBEq,reduceCtorEq,↓reduceIte,Int.reduceToNat,Int.reduceLE,Int.reduceLT,Int.reduceNe,Int.reduceEq,g2,f2,a1]);have q4:=af b (bp) (by simp(maxDischargeDepth:=12) (maxSteps:=1000000) -implicitDefEqProofs only[go_sem,Nat.reduceAdd,Nat.reduceSub,Nat.reduceMul,Nat.reduceLeDiff,Nat.reduceEqDiff,Nat.reduceGT,Nat.reduceBEq,reduceCtorEq,↓reduceIte,Int.reduceToNat,Int.reduceLE,Int.reduceLT,Int.reduceNe,Int.reduceEq,g3,f3,a2,a3]);have q0r:(b3.n=b.n)=False:=by rw[←q0];exact propext eq_comm
    have q1r:(b2.n=b.n)=False:=by rw[←q1];exact propext eq_comm
    have q2r:(br=b.n)=False:=by rw[←q2];exact propext eq_comm
    have q3r:(b4=b.n)=False:=by rw[←q3];exact propext eq_comm
    have q4r:(bp=b.n)=False:=by rw[←q4];exact propext eq_comm
    have q5:=q2r;have qR:=mH b;simp only[go_sem,q0r,q1r,q2r,q3r,q4r,↓reduceIte]at qR;have hb0:∀ws',lk ((b3.n,[.v (.pointer (some ⟨br,0,none⟩))])::(b2.n,[.v (.pointer (some ⟨bp,0,none⟩))])::(br,mC ws' e)::(b4,[dI 0])::(pS R bp ln lu lq lg c).box) b.n=none:=fun ws'=>by simp(maxDischargeDepth:=12) (maxSteps:=1000000) -implicitDefEqProofs only[go_sem,Nat.reduceAdd,Nat.reduceSub,Nat.reduceMul,Nat.reduceLeDiff,Nat.reduceEqDiff,Nat.reduceGT,Nat.reduceBEq,reduceCtorEq,↓reduceIte,Int.reduceToNat,Int.reduceLE,Int.reduceLT,Int.reduceNe,Int.reduceEq,q0r,q1r,q2r,q3r,q4r,qR]
    refine bQ (fG _ _ bp br a2 c.nm ((hNm t').mono (aJ (.refl _) (hb0 t'))) h64 t' e (by simp(maxDischargeDepth:=12) (maxSteps:=1000000) -implicitDefEqProofs only[go_sem,Nat.reduceAdd,Nat.reduceSub,Nat.reduceMul,Nat.reduceLeDiff,Nat.reduceEqDiff,Nat.reduceGT,Nat.reduceBEq,reduceCtorEq,↓reduceIte,Int.reduceToNat,Int.reduceLE,Int.reduceLT,Int.reduceNe,Int.reduceEq,q0,q1,q2,q3,q4,q5,a1,a2,a3,cJ,cK,cA,l1,l2,l3,l4,l5,l6,cI,cO,cM,cP,cH,cN,f1,f2,f3,g0,g1,g2,g3]) (fun h=>((hW _ t' (by rw[h];unfold dq;simp only[az,decide_eq_true hw,decide_eq_true hw',az];rfl)).mono (aJ (.refl _) (hb0 t')))) (fun wx tx h hb=>((hW _ t' (by rw[h];unfold dq;simp only[az,decide_eq_true hw,decide_eq_true hw',decide_eq_false hb];rfl)).mono (aJ (.refl _) (hb0 t'))))) ?_;rintro _ _ ⟨u,t2,rfl,hu,rfl,rfl⟩;simp(maxDischargeDepth:=12) (maxSteps:=1000000) -implicitDefEqProofs only[go_sem,Nat.reduceAdd,Nat.reduceSub,Nat.reduceMul,Nat.reduceLeDiff,Nat.reduceEqDiff,Nat.reduceGT,Nat.reduceBEq,reduceCtorEq,↓reduceIte,Int.reduceToNat,Int.reduceLE,Int.reduceLT,Int.reduceNe,Int.reduceEq,f4,g4,q0,q1,q2,q3,q4,q5,a1,a2,a3,cJ,cK,cA,l1,l2,l3,l4,l5,l6,cI,cO,cM,cP,cH,cN,f1,f2,f3,g0,g1,g2,g3];refine bQ (rm _ _ br b3.n (by simp(maxDischargeDepth:=12) (maxSteps:=1000000) -implicitDefEqProofs only[go_sem,Nat.reduceAdd,Nat.reduceSub,Nat.reduceMul,Nat.reduceLeDiff,Nat.reduceEqDiff,Nat.reduceGT,Nat.reduceBEq,reduceCtorEq,↓reduceIte,Int.reduceToNat,Int.reduceLE,Int.reduceLT,Int.reduceNe,Int.reduceEq,q0,q1,q2,q3,q4,q5,a1,a2,a3,cJ,cK,cA,l1,l2,l3,l4,l5,l6,cI,cO,cM,cP,cH,cN,f1,f2,f3,g0,g1,g2,g3]) t2 e (by simp(maxDischargeDepth:=12) (maxSteps:=1000000) -implicitDefEqProofs only[go_sem,Nat.reduceAdd,Nat.reduceSub,Nat.reduceMul,Nat.reduceLeDiff,Nat.reduceEqDiff,Nat.reduceGT,Nat.reduceBEq,reduceCtorEq,↓reduceIte,Int.reduceToNat,Int.reduceLE,Int.reduceLT,Int.reduceNe,Int.reduceEq,q0,q1,q2,q3,q4,q5,a1,a2,a3,cJ,cK,cA,l1,l2,l3,l4,l5,l6,cI,cO,cM,cP,cH,cN,f1,f2,f3,g0,g1,g2,g3]) (fun w2 t2' h=>((hW _ t2 (by rw[h];unfold dq;simp only[az,decide_eq_true hw,decide_eq_true hw',decide_eq_true hu,gp];rfl)).mono (aJ (.refl _) (hb0 t2))))) ?_;rintro _ _ ⟨rfl,rfl,rfl⟩;simp(maxDischargeDepth:=12) (maxSteps:=1000000) -implicitDefEqProofs only[go_sem,Nat.reduceAdd,Nat.reduceSub,Nat.reduceMul,Nat.reduceLeDiff,Nat.reduceEqDiff,Nat.reduceGT,Nat.reduceBEq,reduceCtorEq,↓reduceIte,Int.reduceToNat,Int.reduceLE,Int.reduceLT,Int.reduceNe,Int.reduceEq,f4,g4,q0,q1,q2,q3,q4,q5,a1,a2,a3,cJ,cK,cA,l1,l2,l3,l4,l5,l6,cI,cO,cM,cP,cH,cN,f1,f2,f3,g0,g1,g2,g3];refine Y.u1 ⟨(b.n,[dI (bB c.nm w.1),dI (bB c.nm w'.1),dI (bB c.nm u.1)])::(b3.n,[.v (.pointer (some ⟨br,0,none⟩))])::(b2.n,[.v (.pointer (some ⟨bp,0,none⟩))])::(br,mC [] e)::(b4,[dI 0])::(pS R bp ln lu lq lg c).box,[]⟩ ⟨[],[]⟩ [8] [12] [0,1,2,3,4,5,6,7,8,9,10,11,12] mx (by kernel_rfl) (fun T _=>Y.gq T) ?_;simp(maxDischargeDepth:=12) (maxSteps:=1000000) -implicitDefEqProofs only[go_sem,Nat.reduceAdd,Nat.reduceSub,Nat.reduceMul,Nat.reduceLeDiff,Nat.reduceEqDiff,Nat.reduceGT,Nat.reduceBEq,reduceCtorEq,↓reduceIte,Int.reduceToNat,Int.reduceLE,Int.reduceLT,Int.reduceNe,Int.reduceEq,f4,g4,q0,q1,q2,q3,q4,q5,a1,a2,a3,cJ,cK,cA,l1,l2,l3,l4,l5,l6,cI,cO,cM,cP,cH,cN,f1,f2,f3,g0,g1,g2,g3];refine⟨by omega,by omega,⟨_,_⟩,⟨.cons _ (.cons _ (.cons _ (.refl _))),.refl _⟩,⟨c.nm,c.up,c.qu,c.gr++[⟨(ix c w.1:Int),(ix c w'.1:Int),(ix c u.1:Int)⟩]⟩,?_,rfl,?_⟩
    ·unfold dq;simp only[az,decide_eq_true hw,decide_eq_true hw',decide_eq_true hu,gp];rfl
    ·rw[aT hw,aT hw',aT hu];simp only[Rk,Sg,R8,Rz,SN];rfl
  ·intro b;have q0:=af b (b3.n) (by simp(maxDischargeDepth:=12) (maxSteps:=1000000) -implicitDefEqProofs only[go_sem,Nat.reduceAdd,Nat.reduceSub,Nat.reduceMul,Nat.reduceLeDiff,Nat.reduceEqDiff,Nat.reduceGT,Nat.reduceBEq,reduceCtorEq,↓reduceIte,Int.reduceToNat,Int.reduceLE,Int.reduceLT,Int.reduceNe,Int.reduceEq]);have q1:=af b (b2.n) (by simp(maxDischargeDepth:=12) (maxSteps:=1000000) -implicitDefEqProofs only[go_sem,Nat.reduceAdd,Nat.reduceSub,Nat.reduceMul,Nat.reduceLeDiff,Nat.reduceEqDiff,Nat.reduceGT,Nat.reduceBEq,reduceCtorEq,↓reduceIte,Int.reduceToNat,Int.reduceLE,Int.reduceLT,Int.reduceNe,Int.reduceEq,g0]);have q2:=af b (br) (by simp(maxDischargeDepth:=12) (maxSteps:=1000000) -implicitDefEqProofs only[go_sem,Nat.reduceAdd,Nat.reduceSub,Nat.reduceMul,Nat.reduceLeDiff,Nat.reduceEqDiff,Nat.reduceGT,Nat.reduceBEq,reduceCtorEq,↓reduceIte,Int.reduceToNat,Int.reduceLE,Int.reduceLT,Int.reduceNe,Int.reduceEq,g1,f1]);have q3:=af b (b4) (by simp(maxDischargeDepth:=12) (maxSteps:=1000000) -implicitDefEqProofs only[go_sem,Nat.reduceAdd,Nat.reduceSub,Nat.reduceMul,Nat.reduceLeDiff,Nat.reduceEqDiff,Nat.reduceGT,Nat.reduceBEq,reduceCtorEq,↓reduceIte,Int.reduceToNat,Int.reduceLE,Int.reduceLT,Int.reduceNe,Int.reduceEq,g2,f2,a1]);have q4:=af b (bp) (by simp(maxDischargeDepth:=12) (maxSteps:=1000000) -implicitDefEqProofs only[go_sem,Nat.reduceAdd,Nat.reduceSub,Nat.reduceMul,Nat.reduceLeDiff,Nat.reduceEqDiff,Nat.reduceGT,Nat.reduceBEq,reduceCtorEq,↓reduceIte,Int.reduceToNat,Int.reduceLE,Int.reduceLT,Int.reduceNe,Int.reduceEq,g3,f3,a2,a3]);have q0r:(b3.n=b.n)=False:=by rw[←q0];exact propext eq_comm
   have q1r:(b2.n=b.n)=False:=by rw[←q1];exact propext eq_comm
   have q2r:(br=b.n)=False:=by rw[←q2];exact propext eq_comm
   have q3r:(b4=b.n)=False:=by rw[←q3];exact propext eq_comm
   have q4r:(bp=b.n)=False:=by rw[←q4];exact propext eq_comm
   have q5:=q2r;have qR:=mH b;simp only[go_sem,q0r,q1r,q2r,q3r,q4r,↓reduceIte]at qR;have hb0:∀ws',lk ((b3.n,[.v (.pointer (some ⟨br,0,none⟩))])::(b2.n,[.v (.pointer (some ⟨bp,0,none⟩))])::(br,mC ws' e)::(b4,[dI 0])::(pS R bp ln lu lq lg c).box) b.n=none:=fun ws'=>by simp(maxDischargeDepth:=12) (maxSteps:=1000000) -implicitDefEqProofs only[go_sem,Nat.reduceAdd,Nat.reduceSub,Nat.reduceMul,Nat.reduceLeDiff,Nat.reduceEqDiff,Nat.reduceGT,Nat.reduceBEq,reduceCtorEq,↓reduceIte,Int.reduceToNat,Int.reduceLE,Int.reduceLT,Int.reduceNe,Int.reduceEq,q0r,q1r,q2r,q3r,q4r,qR]
   refine bQ (fG _ _ bp br a2 c.nm ((hNm t).mono (aJ (.refl _) (hb0 t))) h64 t e (by simp(maxDischargeDepth:=12) (maxSteps:=1000000) -implicitDefEqProofs only[go_sem,Nat.reduceAdd,Nat.reduceSub,Nat.reduceMul,Nat.reduceLeDiff,Nat.reduceEqDiff,Nat.reduceGT,Nat.reduceBEq,reduceCtorEq,↓reduceIte,Int.reduceToNat,Int.reduceLE,Int.reduceLT,Int.reduceNe,Int.reduceEq,q0,q1,q2,q3,q4,q5,a1,a2,a3,cJ,cK,cA,l1,l2,l3,l4,l5,l6,cI,cO,cM,cP,cH,cN,f1,f2,f3,g0,g1,g2,g3]) (fun h=>((hW _ t (by rw[h];unfold dq;simp only[az,decide_eq_true hw,az];rfl)).mono (aJ (.refl _) (hb0 t)))) (fun wx tx h hb=>((hW _ t (by rw[h];unfold dq;simp only[az,decide_eq_true hw,decide_eq_false hb];rfl)).mono (aJ (.refl _) (hb0 t))))) ?_;rintro _ _ ⟨w',t',rfl,hw',rfl,rfl⟩;simp(maxDischargeDepth:=12) (maxSteps:=1000000) -implicitDefEqProofs only[go_sem,Nat.reduceAdd,Nat.reduceSub,Nat.reduceMul,Nat.reduceLeDiff,Nat.reduceEqDiff,Nat.reduceGT,Nat.reduceBEq,reduceCtorEq,↓reduceIte,Int.reduceToNat,Int.reduceLE,Int.reduceLT,Int.reduceNe,Int.reduceEq,f4,g4,q0,q1,q2,q3,q4,q5,a1,a2,a3,cJ,cK,cA,l1,l2,l3,l4,l5,l6,cI,cO,cM,cP,cH,cN,f1,f2,f3,g0,g1,g2,g3];refine bQ (fG _ _ bp br a2 c.nm ((hNm t').mono (aJ (.refl _) (hb0 t'))) h64 t' e (by simp(maxDischargeDepth:=12) (maxSteps:=1000000) -implicitDefEqProofs only[go_sem,Nat.reduceAdd,Nat.reduceSub,Nat.reduceMul,Nat.reduceLeDiff,Nat.reduceEqDiff,Nat.reduceGT,Nat.reduceBEq,reduceCtorEq,↓reduceIte,Int.reduceToNat,Int.reduceLE,Int.reduceLT,Int.reduceNe,Int.reduceEq,q0,q1,q2,q3,q4,q5,a1,a2,a3,cJ,cK,cA,l1,l2,l3,l4,l5,l6,cI,cO,cM,cP,cH,cN,f1,f2,f3,g0,g1,g2,g3]) (fun h=>((hW _ t' (by rw[h];unfold dq;simp only[az,decide_eq_true hw,decide_eq_true hw',az];rfl)).mono (aJ (.refl _) (hb0 t')))) (fun wx tx h hb=>((hW _ t' (by rw[h];unfold dq;simp only[az,decide_eq_true hw,decide_eq_true hw',decide_eq_false hb];rfl)).mono (aJ (.refl _) (hb0 t'))))) ?_;rintro _ _ ⟨u,t2,rfl,hu,rfl,rfl⟩;simp(maxDischargeDepth:=12) (maxSteps:=1000000) -implicitDefEqProofs only[go_sem,Nat.reduceAdd,Nat.reduceSub,Nat.reduceMul,Nat.reduceLeDiff,Nat.reduceEqDiff,Nat.reduceGT,Nat.reduceBEq,reduceCtorEq,↓reduceIte,Int.reduceToNat,Int.reduceLE,Int.reduceLT,Int.reduceNe,Int.reduceEq,f4,g4,q0,q1,q2,q3,q4,q5,a1,a2,a3,cJ,cK,cA,l1,l2,l3,l4,l5,l6,cI,cO,cM,cP,cH,cN,f1,f2,f3,g0,g1,g2,g3];refine bQ (rm _ _ br b3.n (by simp(maxDischargeDepth:=12) (maxSteps:=1000000) -implicitDefEqProofs only[go_sem,Nat.reduceAdd,Nat.reduceSub,Nat.reduceMul,Nat.reduceLeDiff,Nat.reduceEqDiff,Nat.reduceGT,Nat.reduceBEq,reduceCtorEq,↓reduceIte,Int.reduceToNat,Int.reduceLE,Int.reduceLT,Int.reduceNe,Int.reduceEq,q0,q1,q2,q3,q4,q5,a1,a2,a3,cJ,cK,cA,l1,l2,l3,l4,l5,l6,cI,cO,cM,cP,cH,cN,f1,f2,f3,g0,g1,g2,g3]) t2 e (by simp(maxDischargeDepth:=12) (maxSteps:=1000000) -implicitDefEqProofs only[go_sem,Nat.reduceAdd,Nat.reduceSub,Nat.reduceMul,Nat.reduceLeDiff,Nat.reduceEqDiff,Nat.reduceGT,Nat.reduceBEq,reduceCtorEq,↓reduceIte,Int.reduceToNat,Int.reduceLE,Int.reduceLT,Int.reduceNe,Int.reduceEq,q0,q1,q2,q3,q4,q5,a1,a2,a3,cJ,cK,cA,l1,l2,l3,l4,l5,l6,cI,cO,cM,cP,cH,cN,f1,f2,f3,g0,g1,g2,g3]) (fun w2 t2' h=>((hW _ t2 (by rw[h];unfold dq;simp only[az,decide_eq_true hw,decide_eq_true hw',decide_eq_true hu,gp];rfl)).mono (aJ (.refl _) (hb0 t2))))) ?_;rintro _ _ ⟨rfl,rfl,rfl⟩;simp(maxDischargeDepth:=12) (maxSteps:=1000000) -implicitDefEqProofs only[go_sem,Nat.reduceAdd,Nat.reduceSub,Nat.reduceMul,Nat.reduceLeDiff,Nat.reduceEqDiff,Nat.reduceGT,Nat.reduceBEq,reduceCtorEq,↓reduceIte,Int.reduceToNat,Int.reduceLE,Int.reduceLT,Int.reduceNe,Int.reduceEq,f4,g4,q0,q1,q2,q3,q4,q5,a1,a2,a3,cJ,cK,cA,l1,l2,l3,l4,l5,l6,cI,cO,cM,cP,cH,cN,f1,f2,f3,g0,g1,g2,g3];refine Y.u1 ⟨(b.n,[dI (bB c.nm w.1),dI (bB c.nm w'.1),dI (bB c.nm u.1)])::(b3.n,[.v (.pointer (some ⟨br,0,none⟩))])::(b2.n,[.v (.pointer (some ⟨bp,0,none⟩))])::(br,mC [] e)::(b4,[dI 0])::(pS R bp ln lu lq lg c).box,[]⟩ ⟨[],[]⟩ [8] [12] [0,1,2,3,4,5,6,7,8,9,10,11,12] mx (by kernel_rfl) (fun T _=>Y.gq T) ?_;simp(maxDischargeDepth:=12) (maxSteps:=1000000) -implicitDefEqProofs only[go_sem,Nat.reduceAdd,Nat.reduceSub,Nat.reduceMul,Nat.reduceLeDiff,Nat.reduceEqDiff,Nat.reduceGT,Nat.reduceBEq,reduceCtorEq,↓reduceIte,Int.reduceToNat,Int.reduceLE,Int.reduceLT,Int.reduceNe,Int.reduceEq,f4,g4,q0,q1,q2,q3,q4,q5,a1,a2,a3,cJ,cK,cA,l1,l2,l3,l4,l5,l6,cI,cO,cM,cP,cH,cN,f1,f2,f3,g0,g1,g2,g3];refine⟨by omega,by omega,⟨_,_⟩,⟨.cons _ (.cons _ (.cons _ (.refl _))),.refl _⟩,⟨c.nm,c.up,c.qu,c.gr++[⟨(ix c w.1:Int),(ix c w'.1:Int),(ix c u.1:Int)⟩]⟩,?_,rfl,?_⟩
   ·unfold dq;simp only[az,decide_eq_true hw,decide_eq_true hw',decide_eq_true hu,gp];rfl
   ·rw[aT hw,aT hw',aT hu];simp only[Rk,Sg,R8,Rz,SN];rfl
 ·intro b;have q0:=af b (b3.n) (by simp(maxDischargeDepth:=12) (maxSteps:=1000000) -implicitDefEqProofs only[go_sem,Nat.reduceAdd,Nat.reduceSub,Nat.reduceMul,Nat.reduceLeDiff,Nat.reduceEqDiff,Nat.reduceGT,Nat.reduceBEq,reduceCtorEq,↓reduceIte,Int.reduceToNat,Int.reduceLE,Int.reduceLT,Int.reduceNe,Int.reduceEq]);have q1:=af b (b2.n) (by simp(maxDischargeDepth:=12) (maxSteps:=1000000) -implicitDefEqProofs only[go_sem,Nat.reduceAdd,Nat.reduceSub,Nat.reduceMul,Nat.reduceLeDiff,Nat.reduceEqDiff,Nat.reduceGT,Nat.reduceBEq,reduceCtorEq,↓reduceIte,Int.reduceToNat,Int.reduceLE,Int.reduceLT,Int.reduceNe,Int.reduceEq,g0]);have q2:=af b (br) (by simp(maxDischargeDepth:=12) (maxSteps:=1000000) -implicitDefEqProofs only[go_sem,Nat.reduceAdd,Nat.reduceSub,Nat.reduceMul,Nat.reduceLeDiff,Nat.reduceEqDiff,Nat.reduceGT,Nat.reduceBEq,reduceCtorEq,↓reduceIte,Int.reduceToNat,Int.reduceLE,Int.reduceLT,Int.reduceNe,Int.reduceEq,g1,f1]);have q3:=af b (b4) (by simp(maxDischargeDepth:=12) (maxSteps:=1000000) -implicitDefEqProofs only[go_sem,Nat.reduceAdd,Nat.reduceSub,Nat.reduceMul,Nat.reduceLeDiff,Nat.reduceEqDiff,Nat.reduceGT,Nat.reduceBEq,reduceCtorEq,↓reduceIte,Int.reduceToNat,Int.reduceLE,Int.reduceLT,Int.reduceNe,Int.reduceEq,g2,f2,a1]);have q4:=af b (bp) (by simp(maxDischargeDepth:=12) (maxSteps:=1000000) -implicitDefEqProofs only[go_sem,Nat.reduceAdd,Nat.reduceSub,Nat.reduceMul,Nat.reduceLeDiff,Nat.reduceEqDiff,Nat.reduceGT,Nat.reduceBEq,reduceCtorEq,↓reduceIte,Int.reduceToNat,Int.reduceLE,Int.reduceLT,Int.reduceNe,Int.reduceEq,g3,f3,a2,a3]);have q0r:(b3.n=b.n)=False:=by rw[←q0];exact propext eq_comm
  have q1r:(b2.n=b.n)=False:=by rw[←q1];exact propext eq_comm
  have q2r:(br=b.n)=False:=by rw[←q2];exact propext eq_comm
  have q3r:(b4=b.n)=False:=by rw[←q3];exact propext eq_comm
  have q4r:(bp=b.n)=False:=by rw[←q4];exact propext eq_comm
  have q5:=q2r;have qR:=mH b;simp only[go_sem,q0r,q1r,q2r,q3r,q4r,↓reduceIte]at qR;have hb0:∀ws',lk ((b3.n,[.v (.pointer (some ⟨br,0,none⟩))])::(b2.n,[.v (.pointer (some ⟨bp,0,none⟩))])::(br,mC ws' e)::(b4,[dI 0])::(pS R bp ln lu lq lg c).box) b.n=none:=fun ws'=>by simp(maxDischargeDepth:=12) (maxSteps:=1000000) -implicitDefEqProofs only[go_sem,Nat.reduceAdd,Nat.reduceSub,Nat.reduceMul,Nat.reduceLeDiff,Nat.reduceEqDiff,Nat.reduceGT,Nat.reduceBEq,reduceCtorEq,↓reduceIte,Int.reduceToNat,Int.reduceLE,Int.reduceLT,Int.reduceNe,Int.reduceEq,q0r,q1r,q2r,q3r,q4r,qR]
  refine bQ (fG _ _ bp br a2 c.nm ((hNm ws).mono (aJ (.refl _) (hb0 ws))) h64 ws e (by simp(maxDischargeDepth:=12) (maxSteps:=1000000) -implicitDefEqProofs only[go_sem,Nat.reduceAdd,Nat.reduceSub,Nat.reduceMul,Nat.reduceLeDiff,Nat.reduceEqDiff,Nat.reduceGT,Nat.reduceBEq,reduceCtorEq,↓reduceIte,Int.reduceToNat,Int.reduceLE,Int.reduceLT,Int.reduceNe,Int.reduceEq,q0,q1,q2,q3,q4,q5,a1,a2,a3,cJ,cK,cA,l1,l2,l3,l4,l5,l6,cI,cO,cM,cP,cH,cN,f1,f2,f3,g0,g1,g2,g3]) (fun h=>((hW _ ws (by rw[h];rfl)).mono (aJ (.refl _) (hb0 ws)))) (fun wx tx h hb=>((hW _ ws (by rw[h];unfold dq;simp only[az,decide_eq_false hb];rfl)).mono (aJ (.refl _) (hb0 ws))))) ?_;rintro _ _ ⟨w,t,rfl,hw,rfl,rfl⟩;simp(maxDischargeDepth:=12) (maxSteps:=1000000) -implicitDefEqProofs only[go_sem,Nat.reduceAdd,Nat.reduceSub,Nat.reduceMul,Nat.reduceLeDiff,Nat.reduceEqDiff,Nat.reduceGT,Nat.reduceBEq,reduceCtorEq,↓reduceIte,Int.reduceToNat,Int.reduceLE,Int.reduceLT,Int.reduceNe,Int.reduceEq,f4,g4,q0,q1,q2,q3,q4,q5,a1,a2,a3,cJ,cK,cA,l1,l2,l3,l4,l5,l6,cI,cO,cM,cP,cH,cN,f1,f2,f3,g0,g1,g2,g3];refine bQ (fG _ _ bp br a2 c.nm ((hNm t).mono (aJ (.refl _) (hb0 t))) h64 t e (by simp(maxDischargeDepth:=12) (maxSteps:=1000000) -implicitDefEqProofs only[go_sem,Nat.reduceAdd,Nat.reduceSub,Nat.reduceMul,Nat.reduceLeDiff,Nat.reduceEqDiff,Nat.reduceGT,Nat.reduceBEq,reduceCtorEq,↓reduceIte,Int.reduceToNat,Int.reduceLE,Int.reduceLT,Int.reduceNe,Int.reduceEq,q0,q1,q2,q3,q4,q5,a1,a2,a3,cJ,cK,cA,l1,l2,l3,l4,l5,l6,cI,cO,cM,cP,cH,cN,f1,f2,f3,g0,g1,g2,g3]) (fun h=>((hW _ t (by rw[h];unfold dq;simp only[az,decide_eq_true hw,az];rfl)).mono (aJ (.refl _) (hb0 t)))) (fun wx tx h hb=>((hW _ t (by rw[h];unfold dq;simp only[az,decide_eq_true hw,decide_eq_false hb];rfl)).mono (aJ (.refl _) (hb0 t))))) ?_;rintro _ _ ⟨w',t',rfl,hw',rfl,rfl⟩;simp(maxDischargeDepth:=12) (maxSteps:=1000000) -implicitDefEqProofs only[go_sem,Nat.reduceAdd,Nat.reduceSub,Nat.reduceMul,Nat.reduceLeDiff,Nat.reduceEqDiff,Nat.reduceGT,Nat.reduceBEq,reduceCtorEq,↓reduceIte,Int.reduceToNat,Int.reduceLE,Int.reduceLT,Int.reduceNe,Int.reduceEq,f4,g4,q0,q1,q2,q3,q4,q5,a1,a2,a3,cJ,cK,cA,l1,l2,l3,l4,l5,l6,cI,cO,cM,cP,cH,cN,f1,f2,f3,g0,g1,g2,g3];refine bQ (fG _ _ bp br a2 c.nm ((hNm t').mono (aJ (.refl _) (hb0 t'))) h64 t' e (by simp(maxDischargeDepth:=12) (maxSteps:=1000000) -implicitDefEqProofs only[go_sem,Nat.reduceAdd,Nat.reduceSub,Nat.reduceMul,Nat.reduceLeDiff,Nat.reduceEqDiff,Nat.reduceGT,Nat.reduceBEq,reduceCtorEq,↓reduceIte,Int.reduceToNat,Int.reduceLE,Int.reduceLT,Int.reduceNe,Int.reduceEq,q0,q1,q2,q3,q4,q5,a1,a2,a3,cJ,cK,cA,l1,l2,l3,l4,l5,l6,cI,cO,cM,cP,cH,cN,f1,f2,f3,g0,g1,g2,g3]) (fun h=>((hW _ t' (by rw[h];unfold dq;simp only[az,decide_eq_true hw,decide_eq_true hw',az];rfl)).mono (aJ (.refl _) (hb0 t')))) (fun wx tx h hb=>((hW _ t' (by rw[h];unfold dq;simp only[az,decide_eq_true hw,decide_eq_true hw',decide_eq_false hb];rfl)).mono (aJ (.refl _) (hb0 t'))))) ?_;rintro _ _ ⟨u,t2,rfl,hu,rfl,rfl⟩;simp(maxDischargeDepth:=12) (maxSteps:=1000000) -implicitDefEqProofs only[go_sem,Nat.reduceAdd,Nat.reduceSub,Nat.reduceMul,Nat.reduceLeDiff,Nat.reduceEqDiff,Nat.reduceGT,Nat.reduceBEq,reduceCtorEq,↓reduceIte,Int.reduceToNat,Int.reduceLE,Int.reduceLT,Int.reduceNe,Int.reduceEq,f4,g4,q0,q1,q2,q3,q4,q5,a1,a2,a3,cJ,cK,cA,l1,l2,l3,l4,l5,l6,cI,cO,cM,cP,cH,cN,f1,f2,f3,g0,g1,g2,g3];refine bQ (rm _ _ br b3.n (by simp(maxDischargeDepth:=12) (maxSteps:=1000000) -implicitDefEqProofs only[go_sem,Nat.reduceAdd,Nat.reduceSub,Nat.reduceMul,Nat.reduceLeDiff,Nat.reduceEqDiff,Nat.reduceGT,Nat.reduceBEq,reduceCtorEq,↓reduceIte,Int.reduceToNat,Int.reduceLE,Int.reduceLT,Int.reduceNe,Int.reduceEq,q0,q1,q2,q3,q4,q5,a1,a2,a3,cJ,cK,cA,l1,l2,l3,l4,l5,l6,cI,cO,cM,cP,cH,cN,f1,f2,f3,g0,g1,g2,g3]) t2 e (by simp(maxDischargeDepth:=12) (maxSteps:=1000000) -implicitDefEqProofs only[go_sem,Nat.reduceAdd,Nat.reduceSub,Nat.reduceMul,Nat.reduceLeDiff,Nat.reduceEqDiff,Nat.reduceGT,Nat.reduceBEq,reduceCtorEq,↓reduceIte,Int.reduceToNat,Int.reduceLE,Int.reduceLT,Int.reduceNe,Int.reduceEq,q0,q1,q2,q3,q4,q5,a1,a2,a3,cJ,cK,cA,l1,l2,l3,l4,l5,l6,cI,cO,cM,cP,cH,cN,f1,f2,f3,g0,g1,g2,g3]) (fun w2 t2' h=>((hW _ t2 (by rw[h];unfold dq;simp only[az,decide_eq_true hw,decide_eq_true hw',decide_eq_true hu,gp];rfl)).mono (aJ (.refl _) (hb0 t2))))) ?_;rintro _ _ ⟨rfl,rfl,rfl⟩;simp(maxDischargeDepth:=12) (maxSteps:=1000000) -implicitDefEqProofs only[go_sem,Nat.reduceAdd,Nat.reduceSub,Nat.reduceMul,Nat.reduceLeDiff,Nat.reduceEqDiff,Nat.reduceGT,Nat.reduceBEq,reduceCtorEq,↓reduceIte,Int.reduceToNat,Int.reduceLE,Int.reduceLT,Int.reduceNe,Int.reduceEq,f4,g4,q0,q1,q2,q3,q4,q5,a1,a2,a3,cJ,cK,cA,l1,l2,l3,l4,l5,l6,cI,cO,cM,cP,cH,cN,f1,f2,f3,g0,g1,g2,g3];refine Y.u1 ⟨(b.n,[dI (bB c.nm w.1),dI (bB c.nm w'.1),dI (bB c.nm u.1)])::(b3.n,[.v (.pointer (some ⟨br,0,none⟩))])::(b2.n,[.v (.pointer (some ⟨bp,0,none⟩))])::(br,mC [] e)::(b4,[dI 0])::(pS R bp ln lu lq lg c).box,[]⟩ ⟨[],[]⟩ [8] [12] [0,1,2,3,4,5,6,7,8,9,10,11,12] mx (by kernel_rfl) (fun T _=>Y.gq T) ?_;simp(maxDischargeDepth:=12) (maxSteps:=1000000) -implicitDefEqProofs only[go_sem,Nat.reduceAdd,Nat.reduceSub,Nat.reduceMul,Nat.reduceLeDiff,Nat.reduceEqDiff,Nat.reduceGT,Nat.reduceBEq,reduceCtorEq,↓reduceIte,Int.reduceToNat,Int.reduceLE,Int.reduceLT,Int.reduceNe,Int.reduceEq,f4,g4,q0,q1,q2,q3,q4,q5,a1,a2,a3,cJ,cK,cA,l1,l2,l3,l4,l5,l6,cI,cO,cM,cP,cH,cN,f1,f2,f3,g0,g1,g2,g3];refine⟨by omega,by omega,⟨_,_⟩,⟨.cons _ (.cons _ (.cons _ (.refl _))),.refl _⟩,⟨c.nm,c.up,c.qu,c.gr++[⟨(ix c w.1:Int),(ix c w'.1:Int),(ix c u.1:Int)⟩]⟩,?_,rfl,?_⟩
  ·unfold dq;simp only[az,decide_eq_true hw,decide_eq_true hw',decide_eq_true hu,gp];rfl
  ·rw[aT hw,aT hw',aT hu];simp only[Rk,Sg,R8,Rz,SN];rfl
end Go.Proofs.YtiihljlagmmljaaGreatDoor
