/-
  Part 4 of the proof that the last text ends: from 'Less is said of a value than is known: at calls, at results, at loops' to 'How many entries a tree has: plain laws'. By an AI agent.
-/
import Derived.Test.YtpjenciplibdnaaGreatDoorMQ3
set_option linter.unusedVariables false
set_option linter.unusedSimpArgs false
set_option maxRecDepth 100000
set_option maxHeartbeats 16000000
namespace Aml
open Go Go.RowKit
def Wk(d e:DV):Prop:=∀g u,aY g d u→aY g e u
def fV:List DV→List DV→Prop
 |[],[]=>True
 |d::ds,e::es=>Wk d e∧fV ds es
 |_,_=>False
theorem Wk.refl(d:DV):Wk d d:=fun _ _ h=>h
theorem Wk.trans{a b c:DV}(h:Wk a b)(k:Wk b c):Wk a c:=fun g u r=>k g u (h g u r)
theorem Wk.any(d:DV):Wk d .any:=fun g u _=> .any u
theorem Wk.nil(s s':Nat)(f:Bool):Wk (.sl s true []) (.sl s' f []):=fun g u r=>by
 obtain⟨o,h⟩:=fj r;rw[h];exact .nil _ _ _ _ fun _=>rfl
theorem Wk.full(s:Nat)(f:Bool)(xs:List DV):Wk (.sl s f xs) (.sl s false xs):=fun g u r=>by
 cases r with
 |nil _ _ o c hc=>exact .nil _ _ _ _ (by simp)
 |sl _ _ _ b o c us hl hf hc hm hr hz h1 hi=>exact .sl _ _ _ _ _ _ us hl (by simp) hc hm hr hz h1 hi
theorem fV.refl:∀ds,fV ds ds
 |[]=>trivial
 |d::ds=>⟨.refl d,fV.refl ds⟩
theorem fV.spec:∀{ds es:List DV},fV ds es→∀{g:Gh} {us:List Value},aq g ds us→aq g es us
 |[],[],_,_,_,r=>r
 |d::ds,e::es,h,g,us,r=>by
  obtain⟨u,us',rfl,r1,r2⟩:=r.cF;exact aq.cons (h.1 _ _ r1) (fV.spec h.2 r2)
theorem fV.length:∀{ds es:List DV},fV ds es→ds.length=es.length
 |[],[],_=>rfl
 |d::ds,e::es,h=>by simp[fV.length h.2]
theorem fV.trans:∀{a b c:List DV},fV a b→fV b c→fV a c
 |[],[],[],_,_=>trivial
 |_::_,_::_,_::_,h,k=>⟨h.1.trans k.1,h.2.trans k.2⟩
theorem Wk.agg{ds es:List DV}(h:fV ds es):Wk (.agg ds) (.agg es):=fun g u r=>by
 cases r with
 |agg _ us hl hr h1=>
  have:=h.spec (g:=g) (us:=us) ⟨hl,hr⟩;exact .agg _ _ this.len this.at_ h1
theorem Wk.bM{ds es:List DV}(h:fV ds es):Wk (.bM ds) (.bM es):=fun g u r=>by
 cases r with
 |bM _ us hl hr=>
  have:=h.spec (g:=g) (us:=us) ⟨hl,hr⟩;exact .bM _ _ this.len this.at_
theorem Wk.kQ{t:TypeId}{d e:DV}(h:Wk d e):Wk (.kQ t d) (.kQ t e):=fun g u r=>by
 cases r with
 |kQ _ _ u r=>exact .kQ _ _ _ (h _ _ r)
theorem Wk.sl{s:Nat}{f:Bool}{xs ys:List DV}(h:fV xs ys):Wk (.sl s f xs) (.sl s f ys):=fun g u r=>by
 cases r with
 |nil _ _ o c hc=>
  cases ys with
  |nil=>exact .nil _ _ _ _ hc
  |cons y ys=>exact h.elim
 |sl _ _ _ b o c us hl hf hc hm hr hz h1 hi=>
  have:=h.spec (g:=g) (us:=us) ⟨hl,hr⟩;exact .sl _ _ _ _ _ _ us this.len hf hc hm this.at_ hz h1 hi
theorem VV{ds es:List DV}(h:fV ds es):Wk (.bM ds) (.bM es)=True:=eq_true (Wk.bM h)
theorem TY{ds es:List DV}(h:fV ds es):Wk (.agg ds) (.agg es)=True:=eq_true (Wk.agg h)
theorem fV.map{α:Type}{f g:α→DV}(h:∀a,Wk (f a) (g a)):∀(l:List α),fV (l.map f) (l.map g)
 |[]=>trivial
 |a::l=>⟨h a,fV.map h l⟩
theorem fV.nil:fV [] []:=trivial
theorem fV.cons{d e:DV}{ds es:List DV}(h:Wk d e)(k:fV ds es):fV (d::ds) (e::es):=⟨h,k⟩
theorem NI(d e:DV)(ds es:List DV):fV (d::ds) (e::es)=(Wk d e∧fV ds es):=rfl
theorem PJ:fV [] []=True:=rfl
theorem UP(a0 a1 a2 a3 a4 a5 a6 a7 a8 a9 cE cH a12 cV cX dh:DV)(b0 b1 b2 b3 b4 b5 b6 b7 b8 b9 b10 b11 b12 b13 b14 b15:DV)(l m:List DV):fV (rc ⟨a0,a1,a2,a3,a4,a5,a6,a7,a8,a9,cE,cH,a12,cV,cX,dh⟩ l) (rc ⟨b0,b1,b2,b3,b4,b5,b6,b7,b8,b9,b10,b11,b12,b13,b14,b15⟩ m)=(Wk a0 b0∧Wk a1 b1∧Wk a2 b2∧Wk a3 b3∧Wk a4 b4∧Wk a5 b5∧Wk a6 b6∧Wk a7 b7∧Wk a8 b8∧Wk a9 b9∧Wk cE b10∧Wk cH b11∧Wk a12 b12∧Wk cV b13∧Wk cX b14∧Wk dh b15∧fV l m):=rfl
theorem Wk.eq{d e:DV}(h:d=e):Wk d e:=h▸ .refl d
theorem qu(d:DV):Wk d d=True:=eq_true (.refl d)
theorem Uh{u u':Value}(h:u.oneCell'=true):Wk (.v u) (.v u')↔u=u':=
 ⟨fun k=>by have:=k ⟨fun _ _=>none,fun _ _=>none,fun _=>none⟩ u (.v u h);cases this;rfl,fun e=>e▸ .refl _⟩
theorem Ww(k:IntKind)(a b:Int):Wk (.v (.int k a)) (.v (.int k b))=(a=b):=propext ((Uh rfl).trans ⟨fun h=>(Value.int.inj h).2,fun h=>by rw[h]⟩)
theorem PQ(a b:Bool):Wk (.v (.bool a)) (.v (.bool b))=(a=b):=propext ((Uh rfl).trans ⟨fun h=>Value.bool.inj h,fun h=>by rw[h]⟩)
theorem UE(a b:ByteArray):Wk (.v (.string a)) (.v (.string b))=(a=b):=propext ((Uh rfl).trans ⟨fun h=>Value.string.inj h,fun h=>by rw[h]⟩)
theorem QW(s:Nat)(f:Bool)(xs:List DV):Wk (.sl s f xs) (.sl s false xs)=True:=eq_true (.full s f xs)
theorem Ul(s s':Nat)(f:Bool):Wk (.sl s true []) (.sl s' f [])=True:=eq_true (.nil s s' f)
section
variable {P:Program} {w0:W0}
theorem xG{f:FuncId}{args args':List DV}{S:St}{K K':DV→St→Prop}(h:ab P w0 f args' S K')(ha:fV args args')(hk:∀d S',K' d S'→∃e,Wk d e∧K e S'):ab P w0 f args S K:=
 fun g vs w h1 h2=>(h g vs w h1 (ha.spec h2)).mono fun e w' ⟨r,g',d,S',q1,q2,q3,q4,q5⟩=>
  let⟨e',k1,k2⟩:=hk _ _ q5
  ⟨r,g',e',S',q1,q2,q3,k1 _ _ q4,k2⟩
theorem lX{f:FuncId}{args args':List DV}{S:St}{K:DV→St→Prop}{r:DV}(h:ab P w0 f args' S (fun d S'=>d=r∧S'=S))(ha:fV args args')(hk:K r S):ab P w0 f args S K:=
 xG h ha fun d S' ⟨h1,h2⟩=>⟨d,.refl d,by rw[h1,h2];exact hk⟩
theorem ae{f:FuncId}{args args':List DV}{S:St}{K:DV→St→Prop}{r:DV}(h:ab P w0 f args' S (fun d S'=>d=r∧S'=S))(hk:K r S)(ha:fV args args':=by exact fV.refl _):@AC P w0 f args S ⟨K⟩:=lX h ha hk
theorem bC{f:FuncId}{args args':List DV}{S:St}{K K':DV→St→Prop}(h:ab P w0 f args' S K')(hk:∀d S',K' d S'→K d S')(ha:fV args args':=by exact fV.refl _):@AC P w0 f args S ⟨K⟩:=xG h ha fun d S' q=>⟨d,.refl d,hk d S' q⟩
theorem aK{f:FuncId}{args args':List DV}{S:St}{K:DV→Prop}{r:DV}(h:ab P w0 f args' S (fun d S'=>d=r∧S'=S))(hk:K r)(ha:fV args args':=by exact fV.refl _):@QC P w0 f args S ⟨K⟩:=
 ⟨r,lX h ha ⟨rfl,rfl⟩,hk⟩
structure Sub(S S':St):Prop where
 box:S.box.Sublist S'.box
 acc:S.acc.Sublist S'.acc
theorem Sub.refl(S:St):Sub S S:=⟨ad5 _,ad5 _⟩
theorem Sub.aX{S:St}{B:List (Nat×List DV)}{A:List (Nat×Ob)}{x:Nat×List DV}(h:Sub S ⟨B,A⟩):Sub S ⟨x::B,A⟩:=⟨h.box.cons _,h.acc⟩
theorem Sub.nJ{S:St}{B:List (Nat×List DV)}{A:List (Nat×Ob)}{x:Nat×Ob}(h:Sub S ⟨B,A⟩):Sub S ⟨B,x::A⟩:=⟨h.box,h.acc.cons _⟩
theorem Sub.A1{B B':List (Nat×List DV)}{A A':List (Nat×Ob)}{x:Nat×List DV}(h:Sub ⟨B,A⟩ ⟨B',A'⟩):Sub ⟨x::B,A⟩ ⟨x::B',A'⟩:=⟨h.box.cons_cons _,h.acc⟩
theorem Sub.Lo{B B':List (Nat×List DV)}{A A':List (Nat×Ob)}{x:Nat×Ob}(h:Sub ⟨B,A⟩ ⟨B',A'⟩):Sub ⟨B,x::A⟩ ⟨B',x::A'⟩:=⟨h.box,h.acc.cons_cons _⟩
theorem qf(S:St):Sub S S=True:=eq_true (.refl S)
theorem TQ{B B':List (Nat×List DV)}{A A':List (Nat×Ob)}(x:Nat×List DV)(h:Sub ⟨B,A⟩ ⟨B',A'⟩):Sub ⟨x::B,A⟩ ⟨x::B',A'⟩=True:=eq_true h.A1
theorem Uz{B B':List (Nat×List DV)}{A A':List (Nat×Ob)}(x:Nat×Ob)(h:Sub ⟨B,A⟩ ⟨B',A'⟩):Sub ⟨B,x::A⟩ ⟨B',x::A'⟩=True:=eq_true h.Lo
theorem UT(S:St){B:List (Nat×List DV)}{A:List (Nat×Ob)}(x:Nat×List DV)(h:Sub S ⟨B,A⟩):Sub S ⟨x::B,A⟩=True:=eq_true h.aX
theorem Vt(S:St){B:List (Nat×List DV)}{A:List (Nat×Ob)}(x:Nat×Ob)(h:Sub S ⟨B,A⟩):Sub S ⟨B,x::A⟩=True:=eq_true h.nJ
def qC:List Nat→List DV→St→(List DV→St→Prop)→Prop
 |[],fr,S,K=>K fr S
 |i::is,fr,S,K=>oK (fr[i]?) fun d=>shr S d fun d S=>qC is (fr.set i d) S K
theorem HP(fr:List DV)(S:St)(K:List DV→St→Prop):qC [] fr S K=K fr S:=rfl
theorem Fl(i:Nat)(is:List Nat)(fr:List DV)(S:St)(K:List DV→St→Prop):qC (i::is) fr S K=oK (fr[i]?) fun d=>shr S d fun d S=>qC is (fr.set i d) S K:=rfl
theorem rh{K:List DV→St→Prop}:∀(is:List Nat) {fr:List DV} {S:St} {g:Gh} {w:World} {us:List Value},Rel w0 g S w→aq g fr us→qC is fr S K→∃g' fr' S',g.le g'∧Rel w0 g' S' w∧aq g' fr' us∧K fr' S'
 |[],fr,S,g,w,us,h1,h2,h=>⟨g,fr,S,.refl g,h1,h2,h⟩
 |i::is,fr,S,g,w,us,h1,h2,h=>by
  unfold qC at h
  cases hi:fr[i]? with
  |none=>rw[hi]at h;exact h.elim
  |some d=>
   rw[hi,xx]at h;have hlt:i<us.length:=by rw[←h2.len];exact(aaq.1 hi).1
   have hr:=h2.at_ i _ _ hi (aay hlt);obtain⟨g1,d',S1,k1,k2,k3,k4⟩:=nS h1 hr h;obtain⟨g2,fr2,S2,q1,q2,q3,q4⟩:=rh is k2 (fQ (h2.mono k1) (aay hlt) k3) k4;exact⟨g2,fr2,S2,k1.trans q1,q2,q3,q4⟩
theorem Sx{σ:Type}(live:List Nat)(fb:σ→List (Nat×DV))(st:σ→St)(inv:σ→Prop)(meas:σ→Nat)(s0:σ){c:Code}{fr:List DV}{S:St}{Q:Exit→List DV→St→Prop}
 (h0:inv s0∧fV (wk live fr) (l4 (wk live fr) (fb s0))∧Sub (st s0) S)
 (round:∀s,inv s→gF P w0 c (l4 (wk live fr) (fb s)) (st s) (kg (fun fr' S'=>∃s',inv s'∧meas s'<meas s∧fV (wk live fr') (l4 (wk live fr) (fb s'))∧Sub (st s') S') Q)):
 gF P w0 (.loop c) fr S Q:=by
 intro g a w h1 h2 h3;refine qm (fun m a w=>Dk w0 g.obj a w∧∃g' s,g.le g'∧Rel w0 g' (st s) w∧aq g' (l4 (wk live fr) (fb s)) a.tmps.toList∧inv s∧meas s=m) (m:=meas s0) ⟨h3,g,s0,.refl g,h1.forget h0.2.2.box h0.2.2.acc,h0.2.1.spec (p9 live h2),h0.1,rfl⟩ ?_;rintro m a w ⟨hd,g',s,k1,k2,k3,k4,rfl⟩;refine eK (round s k4 g' a w k2 k3 (k1.dk hd)) ?_;rintro e a' w' ⟨hd',g'',fr'',S'',q1,q2,q3,q4⟩
 cases e with
 |normal=>
  obtain⟨s',hi,hm,hf,hS⟩:=q4;exact⟨meas s',hm,k1.kd hd',g'',s',k1.trans q1,q2.forget hS.box hS.acc,hf.spec (p9 live q3),hi,rfl⟩
 |exit n=>exact⟨k1.kd hd',g'',fr'',S'',k1.trans q1,q2,q3,q4⟩
 |goto n=>exact⟨k1.kd hd',g'',fr'',S'',k1.trans q1,q2,q3,q4⟩
 |ret=>exact⟨k1.kd hd',g'',fr'',S'',k1.trans q1,q2,q3,q4⟩
 |panic ch=>exact⟨k1.kd hd',g'',fr'',S'',k1.trans q1,q2,q3,q4⟩
 |outgrown=>exact⟨k1.kd hd',g'',fr'',S'',k1.trans q1,q2,q3,q4⟩
theorem jf{σ:Type}(ss:List Nat:=[])(live:List Nat)(fb:σ→List (Nat×DV))(st:σ→St)(inv:σ→Prop)(meas:σ→Nat)(s0:σ){c:Code}{fr:List DV}{S:St}{Q:Exit→List DV→St→Prop}(hm:P.follows .mixedOrders=true)(hc:sj ss c=true)
 (h0:inv s0∧fV (wk live fr) (l4 (wk live fr) (fb s0))∧Sub (st s0) S)
 (round:∀s,inv s→vw P w0 ss c (l4 (wk live fr) (fb s)) (st s) (kg (fun fr' S'=>∃s',inv s'∧meas s'<meas s∧fV (wk live fr') (l4 (wk live fr) (fb s'))∧Sub (st s') S') Q)):
 gF P w0 (.loop c) fr S Q:=Sx live fb st inv meas s0 h0 fun s hs=>df hm c hc (round s hs)
theorem rB{σ:Type}(ss:List Nat:=[])(live:List Nat)(fb:σ→List (Nat×DV))(st:σ→St)(inv:σ→Prop){c:Code}{fr:List DV}{S:St}{Q:Exit→List DV→St→Prop}(hm:P.follows .mixedOrders=true)(hc:sj ss c=true)
 (h1:vw P w0 ss c fr S (kg (fun fr' S'=>∃s,inv s∧fV (wk live fr') (l4 (wk live fr) (fb s))∧Sub (st s) S') Q))
 (h2:∀s,inv s→Q .normal (l4 (wk live fr) (fb s)) (st s)):gF P w0 c fr S Q:=by
 intro g a w q1 q2 q3;refine eK (df hm c hc h1 g a w q1 q2 q3) ?_;rintro e a' w' ⟨hd,g',fr',S',k1,k2,k3,k4⟩
 cases e with
 |normal=>
  obtain⟨s,hi,hw,hS⟩:=k4;exact⟨hd,g',_,_,k1,k2.forget hS.box hS.acc,hw.spec (p9 live k3),h2 s hi⟩
 |exit n=>exact⟨hd,g',fr',S',k1,k2,k3,k4⟩
 |goto n=>exact⟨hd,g',fr',S',k1,k2,k3,k4⟩
 |ret=>exact⟨hd,g',fr',S',k1,k2,k3,k4⟩
 |panic ch=>exact⟨hd,g',fr',S',k1,k2,k3,k4⟩
 |outgrown=>exact⟨hd,g',fr',S',k1,k2,k3,k4⟩
theorem RE(ss:List Nat:=[]){c:Code}{fr:List DV}{S:St}{Q:Exit→List DV→St→Prop}(hm:P.follows .mixedOrders=true)(hc:sj ss c=true)(h:vw P w0 ss c fr S Q):gF P w0 c fr S Q:=df hm c hc h
theorem aw(ss:List Nat:=[])(n:Nat)(live:List Nat)(fb:Nat→List (Nat×DV))(st:Nat→St)(inv:Nat→Prop){c:Code}{fr:List DV}{S:St}{Q:Exit→List DV→St→Prop}(hm:P.follows .mixedOrders=true)(hc:sj ss c=true)
 (h0:inv 0∧fV (wk live fr) (l4 (wk live fr) (fb 0))∧Sub (st 0) S)
 (round:∀k,k≤n→inv k→vw P w0 ss c (l4 (wk live fr) (fb k)) (st k) (kg (fun fr' S'=>k<n∧inv (k+1)∧fV (wk live fr') (l4 (wk live fr) (fb (k+1)))∧Sub (st (k+1)) S') Q)):
 gF P w0 (.loop c) fr S Q:=by
 refine Sx live fb st (fun k=>k≤n∧inv k) (fun k=>n-k) 0 ⟨⟨aeh _,h0.1⟩,h0.2⟩ ?_;rintro k ⟨h1,h2⟩;refine(df hm c hc (round k h1 h2)).mono ?_;intro e fr' S' q
 cases e with
 |normal=>
  obtain⟨q1,q2,q3,q4⟩:=q;exact⟨k+1,⟨q1,q2⟩,by omega,q3,q4⟩
 |exit n=>exact q
 |goto n=>exact q
 |ret=>exact q
 |panic ch=>exact q
 |outgrown=>exact q
theorem Ty(ss:List Nat:=[])(fz:List Nat)(n:Nat)(live:List Nat)(fb:Nat→List (Nat×DV))(st:Nat→St)(inv:Nat→Prop){c:Code}{fr:List DV}{S:St}{Q:Exit→List DV→St→Prop}(hm:P.follows .mixedOrders=true)(hc:sj ss c=true)
 (h0:inv 0∧qC fz (wk live fr) S fun fr' S'=>fV fr' (l4 (wk live fr) (fb 0))∧Sub (st 0) S')
 (round:∀k,k≤n→inv k→vw P w0 ss c (l4 (wk live fr) (fb k)) (st k) (kg (fun fr' S'=>k<n∧inv (k+1)∧qC fz (wk live fr') S' fun fr' S'=>fV fr' (l4 (wk live fr) (fb (k+1)))∧Sub (st (k+1)) S') Q)):
 gF P w0 (.loop c) fr S Q:=by
 intro g a w h1 h2 h3;obtain⟨g0,f0,S0,r1,r2,r3,r4,r5⟩:=rh fz h1 (p9 live h2) h0.2;refine qm (fun m a w=>Dk w0 g.obj a w∧∃g' k,g.le g'∧Rel w0 g' (st k) w∧aq g' (l4 (wk live fr) (fb k)) a.tmps.toList∧(k≤n∧inv k)∧n-k=m) (m:=n-0) ⟨h3,g0,0,r1,r2.forget r5.box r5.acc,r4.spec r3,⟨aeh _,h0.1⟩,rfl⟩ ?_;rintro m a w ⟨hd,g',k,k1,k2,k3,k4,rfl⟩;refine eK (df hm c hc (round k k4.1 k4.2) g' a w k2 k3 (k1.dk hd)) ?_;rintro e a' w' ⟨hd',g'',fr'',S'',q1,q2,q3,q4⟩
 cases e with
 |normal=>
  obtain⟨hlt,hi,hf⟩:=q4;obtain⟨g3,f3,S3,p1,p2,p3,p4,p5⟩:=rh fz q2 (p9 live q3) hf;exact⟨n-(k+1),by omega,k1.kd hd',g3,k+1,(k1.trans q1).trans p1,p2.forget p5.box p5.acc,p4.spec p3,⟨hlt,hi⟩,rfl⟩
 |exit n=>exact⟨k1.kd hd',g'',fr'',S'',k1.trans q1,q2,q3,q4⟩
 |goto n=>exact⟨k1.kd hd',g'',fr'',S'',k1.trans q1,q2,q3,q4⟩
 |ret=>exact⟨k1.kd hd',g'',fr'',S'',k1.trans q1,q2,q3,q4⟩
 |panic ch=>exact⟨k1.kd hd',g'',fr'',S'',k1.trans q1,q2,q3,q4⟩
 |outgrown=>exact⟨k1.kd hd',g'',fr'',S'',k1.trans q1,q2,q3,q4⟩
theorem aJ(ss:List Nat:=[]){f:FuncId}{fn:Func}{c:Code}{rs:List ResultVar}{args:List DV}{S:St}{r:DV}(hm:P.follows .mixedOrders=true)(hf:P.funcs[f]? =some fn)(hb:fn.body=some c)(hrs:fn.results=rs.toArray)(hc:sj ss c=true)
 (h:vw P w0 ss c (fU (args++List.replicate (fn.ntmps-args.length) ud)) S fun e fr S'=>(e= .normal∨e= .ret)∧wi P fr S' rs fun d=>pD S' d fun d S''=>Wk d r∧Sub S S''):ab P w0 f args S (fun d S'=>d=r∧S'=S):=by
 have h1:ab P w0 f args S (fun d S'=>pD S' d fun d S''=>Wk d r∧Sub S S''):=vX hf hb hrs (df hm c hc h);intro g vs w k1 k2;refine(h1 g vs w k1 k2).mono ?_;rintro e w' ⟨v,g',d,S',q1,q2,q3,q4,q5⟩;obtain⟨g2,d',S2,p1,p2,p3,p4,p5⟩:=uh q3 q4 q5;exact⟨v,g2,r,S,q1,q2.trans p1,p2.forget p5.box p5.acc,p4 _ _ p3,rfl,rfl⟩
theorem zS(i:Nat){s:Nat}(hs:0<s){xs:List DV}{c:Code}{fr:List DV}{S:St}{Q:Exit→List DV→St→Prop}(hi:fr[i]? =some (.sl s true xs))
 (h:∀l,jF S.acc l→gF P w0 c (fr.set i (.acc l xs.length)) ⟨S.box,(l,.tl s xs)::S.acc⟩ Q):gF P w0 c fr S Q:=by
 intro g a w h1 h2 h3;have hlt:i<a.tmps.toList.length:=by rw[←h2.len];exact(aaq.1 hi).1
 have hr:=h2.at_ i _ _ hi (aay hlt);obtain⟨l,g',hle,hne,hR,hA⟩:=h1.rU hs hr (.tl s xs) (.inl rfl);have hfr:=fQ (h2.mono hle) (aay hlt) hA;exact eK (h l (dG hne) g' a w hR hfr (hle.dk h3)) fun _ _ _ k=>k.of_le hle
theorem _root_.Aml.Rel.M7{g:Gh}{S:St}{w:World}(h:Rel w0 g S w){b:Nat}{ds ds':List DV}(hl:lk S.box b=some ds)(hw:∀us e,w.heap[b]? =some (.cells us e (0,0))→aq g ds us.toList→aq g ds' us.toList):Rel w0 g ⟨up S.box b ds',S.acc⟩ w:=by
 refine⟨h.below,h.cu,by rw[pC];exact h.nb,h.na,h.gU,h.fresh,h.top,?_⟩;obtain⟨ow,o1,o2⟩:=h.own;refine⟨ow,fun b' e hm=>?_,o2⟩;rcases jo h.nb hm with he|⟨hm,_⟩
 ·cases he;obtain⟨q1,q2,q3,us,e,q4,q5,q6⟩:=o1 _ _ (cP hl);exact⟨q1,q2,q3,us,e,q4,hw _ _ q4 q5,q6⟩
 ·exact o1 _ _ hm
theorem bW(b j s:Nat)(hs:0<s){c:Code}{fr:List DV}{S:St}{Q:Exit→List DV→St→Prop}{ds:List DV}{s0:Nat}(hb:lk S.box b=some ds)(hi:ds[j]? =some (.sl s0 true []))
 (h:∀l:FN S.acc,gF P w0 c fr ⟨up S.box b (ds.set j (.acc l.n 0)),(l.n,.arr s [])::S.acc⟩ Q):gF P w0 c fr S Q:=by
 intro g a w h1 h2 h3;obtain⟨ow,o1,o2⟩:=h1.own;obtain⟨q1,q2,q3,us,e,q4,q5,q6⟩:=o1 _ _ (cP hb);have hlt:j<us.toList.length:=by rw[←q5.len];exact(aaq.1 hi).1
 have hr:=q5.at_ j _ _ hi (aay hlt);have hr':aY g (.sl s true []) us.toList[j]:=by obtain⟨o',ho'⟩:=fj hr;rw[ho'];exact .nil _ _ _ _ fun _=>rfl
 obtain⟨l,g',hle,hne,hR,hA⟩:=h1.rU hs hr' (.arr s []) (.inr ⟨rfl,rfl⟩);have hR':=hR.M7 (ds':=ds.set j (.acc l 0)) (b:=b) hb ?_
 ·exact eK (h ⟨l,dG hne⟩ g' a w hR' (h2.mono hle) (hle.dk h3)) fun _ _ _ k=>k.of_le hle
 ·intro us' e' hh hr2;rw[hh]at q4;cases q4;exact fQ hr2 (aay hlt) hA
theorem On(i:Nat){s:Nat}{xs:List DV}{c:Code}{fr:List DV}{S:St}{Q:Exit→List DV→St→Prop}(hi:fr[i]? =some (.sl s true xs))(hs:0<s)
 (h:∀l:FN S.acc,gF P w0 c (fr.set i (.acc l.n xs.length)) ⟨S.box,(l.n,.tl s xs)::S.acc⟩ Q):gF P w0 c fr S Q:=zS i hs hi fun l hl=>h ⟨l,hl⟩
theorem fH(i s:Nat){c:Code}{fr:List DV}{S:St}{Q:Exit→List DV→St→Prop}{s0:Nat}(hi:fr[i]? =some (.sl s0 true []))(hs:0<s)
 (h:∀l:FN S.acc,gF P w0 c (fr.set i (.acc l.n 0)) ⟨S.box,(l.n,.arr s [])::S.acc⟩ Q):gF P w0 c fr S Q:=KQ i s hs hi fun l hl=>h ⟨l,hl⟩
theorem eI(ss:List Nat:=[])(is:List Nat){c:Code}{fr:List DV}{S:St}{Q:Exit→List DV→St→Prop}(hm:P.follows .mixedOrders=true)(hc:sj ss c=true)(h:qC is fr S fun fr S=>vw P w0 ss c fr S Q):gF P w0 c fr S Q:=by
 intro g a w h1 h2 h3;obtain⟨g',f',S',k1,k2,k3,k4⟩:=rh is h1 h2 h;exact eK (df hm c hc k4 g' a w k2 k3 (k1.dk h3)) fun _ _ _ k=>k.of_le k1
theorem iB{f:FuncId}{args:List DV}{S:St}{K K':DV→St→Prop}(h:ab P w0 f args S K')(s:Nat)(hs:0<s)
 (hk:∀d S',K' d S'→K d S'∨((∃s0,d= .sl s0 true [])∧∀l,jF S'.acc l→K (.acc l 0) ⟨S'.box,(l,.arr s [])::S'.acc⟩)):ab P w0 f args S K:=by
 intro g vs w h1 h2;refine(h g vs w h1 h2).mono ?_;rintro e w' ⟨r,g',d,S',q1,q2,q3,q4,q5⟩;rcases hk d S' q5 with h|⟨⟨s0,rfl⟩,h⟩
 ·exact⟨r,g',d,S',q1,q2,q3,q4,h⟩
 ·have hr':aY g' (.sl s true []) r:=by obtain⟨o',ho'⟩:=fj q4;rw[ho'];exact .nil _ _ _ _ fun _=>rfl
  obtain⟨l,g2,hle,hne,hR,hA⟩:=q3.rU hs hr' (.arr s []) (.inr ⟨rfl,rfl⟩);exact⟨r,g2,_,_,q1,q2.trans hle,hR,hA,h l (dG hne)⟩
theorem OD{f:FuncId}{args:List DV}{S:St}{xs:List DV}(s:Nat)(hs:0<s)(h:ab P w0 f args S fun d S'=>(xs=[]∧(∃s0,d= .sl s0 true [])∧S'=S)∨∃l:FN S.acc,d= .acc l.n xs.length∧S'=⟨S.box,(l.n,.arr s xs)::S.acc⟩):
 ab P w0 f args S fun d S'=>∃l:FN S.acc,d= .acc l.n xs.length∧S'=⟨S.box,(l.n,.arr s xs)::S.acc⟩:=by
 refine iB h s hs ?_;rintro d S' (⟨rfl,⟨s0,rfl⟩,rfl⟩|h)
 ·exact .inr ⟨⟨s0,rfl⟩,fun l hl=>⟨⟨l,hl⟩,rfl,rfl⟩⟩
 ·exact .inl h
end
attribute [go_sem high] qf TQ Uz
attribute [go_sem low] VV TY
attribute [go_sem] UP UT Vt NI PJ qu Ww PQ UE QW Ul
attribute [go_sem ↓] HP Fl
structure Wr(P:Prop):Prop where
 h:P
theorem aa(P:Prop)(w:Wr P):P:=w.h
theorem af{P Q:Prop}(q:Q)(e:(P↔Q):=by simp(maxDischargeDepth:=12) (maxSteps:=1000000) -implicitDefEqProofs only[go_sem,Nat.reduceAdd,Nat.reduceSub,Nat.reduceMul,Nat.reduceLeDiff,Nat.reduceEqDiff,Nat.reduceGT,Nat.reduceBEq,reduceCtorEq,↓reduceIte,Int.reduceToNat,Int.reduceLE,Int.reduceLT,Int.reduceNe,Int.reduceEq] <;>exact afp):Wr P:=⟨Iff.mpr e q⟩
theorem aF{P:Prop}(e:(P↔True):=by simp(maxDischargeDepth:=12) (maxSteps:=1000000) -implicitDefEqProofs only[go_sem,Nat.reduceAdd,Nat.reduceSub,Nat.reduceMul,Nat.reduceLeDiff,Nat.reduceEqDiff,Nat.reduceGT,Nat.reduceBEq,reduceCtorEq,↓reduceIte,Int.reduceToNat,Int.reduceLE,Int.reduceLT,Int.reduceNe,Int.reduceEq]):Wr P:=⟨of_iff_true e⟩
theorem ai{X1 P Q:Prop}(x1:X1)(q:Q)(e:X1→(P↔Q):=by intro z1;simp(maxDischargeDepth:=12) (maxSteps:=1000000) -implicitDefEqProofs only[go_sem,Nat.reduceAdd,Nat.reduceSub,Nat.reduceMul,Nat.reduceLeDiff,Nat.reduceEqDiff,Nat.reduceGT,Nat.reduceBEq,reduceCtorEq,↓reduceIte,Int.reduceToNat,Int.reduceLE,Int.reduceLT,Int.reduceNe,Int.reduceEq,z1] <;>exact afp):Wr P:=⟨Iff.mpr (e x1) q⟩
theorem jd{X1 P:Prop}(x1:X1)(e:X1→(P↔True):=by intro z1;simp(maxDischargeDepth:=12) (maxSteps:=1000000) -implicitDefEqProofs only[go_sem,Nat.reduceAdd,Nat.reduceSub,Nat.reduceMul,Nat.reduceLeDiff,Nat.reduceEqDiff,Nat.reduceGT,Nat.reduceBEq,reduceCtorEq,↓reduceIte,Int.reduceToNat,Int.reduceLE,Int.reduceLT,Int.reduceNe,Int.reduceEq,z1]):Wr P:=⟨of_iff_true (e x1)⟩
theorem aM{X1 X2 P Q:Prop}(x1:X1)(x2:X2)(q:Q)(e:X1→X2→(P↔Q):=by intro z1 z2;simp(maxDischargeDepth:=12) (maxSteps:=1000000) -implicitDefEqProofs only[go_sem,Nat.reduceAdd,Nat.reduceSub,Nat.reduceMul,Nat.reduceLeDiff,Nat.reduceEqDiff,Nat.reduceGT,Nat.reduceBEq,reduceCtorEq,↓reduceIte,Int.reduceToNat,Int.reduceLE,Int.reduceLT,Int.reduceNe,Int.reduceEq,z1,z2] <;>exact afp):Wr P:=⟨Iff.mpr (e x1 x2) q⟩
theorem iX{X1 X2 P:Prop}(x1:X1)(x2:X2)(e:X1→X2→(P↔True):=by intro z1 z2;simp(maxDischargeDepth:=12) (maxSteps:=1000000) -implicitDefEqProofs only[go_sem,Nat.reduceAdd,Nat.reduceSub,Nat.reduceMul,Nat.reduceLeDiff,Nat.reduceEqDiff,Nat.reduceGT,Nat.reduceBEq,reduceCtorEq,↓reduceIte,Int.reduceToNat,Int.reduceLE,Int.reduceLT,Int.reduceNe,Int.reduceEq,z1,z2]):Wr P:=⟨of_iff_true (e x1 x2)⟩
theorem eE{X1 X2 X3 P Q:Prop}(x1:X1)(x2:X2)(x3:X3)(q:Q)(e:X1→X2→X3→(P↔Q):=by intro z1 z2 z3;simp(maxDischargeDepth:=12) (maxSteps:=1000000) -implicitDefEqProofs only[go_sem,Nat.reduceAdd,Nat.reduceSub,Nat.reduceMul,Nat.reduceLeDiff,Nat.reduceEqDiff,Nat.reduceGT,Nat.reduceBEq,reduceCtorEq,↓reduceIte,Int.reduceToNat,Int.reduceLE,Int.reduceLT,Int.reduceNe,Int.reduceEq,z1,z2,z3] <;>exact afp):Wr P:=⟨Iff.mpr (e x1 x2 x3) q⟩
theorem Y9{X1 X2 X3 P:Prop}(x1:X1)(x2:X2)(x3:X3)(e:X1→X2→X3→(P↔True):=by intro z1 z2 z3;simp(maxDischargeDepth:=12) (maxSteps:=1000000) -implicitDefEqProofs only[go_sem,Nat.reduceAdd,Nat.reduceSub,Nat.reduceMul,Nat.reduceLeDiff,Nat.reduceEqDiff,Nat.reduceGT,Nat.reduceBEq,reduceCtorEq,↓reduceIte,Int.reduceToNat,Int.reduceLE,Int.reduceLT,Int.reduceNe,Int.reduceEq,z1,z2,z3]):Wr P:=⟨of_iff_true (e x1 x2 x3)⟩
theorem sL{X1 X2 X3 X4 P Q:Prop}(x1:X1)(x2:X2)(x3:X3)(x4:X4)(q:Q)(e:X1→X2→X3→X4→(P↔Q):=by intro z1 z2 z3 z4;simp(maxDischargeDepth:=12) (maxSteps:=1000000) -implicitDefEqProofs only[go_sem,Nat.reduceAdd,Nat.reduceSub,Nat.reduceMul,Nat.reduceLeDiff,Nat.reduceEqDiff,Nat.reduceGT,Nat.reduceBEq,reduceCtorEq,↓reduceIte,Int.reduceToNat,Int.reduceLE,Int.reduceLT,Int.reduceNe,Int.reduceEq,z1,z2,z3,z4] <;>exact afp):Wr P:=⟨Iff.mpr (e x1 x2 x3 x4) q⟩
theorem rn{X1 X2 X3 X4 X5 P Q:Prop}(x1:X1)(x2:X2)(x3:X3)(x4:X4)(x5:X5)(q:Q)(e:X1→X2→X3→X4→X5→(P↔Q):=by intro z1 z2 z3 z4 z5;simp(maxDischargeDepth:=12) (maxSteps:=1000000) -implicitDefEqProofs only[go_sem,Nat.reduceAdd,Nat.reduceSub,Nat.reduceMul,Nat.reduceLeDiff,Nat.reduceEqDiff,Nat.reduceGT,Nat.reduceBEq,reduceCtorEq,↓reduceIte,Int.reduceToNat,Int.reduceLE,Int.reduceLT,Int.reduceNe,Int.reduceEq,z1,z2,z3,z4,z5] <;>exact afp):Wr P:=⟨Iff.mpr (e x1 x2 x3 x4 x5) q⟩
theorem ov{X1 X2 X3 X4 X5 X6 P Q:Prop}(x1:X1)(x2:X2)(x3:X3)(x4:X4)(x5:X5)(x6:X6)(q:Q)(e:X1→X2→X3→X4→X5→X6→(P↔Q):=by intro z1 z2 z3 z4 z5 z6;simp(maxDischargeDepth:=12) (maxSteps:=1000000) -implicitDefEqProofs only[go_sem,Nat.reduceAdd,Nat.reduceSub,Nat.reduceMul,Nat.reduceLeDiff,Nat.reduceEqDiff,Nat.reduceGT,Nat.reduceBEq,reduceCtorEq,↓reduceIte,Int.reduceToNat,Int.reduceLE,Int.reduceLT,Int.reduceNe,Int.reduceEq,z1,z2,z3,z4,z5,z6] <;>exact afp):Wr P:=⟨Iff.mpr (e x1 x2 x3 x4 x5 x6) q⟩
theorem aak{X1 X2 X3 X4 X5 X6 X7 P Q:Prop}(x1:X1)(x2:X2)(x3:X3)(x4:X4)(x5:X5)(x6:X6)(x7:X7)(q:Q)(e:X1→X2→X3→X4→X5→X6→X7→(P↔Q):=by intro z1 z2 z3 z4 z5 z6 z7;simp(maxDischargeDepth:=12) (maxSteps:=1000000) -implicitDefEqProofs only[go_sem,Nat.reduceAdd,Nat.reduceSub,Nat.reduceMul,Nat.reduceLeDiff,Nat.reduceEqDiff,Nat.reduceGT,Nat.reduceBEq,reduceCtorEq,↓reduceIte,Int.reduceToNat,Int.reduceLE,Int.reduceLT,Int.reduceNe,Int.reduceEq,z1,z2,z3,z4,z5,z6,z7] <;>exact afp):Wr P:=⟨Iff.mpr (e x1 x2 x3 x4 x5 x6 x7) q⟩
theorem Rs{X1 X2 X3 X4 X5 X6 X7 X8 P Q:Prop}(x1:X1)(x2:X2)(x3:X3)(x4:X4)(x5:X5)(x6:X6)(x7:X7)(x8:X8)(q:Q)(e:X1→X2→X3→X4→X5→X6→X7→X8→(P↔Q):=by intro z1 z2 z3 z4 z5 z6 z7 z8;simp(maxDischargeDepth:=12) (maxSteps:=1000000) -implicitDefEqProofs only[go_sem,Nat.reduceAdd,Nat.reduceSub,Nat.reduceMul,Nat.reduceLeDiff,Nat.reduceEqDiff,Nat.reduceGT,Nat.reduceBEq,reduceCtorEq,↓reduceIte,Int.reduceToNat,Int.reduceLE,Int.reduceLT,Int.reduceNe,Int.reduceEq,z1,z2,z3,z4,z5,z6,z7,z8] <;>exact afp):Wr P:=⟨Iff.mpr (e x1 x2 x3 x4 x5 x6 x7 x8) q⟩
end Aml
namespace Aml
open Go Go.RowKit
section
variable {P:Program} {w0:W0}
theorem rz(ss:List Nat:=[]){f:FuncId}{fn:Func}{c:Code}{rs:List ResultVar}{args:List DV}{S:St}{K:DV→St→Prop}(hm:P.follows .mixedOrders=true)(hf:P.funcs[f]? =some fn)(hb:fn.body=some c)(hrs:fn.results=rs.toArray)(hc:sj ss c=true)
 (h:vw P w0 ss c (fU (args++List.replicate (fn.ntmps-args.length) ud)) S fun e fr S'=>(e= .normal∨e= .ret)∧wi P fr S' rs fun d=>∃d' S'',Wk d d'∧Sub S'' S'∧K d' S''):ab P w0 f args S K:=by
 have h1:ab P w0 f args S (fun d S'=>∃d' S'',Wk d d'∧Sub S'' S'∧K d' S''):=vX hf hb hrs (df hm c hc h);intro g vs w k1 k2;refine(h1 g vs w k1 k2).mono ?_;rintro e w' ⟨v,g',d,S',q1,q2,q3,q4,d',S'',p1,p2,p3⟩;exact⟨v,g',d',S'',q1,q2,q3.forget p2.box p2.acc,p1 _ _ q4,p3⟩
theorem y7(b:Nat)(ds':List DV){ds:List DV}{c:Code}{fr:List DV}{S:St}{Q:Exit→List DV→St→Prop}(hb:lk S.box b=some ds)(hw:fV ds ds')(h:gF P w0 c fr ⟨up S.box b ds',S.acc⟩ Q):gF P w0 c fr S Q:=
 fun g a w h1 h2 h3=>h g a w (h1.M7 hb fun _ _ _ r=>hw.spec r) h2 h3
end
end Aml
namespace Aml
open Go Go.RowKit
def kX:Op→Nat
 | .load ..=>1
 | .alloc _=>2
 | .call c=>match c.callee with
  | .value _=>1
  | .builtin .len=>0
  | .builtin .cap=>0
  | .builtin .min=>0
  | .builtin .max=>0
  |_=>3
 | .move _=>0
 | .assign _=>0
 | .pick ..=>0
 | .fieldAddr ..=>0
 | .indexAddr ..=>0
 | .index ..=>0
 | .field ..=>0
 | .extract ..=>0
 | .nilCheck _=>0
 | .binOp ..=>0
 | .unOp ..=>0
 | .convert ..=>0
 | .makeInterface ..=>0
 | .makeFunc ..=>0
 | .slice ..=>0
 | .build ..=>0
 | .buildSlice ..=>0
 |_=>3
def Fr(S:St)(B:List (Nat×List DV)):Prop:=∀x,x∈B→jF S.box x.1
def fI(P:Program)(w0:W0)(o:Oper)(fr:List DV)(S:St)(K:List DV→St→Prop):Prop:=
 (kX o.op=0∧∃d,(∀S',QY P w0 S' o fr d)∧K (pt fr o.dst d) S)∨
 (kX o.op=1∧∃d,(∀B,Fr S B→QY P w0 ⟨B++S.box,S.acc⟩ o fr d)∧K (pt fr o.dst d) S)∨
 (kX o.op=2∧∃t,o.op= .alloc t∧fk (zD P t)=true∧∀b,jF S.box b→K (pt fr o.dst (.v (.pointer (some ⟨b,0,none⟩)))) ⟨(b,cd (zD P t))::S.box,S.acc⟩)∨
 (kX o.op=3∧au P w0 o (ev fr) S fun d S'=>K (pt fr o.dst d) S')
def gg(P:Program)(w0:W0)(ops:Array Oper)(o:Oper)(fr:List DV)(S:St)(K:List DV→St→Prop):Prop:=
 (eg ops fr o.guard=some true∧fI P w0 o fr S K)∨(eg ops fr o.guard=some false∧K (pt fr o.dst ud) S)
def od(a b:Nat):Bool:=a==0||(a==1&&decide (b<3))
section
variable {P:Program} {w0:W0} {ops:Array Oper} {md:Region.Mode}
theorem j1{o:Oper}{fr:List DV}{S:St}{K K':List DV→St→Prop}(h:∀fr S,K fr S→K' fr S)(b:fI P w0 o fr S K):fI P w0 o fr S K':=by
 rcases b with⟨c,d,q,k⟩|⟨c,d,q,k⟩|⟨c,t,ht,hz,k⟩|⟨c,q⟩
 ·exact .inl ⟨c,d,q,h _ _ k⟩
 ·exact .inr (.inl ⟨c,d,q,h _ _ k⟩)
 ·exact .inr (.inr (.inl ⟨c,t,ht,hz,fun b hb=>h _ _ (k b hb)⟩))
 ·exact .inr (.inr (.inr ⟨c,bd (fun d S hk=>h _ _ hk) q⟩))
theorem iF{o:Oper}{fr:List DV}{S:St}{K K':List DV→St→Prop}(h:∀fr S,K fr S→K' fr S)(b:gg P w0 ops o fr S K):gg P w0 ops o fr S K':=
 b.imp (fun⟨a,b⟩=>⟨a,j1 h b⟩) fun⟨a,b⟩=>⟨a,h _ _ b⟩
theorem rL{o:Oper}{fr:List DV}{S:St}{K:List DV→St→Prop}{dst:Option Tmp}{e:DV}(h1:∀t,dst=some t→t∉o.looksAt ops)(h2:∀t,dst=some t→o.dst≠some t):
 fI P w0 o (pt fr dst e) S K↔fI P w0 o fr S fun fr' S'=>K (pt fr' dst e) S':=by
 have hq:∀S d,QY P w0 S o (pt fr dst e) d↔QY P w0 S o fr d:=fun S d=>
  ⟨bg (fun x hx=>fN (ops:=ops) h1 x hx),bg (fun x hx=>(fN (ops:=ops) h1 x hx).symm)⟩
 have hc:∀d,pt (pt fr dst e) o.dst d=pt (pt fr o.dst d) dst e:=fun d=>kS fr e d h2
 have hy:∀K,au P w0 o (ev (pt fr dst e)) S K↔au P w0 o (ev fr) S K:=fun K=>
  ⟨bg (fun x hx=>fN (ops:=ops) h1 x hx),bg (fun x hx=>(fN (ops:=ops) h1 x hx).symm)⟩
 unfold fI;simp only[hq,hc,hy]
theorem jW{o:Oper}{fr:List DV}{S:St}{K:List DV→St→Prop}{dst:Option Tmp}{e:DV}(h1:∀t,dst=some t→t∉o.looksAt ops)(h2:∀t,dst=some t→o.dst≠some t):
 gg P w0 ops o (pt fr dst e) S K↔gg P w0 ops o fr S fun fr' S'=>K (pt fr' dst e) S':=by
 unfold gg;rw[jb h1,rL h1 h2,kS fr e ud h2]
theorem nm{o:Oper}{fr:List DV}{S:St}{K K':List DV→St→Prop}(h:∀e S,K (pt fr o.dst e) S→K' (pt fr o.dst e) S)(b:fI P w0 o fr S K):fI P w0 o fr S K':=by
 rcases b with⟨c,d,q,k⟩|⟨c,d,q,k⟩|⟨c,t,ht,hz,k⟩|⟨c,q⟩
 ·exact .inl ⟨c,d,q,h _ _ k⟩
 ·exact .inr (.inl ⟨c,d,q,h _ _ k⟩)
 ·exact .inr (.inr (.inl ⟨c,t,ht,hz,fun b hb=>h _ _ (k b hb)⟩))
 ·exact .inr (.inr (.inr ⟨c,bd (fun d S hk=>h _ _ hk) q⟩))
theorem kz{o:Oper}{fr:List DV}{S:St}{K K':List DV→St→Prop}(h:∀e S,K (pt fr o.dst e) S→K' (pt fr o.dst e) S)(b:gg P w0 ops o fr S K):gg P w0 ops o fr S K':=
 b.imp (fun⟨a,b⟩=>⟨a,nm h b⟩) fun⟨a,b⟩=>⟨a,h _ _ b⟩
theorem sB{x y:Oper}(hap:x.apart ops y=true)(hk:od (kX x.op) (kX y.op)=true){fr:List DV}{S:St}{K:List DV→St→Prop}(h:gg P w0 ops x fr S fun fr S=>gg P w0 ops y fr S K):
 gg P w0 ops y fr S fun fr S=>gg P w0 ops x fr S K:=by
 obtain⟨b1,b2,b3⟩:=Oper.apart_spec hap;have hw:∀e,eg ops (pt fr y.dst e) x.guard=eg ops fr x.guard:=fun e=>jb b3;have hq:∀{S d e},QY P w0 S x fr d→QY P w0 S x (pt fr y.dst e) d:=fun{S d e} q=>bg (fun z hz=>(fN (ops:=ops) b3 z hz).symm) q;rcases h with⟨hg,hb⟩|⟨hg,hb⟩
 ·rcases hb with⟨c,d,q,k⟩|⟨c,d,q,k⟩|⟨c, -⟩|⟨c, -⟩
  ·rw[jW b1 b2]at k;exact kz (fun e S' hk=> .inl ⟨by rw[hw];exact hg,.inl ⟨c,d,fun S''=>hq (q S''),hk⟩⟩) k
  ·rw[jW b1 b2]at k;rcases k with⟨g2,k⟩|⟨g2,k⟩
   ·rcases k with⟨c2,d2,q2,k⟩|⟨c2,d2,q2,k⟩|⟨c2,t,ht,hz,k⟩|⟨c2, -⟩
    ·exact .inl ⟨g2,.inl ⟨c2,d2,q2,.inl ⟨by rw[hw];exact hg,.inr (.inl ⟨c,d,fun B hB=>hq (q B hB),k⟩)⟩⟩⟩
    ·exact .inl ⟨g2,.inr (.inl ⟨c2,d2,q2,.inl ⟨by rw[hw];exact hg,.inr (.inl ⟨c,d,fun B hB=>hq (q B hB),k⟩)⟩⟩)⟩
    ·refine .inl ⟨g2,.inr (.inr (.inl ⟨c2,t,ht,hz,fun b hb=> .inl ⟨by rw[hw];exact hg,.inr (.inl ⟨c,d,fun B hB=>hq ?_,k b hb⟩)⟩⟩))⟩
     have:=q (B++[(b,cd (zD P t))]) fun z hz'=>by
      rcases abD.1 hz' with h|h
      ·exact(hB z h).2.2
      ·simp only[acz]at h;subst h;exact hb
     rw[abA]at this;exact this
    ·rw[c,c2]at hk;exact absurd hk (by decide)
   ·exact .inr ⟨g2,.inl ⟨by rw[hw];exact hg,.inr (.inl ⟨c,d,fun B hB=>hq (q B hB),k⟩)⟩⟩
  ·rw[c]at hk;simp[od]at hk
  ·rw[c]at hk;simp[od]at hk
 ·rw[jW b1 b2]at hb;exact kz (fun e S' hk=> .inr ⟨by rw[hw];exact hg,hk⟩) hb
def mc(P:Program)(w0:W0)(ops:Array Oper)(i:Nat)(fr:List DV)(S:St)(K:List DV→St→Prop):Prop:=match ops[i]? with
 |none=>K fr S
 |some o=>gg P w0 ops o fr S K
def Jz(P:Program)(w0:W0)(md:Region.Mode)(ops:Array Oper)(K:List DV→St→Prop):Nat→Array Bool→List DV→St→Prop
 |0,listed,fr,S=>Region.ready md ops listed=[]∧K fr S
 |fuel+1,listed,fr,S=>(Region.ready md ops listed=[]→K fr S)∧∀i∈Region.ready md ops listed,mc P w0 ops i fr S (Jz P w0 md ops K fuel (listed.setIfInBounds i true))
theorem sg{K:List DV→St→Prop}{i:Nat}{oi:Oper}(hi:ops[i]? =some oi):
 ∀(fuel:Nat) (listed:Array Bool) (fr:List DV) (S:St),
  (∀j oj,ops[j]? =some oj→j≠i→listed.getD j true=false→(∀e∈oj.after,Region.binds md e=true→e.on≠i)→oi.apart ops oj=true∧od (kX oi.op) (kX oj.op)=true)→
  (∀l:List Nat,l.Nodup→(∀k,k∈l→listed.getD k true=false)→l.length≤fuel+1)→
  i∈Region.ready md ops listed→gg P w0 ops oi fr S (Jz P w0 md ops K fuel (listed.setIfInBounds i true))→Jz P w0 md ops K (fuel+1) listed fr S:=by
 intro fuel
 induction fuel with
 |zero=>
  intro listed fr S _ hcnt hr H;refine⟨fun h=>(by rw[h]at hr;cases hr),fun j hj=>?_⟩;by_cases hji:j=i
  ·subst hji;unfold mc;simp only[hi];exact H
  ·exfalso
   have:=hcnt [i,j] (by simp[Ne.symm hji]) fun k hk=>by
    simp only[ab6,afJ,or_false]at hk;rcases hk with rfl|rfl
    ·exact(mem_ready.1 hr).1
    ·exact(mem_ready.1 hj).1
   simp at this
 |succ fuel ih=>
  intro listed fr S hfree hcnt hr H;refine⟨fun h=>(by rw[h]at hr;cases hr),fun j hj=>?_⟩;by_cases hji:j=i
  ·subst hji;unfold mc;simp only[hi];exact H
  ·obtain⟨hjun,oj,hoj,hall⟩:=mem_ready.1 hj
   have hnot:∀e∈oj.after,Region.binds md e=true→e.on≠i:=fun e he hb heq=>by
    have h1:=hall e he hb;have h0:=(mem_ready.1 hr).1;rw[heq]at h1;rcases adR i listed.size with h'|h'
    ·simp[h']at h0 h1;rw[h0]at h1;cases h1
    ·simp[aek h']at h1
   have h1:gg P w0 ops oi fr S fun fr S=>gg P w0 ops oj fr S (Jz P w0 md ops K fuel ((listed.setIfInBounds i true).setIfInBounds j true)):=
    iF (fun fr S h=>by
     have:=h.2 j (ready_mono hj hji);unfold mc at this;simp only[hoj]at this;exact this) H
   have hc:=hfree j oj hoj hji hjun hnot;have h2:=sB hc.1 hc.2 h1
   have hfree':∀k ok,ops[k]? =some ok→k≠i→(listed.setIfInBounds j true).getD k true=false→
    (∀e∈ok.after,Region.binds md e=true→e.on≠i)→oi.apart ops ok=true∧od (kX oi.op) (kX ok.op)=true:=fun k ok hk hki hun hno=>by
    refine hfree k ok hk hki ?_ hno;by_cases hjk:j=k
    ·subst hjk;exact hjun
    ·rw[getD_set_ne true hjk]at hun;exact hun
   unfold mc;simp only[hoj]
   have hcnt':∀l:List Nat,l.Nodup→(∀k,k∈l→(listed.setIfInBounds j true).getD k true=false)→l.length≤fuel+1:=by
    intro l hn hl
    have hjs:j<listed.size:=by
     rcases adR j listed.size with h|h
     ·exact h
     ·rw[adW,aek h]at hjun;cases hjun
    have hjl:j∉l:=fun hj=>by
     have:=hl j hj;rw[adW,ad1]at this;simp[hjs]at this
    have:=hcnt (j::l) (aec.2 ⟨hjl,hn⟩) fun k hk=>by
     rcases ab6.1 hk with rfl|hk
     ·exact hjun
     ·have:=hl k hk;rw[getD_set_ne true (show j≠k from fun e=>hjl (e▸hk))]at this;exact this
    simp at this;omega
   refine iF (fun fr S h=>ih (listed.setIfInBounds j true) fr S hfree' hcnt' (ready_mono hr (Ne.symm hji)) ?_) h2;rw[afH _ _ hji];exact h
def Ag(md:Region.Mode)(ops:Array Oper)(listed:Array Bool)(i:Nat):Bool:=(List.range ops.size).all fun j=>match ops[i]?,ops[j]? with
 |some oi,some oj=>j==i||listed.getD j true||oj.after.any (fun e=>Region.binds md e&&e.on==i)||(oi.apart ops oj&&od (kX oi.op) (kX oj.op))
 |_,_=>false
def sw(md:Region.Mode)(ops:Array Oper):Nat→Nat→Array Bool→Bool
 |0,_,listed=>(Region.ready md ops listed).isEmpty
 |n+1,k,listed=>(Region.ready md ops listed).contains k&&Ag md ops listed k&&sw md ops n (k+1) (listed.setIfInBounds k true)
theorem pv{listed:Array Bool}{i:Nat}{oi:Oper}(hi:ops[i]? =some oi)(h:Ag md ops listed i=true):∀j oj,ops[j]? =some oj→j≠i→listed.getD j true=false→(∀e∈oj.after,Region.binds md e=true→e.on≠i)→oi.apart ops oj=true∧od (kX oi.op) (kX oj.op)=true:=by
 intro j oj hj hji hun hno;have hlt:j<ops.size:=(abF.1 hj).1;have:=adY.1 h j (aeF.2 hlt);simp only[hi,hj,hun,Bool.or_false,ael,beq_iff_eq,abG]at this;rcases this with(h|h)|h
 ·exact absurd h hji
 ·exfalso
  obtain⟨e,he,h⟩:=afQ.1 h;simp only[abG,beq_iff_eq]at h;exact hno e he h.1 h.2
 ·exact h
def LX(P:Program)(w0:W0)(ops:Array Oper)(K:List DV→St→Prop):List Oper→List DV→St→Prop
 |[],fr,S=>K fr S
 |o::rest,fr,S=>gg P w0 ops o fr S (LX P w0 ops K rest)
theorem qg{K:List DV→St→Prop}:∀(l:List Oper) (k:Nat) (listed:Array Bool) (fr:List DV) (S:St),(∀j,l[j]? =ops[k+j]?)→
 (∀l':List Nat,l'.Nodup→(∀k,k∈l'→listed.getD k true=false)→l'.length≤l.length)→
 sw md ops l.length k listed=true→LX P w0 ops K l fr S→Jz P w0 md ops K l.length listed fr S
 |[],_,_,_,_,_,_,hB,h=>⟨by simpa[sw]using hB,h⟩
 |o::l,k,listed,fr,S,hl,hcnt,hB,h=>by
  have h0:ops[k]? =some o:=by simpa using(hl 0).symm
  simp only[abx,sw,abG]at hB;obtain⟨⟨hr,hf⟩,hB'⟩:=hB;have hr':k∈Region.ready md ops listed:=by simpa using hr
  have hun:=(mem_ready.1 hr').1;refine sg h0 l.length listed fr S (pv h0 hf) (by simpa using hcnt) hr' ?_;refine iF (fun fr S h=>qg l (k+1) _ fr S (fun j=>by have:=hl (j+1);simpa[aex,aeO 1 j]using this) ?_ hB' h) h;intro l' hn hl'
  have hks:k<listed.size:=by
   rcases adR k listed.size with h|h
   ·exact h
   ·rw[adW,aek h]at hun;cases hun
  have hkl:k∉l':=fun hk=>by
   have:=hl' k hk;rw[adW,ad1]at this;simp[hks]at this
  have:=hcnt (k::l') (aec.2 ⟨hkl,hn⟩) fun m hm=>by
   rcases ab6.1 hm with rfl|hm
   ·exact hun
   ·have:=hl' m hm;rw[getD_set_ne true (show k≠m from fun e=>hkl (e▸hm))]at this;exact this
  simp at this;omega
theorem mP{o:Oper}{fr:List DV}{S:St}{K:List DV→St→Prop}(h:fI P w0 o fr S K):au P w0 o (ev fr) S fun d S'=>K (pt fr o.dst d) S':=by
 rcases h with⟨c,d,q,k⟩|⟨c,d,q,k⟩|⟨c,t,ht,hz,k⟩|⟨c,q⟩
 ·exact bd (fun d' S' h=>by rw[h.1,h.2];exact k) (q S)
 ·have:=q [] (fun x hx=>by cases hx);exact bd (fun d' S' h=>by rw[h.1,h.2];exact k) this
 ·exact tP ht ⟨hz,k⟩
 ·exact q
theorem fi{ro:Option Nat}{g0:Gh}{Q:Exit→List DV→St→Prop}:∀(fuel:Nat) (listed:Array Bool) (fr:List DV) (S:St) (g:Gh) (a:Act) (w:World),g0.le g→Rel w0 g S w→aq g fr a.tmps.toList→Dk w0 g.obj a w→
 Jz P w0 md ops (fun fr S=>Q .normal fr S) fuel listed fr S→wpAnyIn (fz ro) 0 P md ops (Good w0 g0 Q) fuel listed a w
 |0,listed,fr,S,g,a,w,k,h1,h2,h3,h=>⟨h.1,k.kd h3,g,fr,S,k,h1,h2,h.2⟩
 |fuel+1,listed,fr,S,g,a,w,k,h1,h2,h3,h=>by
  refine⟨fun h0=>⟨k.kd h3,g,fr,S,k,h1,h2,h.1 h0⟩,fun i hi=>?_⟩;have hq:=h.2 i hi;unfold mc at hq;unfold wpOpIn;split
  ·rename_i ho;simp only[ho]at hq;exact fi fuel _ fr S g a w k h1 h2 h3 hq
  ·rename_i o ho;simp only[ho]at hq;rcases hq with⟨hw,hb⟩|⟨hw,hk⟩
   ·have hw':=fh (o:=o) h2 hw;rw[if_pos hw'];refine eJ (mP hb) h1 (fun x _=>nZ h2 x) h3 fun g' d' u S' w' k1 k2 k3 k4 k5=>?_;exact fi fuel _ _ _ g' _ _ (k.trans k1) k2 (eo (h2.mono k1) _ k3) (k1.dk k5) k4
   ·have hw':=fh (o:=o) h2 hw;rw[if_neg (by simp[hw'])];exact⟨fun _ _=>trivial,fi fuel _ _ _ g _ _ k h1 (eo h2 _ (kG g)) (h3.keep (put_defers _ _ _) fun _ _ h _=>h) hk⟩
theorem sc{id:Nat}{l:List Oper}{fr:List DV}{S:St}{Q:Exit→List DV→St→Prop}(hm:P.follows .mixedOrders=true)(hB:sw .any l.toArray l.length 0 (Array.replicate l.length false)=true)(h:LX P w0 l.toArray (fun fr S=>Q .normal fr S) l fr S):gF P w0 (.region id l.toArray true) fr S Q:=by
 intro g a w h1 h2 h3;refine ie hm fun ro=>?_;have hR:Rel w0 g S {w with drawn:=w.drawn+1}:=h1.grow (mT w)
 have hcnt:∀l':List Nat,l'.Nodup→(∀k,k∈l'→(Array.replicate l.length false).getD k true=false)→l'.length≤l.length:=by
  intro l' hn hl
  have hsub:∀k,k∈l'→k∈List.range l.length:=fun k hk=>by
   have:=hl k hk;rw[aeF];rcases adR k l.length with h|h
   ·exact h
   ·rw[adW,aek (by simpa using h)]at this;cases this
  have:=hn.length_le_of_subset (l₂:=List.range l.length) hsub;simpa using this
 have:=qg (P:=P) (w0:=w0) (md:= .any) (ops:=l.toArray) l 0 (Array.replicate l.length false) fr S (by simp) hcnt hB h;have:=fi (ro:=ro) (g0:=g) (Q:=Q) _ _ fr S g a _ (.refl g) hR h2 (h3.keep rfl fun _ _ h _=>h) this;simpa using this
theorem p8{op:Op}(hk:kX op=0){fr:List DV}{S:St}{K:DV→Prop}(h:aL P w0 op fr S K):∃d,(∀S',aL P w0 op fr S' (·=d))∧K d:=by
 cases op with
 |move x=>exact⟨_,fun _=>rfl,h⟩
 |assign x=>exact⟨_,fun _=>rfl,h⟩
 |pick c a b=>obtain⟨d,q1,q2⟩:=vt h;exact⟨d,fun _=>q1,q2⟩
 |fieldAddr t x f=>obtain⟨d,q1,q2⟩:=sy h;exact⟨d,fun _=>q1,q2⟩
 |indexAddr t x i=>obtain⟨d,q1,q2⟩:=F2 h;exact⟨d,fun _=>q1,q2⟩
 |index t x i=>obtain⟨d,q1,q2⟩:=rC h;exact⟨d,fun _=>q1,q2⟩
 |field t x f=>obtain⟨d,q1,q2⟩:=pP h;exact⟨d,fun _=>q1,q2⟩
 |extract x i=>obtain⟨d,q1,q2⟩:=nE h;exact⟨d,fun _=>q1,q2⟩
 |nilCheck x=>exact⟨_,fun _=>⟨h.1,rfl⟩,h.2⟩
 |binOp b t x y t'=>obtain⟨d,q1,q2⟩:=vJ h.2;exact⟨d,fun _=>⟨h.1,q1⟩,q2⟩
 |unOp b t x=>obtain⟨d,q1,q2⟩:=Fx h;exact⟨d,fun _=>q1,q2⟩
 |convert s d x=>obtain⟨d,q1,q2⟩:=vL h;exact⟨d,fun _=>q1,q2⟩
 |makeInterface t x=>exact⟨_,fun _=>⟨h.1,h.2.1,rfl⟩,h.2.2⟩
 |makeFunc fn a b=>obtain⟨d,q1,q2⟩:=ur h;exact⟨d,fun _=>q1,q2⟩
 |slice t x lo hi mx=>obtain⟨d,q1,q2⟩:=r8 h.2.2;exact⟨d,fun _=>⟨h.1,h.2.1,q1⟩,q2⟩
 |build t parts=>obtain⟨d,q1,q2⟩:=rI h.2;exact⟨d,fun _=>⟨h.1,q1⟩,q2⟩
 |buildSlice t len parts=>obtain⟨d,q1,q2⟩:=kC h.2;exact⟨d,fun _=>⟨h.1,q1⟩,q2⟩
 |call c=>
  obtain⟨callee,args,ts⟩:=c;simp only[aL]at h ⊢;split at h
  ·split at h
   ·obtain⟨d,q1,q2⟩:=zB h;exact⟨d,fun _=>by simpa using q1,q2⟩
   ·exact h.elim
  ·split at h
   ·obtain⟨d,q1,q2⟩:=yu h;exact⟨d,fun _=>by simpa using q1,q2⟩
   ·exact h.elim
  ·split at h
   ·obtain⟨d,q1,q2⟩:=yX h;exact⟨d,fun _=>by simpa using q1,q2⟩
   ·exact h.elim
  ·split at h
   ·obtain⟨d,q1,q2⟩:=zh h;exact⟨d,fun _=>by simpa using q1,q2⟩
   ·exact h.elim
  ·cases hk
  ·cases hk
  ·exact h.elim
 |_=>first|exact h.elim|cases hk
theorem D7{S:St}{B:List (Nat×List DV)}(hB:Fr S B){b:Nat}{ds:List DV}(h:lk S.box b=some ds):lk (B++S.box) b=some ds:=by
 induction B with
 |nil=>exact h
 |cons x B ih=>
  have h1:=hB x aaX;have hne:¬x.1=b:=fun e=>by rw[e]at h1;rw[n0 h1]at h;cases h
  obtain⟨k,y⟩:=x;show lk ((k,y)::(B++S.box)) b=_;rw[qQ hne];exact ih fun z hz=>hB z (abn _ hz)
theorem uo{k:TK}{S:St}{x:DV}{K:DV→Prop}{B:List (Nat×List DV)}(hB:Fr S B)(h:cn k S x K):cn k ⟨B++S.box,S.acc⟩ x K:=by
 unfold cn at*;split at h
 ·split at h
  ·rename_i ds hb;simp only[D7 hB hb];exact h
  ·exact h.elim
 ·exact h
 ·exact h
 ·exact h.elim
end
def QX(P:Program)(w0:W0)(f:FuncId)(ds:List DV)(S:St)[K:Cn (DV→Prop)]:Prop:=∃d,(∀B,Fr S B→ab P w0 f ds ⟨B++S.box,S.acc⟩ fun d' S'=>d'=d∧S'=⟨B++S.box,S.acc⟩)∧K.k d
def iI(P:Program)(w0:W0)(cal:DV)(ds:List DV)(S:St)(K:DV→Prop):Prop:=match cal with
 | .v (.func (.func f) a cap)=>a.size=0∧okF P f=true∧cap.toList.all (fun u=>u.oneCell')=true∧ds.all ic=true∧@QX P w0 f (ds++cap.toList.map .v) S ⟨K⟩
 |_=>False
def nh(P:Program)(w0:W0)(op:Op)(fr:List DV)(S:St)(K:DV→St→Prop):Prop:=match op with
 | .load t x=>cn (tk P t) S (ev fr x) (K · S)
 | .alloc t=>fk (zD P t)=true∧Gl S (zD P t) K
 | .call ⟨.value cal,args,_⟩=>iI P w0 (ev fr cal) (args.toList.map (ev fr)) S (K · S)
 |op=>fq (kX op==0) (aL P w0 op fr S (K · S)) (aU P w0 op fr S K)
def pI(P:Program)(w0:W0)(ops:Array Oper)(K:List DV→St→Prop):List Oper→List DV→St→Prop
 |[],fr,S=>K fr S
 |o::rest,fr,S=>cJ ops fr o.guard (fun fr=>nh P w0 o.op fr S fun d S'=>pI P w0 ops K rest (pt fr o.dst d) S') (fun fr=>pI P w0 ops K rest (pt fr o.dst ud) S)
section
variable {P:Program} {w0:W0} {ops:Array Oper} {md:Region.Mode}
theorem r9{o:Oper}{fr:List DV}{S:St}{K:List DV→St→Prop}(hs:iG o.op=true)(h:nh P w0 o.op fr S fun d S'=>K (pt fr o.dst d) S'):fI P w0 o fr S K:=by
 have gen:∀(h:fq (kX o.op==0) (aL P w0 o.op fr S fun d=>K (pt fr o.dst d) S) (aU P w0 o.op fr S fun d S'=>K (pt fr o.dst d) S')),kX o.op=0∨kX o.op=3→fI P w0 o fr S K:=by
  intro h hk;rcases hk with hk|hk
  ·rw[hk]at h;obtain⟨d,q1,q2⟩:=p8 hk (show aL P w0 o.op fr S fun d=>K (pt fr o.dst d) S from h)
   exact .inl ⟨hk,d,fun S'=>by
    obtain⟨d',k1,k2⟩:=lA hs (q1 S');subst k2;exact k1,q2⟩
  ·rw[hk]at h;exact .inr (.inr (.inr ⟨hk,bV hs h⟩))
 cases hop:o.op with
 |load t x=>
  rw[hop]at h hs;obtain⟨d,q1,q2⟩:=qM (show cn (tk P t) S (ev fr x) (fun d=>K (pt fr o.dst d) S)from h);refine .inr (.inl ⟨by rw[hop];rfl,d,fun B hB=>?_,q2⟩);exact bV (by rw[hop];exact hs) (by rw[hop];simpa[aU]using uo hB q1)
 |alloc t=>
  rw[hop]at h;exact .inr (.inr (.inl ⟨by rw[hop];rfl,t,hop,h.1,h.2⟩))
 |call c=>
  obtain⟨callee,args,ts⟩:=c
  cases callee with
  |value cal=>
   rw[hop]at h hs;simp only[nh,iI]at h;split at h
   ·rename_i f a cap hcal;obtain⟨h1,h2,h3,h4,d,h5,h6⟩:=h;refine .inr (.inl ⟨by rw[hop];rfl,d,fun B hB=>?_,h6⟩);exact bV (by rw[hop];exact hs) (by rw[hop];simp only[aU,hcal];exact ri h1 h3 (by rw[h2,MY];exact nO h4 (h5 B hB)))
   ·exact h.elim
  |builtin b=>
   refine gen (by rw[hop]at h ⊢;exact h) ?_;rw[hop];cases b <;>first|exact .inl rfl|exact .inr rfl
  |invoke r m=>
   refine gen (by rw[hop]at h ⊢;exact h) ?_;rw[hop];exact .inr rfl
 |_=>refine gen (by rw[hop]at h ⊢;exact h) ?_;rw[hop];first|exact .inl rfl|exact .inr rfl
theorem gy{K:List DV→St→Prop}:∀(l:List Oper) {fr:List DV} {S:St},l.all (fun o=>iG o.op)=true→pI P w0 ops K l fr S→LX P w0 ops K l fr S
 |[],fr,S,_,h=>h
 |o::rest,fr,S,hs,h=>by
  simp only[afk,abG]at hs;rcases kW h with⟨hw,ha⟩|⟨hw,hb⟩
  ·exact .inl ⟨hw,j1 (fun fr S h=>gy rest hs.2 h) (r9 hs.1 ha)⟩
  ·exact .inr ⟨hw,gy rest hs.2 hb⟩
def Yg(l:List Oper):Bool:=l.all (fun o=>iG o.op)&&sw .any l.toArray l.length 0 (Array.replicate l.length false)
theorem pT{id:Nat}{l:List Oper}{fr:List DV}{S:St}{Q:Exit→List DV→St→Prop}(hm:P.follows .mixedOrders=true)(hB:Yg l=true)(h:pI P w0 l.toArray (fun fr S=>kE fr fun fr=>Q .normal fr S) l fr S):gF P w0 (.region id l.toArray true) fr S Q:=by
 simp only[Yg,abG]at hB;exact sc hm hB.2 (gy l hB.1 h)
theorem kM{f:FuncId}{args args':List DV}{S:St}{K:DV→Prop}{r:DV}(h:∀B,Fr S B→ab P w0 f args' ⟨B++S.box,S.acc⟩ (fun d S'=>d=r∧S'=⟨B++S.box,S.acc⟩))(hk:K r)(ha:fV args args':=by exact fV.refl _):@QX P w0 f args S ⟨K⟩:=
 ⟨r,fun B hB=>lX (h B hB) ha ⟨rfl,rfl⟩,hk⟩
end
end Aml
namespace Aml
open Go Go.RowKit
section
variable {P:Program} {w0:W0} {ops:Array Oper} {fr:List DV} {S:St} {rest:List Oper} {dst:Option Tmp} {op:Op} {ty:TypeId} {pos:String} {aft:Array Edge}
section
variable {K:List DV→St→Prop}
theorem Lt:pI P w0 ops K [] fr S=K fr S:=rfl
theorem Ew:pI P w0 ops K (⟨dst,op,ty,pos,aft,none⟩::rest) fr S=nh P w0 op fr S fun d S'=>pI P w0 ops K rest (pt fr dst d) S':=rfl
end
variable {K:DV→St→Prop}
theorem DK(t:TypeId)(x:Operand):nh P w0 (.load t x) fr S K=cn (tk P t) S (ev fr x) (K · S):=rfl
theorem zl(t:TypeId):nh P w0 (.alloc t) fr S K=(fk (zD P t)=true∧Gl S (zD P t) K):=rfl
theorem D9(cal:Operand)(a:List Operand)(ts:Array TypeId):nh P w0 (.call ⟨.value cal,a.toArray,ts⟩) fr S K=iI P w0 (ev fr cal) (a.map (ev fr)) S (K · S):=rfl
theorem yM(f:FuncId)(a cap:Array Value)(ds:List DV)(K:DV→Prop):iI P w0 (.v (.func (.func f) a cap)) ds S K=(a.size=0∧okF P f=true∧cap.toList.all (fun u=>u.oneCell')=true∧ds.all ic=true∧@QX P w0 f (ds++cap.toList.map .v) S ⟨K⟩):=rfl
@[congr] theorem Mj {cal cal':DV} {ds ds':List DV} {S':St} {K:DV→Prop} (h1:cal=cal') (h2:ds=ds') (h3:S=S'):iI P w0 cal ds S K=iI P w0 cal' ds' S' K:=by cases h1;cases h2;cases h3;rfl
theorem Em(x:Operand):nh P w0 (.move x) fr S K=aL P w0 (.move x) fr S (K · S):=rfl
theorem vC(x:Operand):nh P w0 (.assign x) fr S K=aL P w0 (.assign x) fr S (K · S):=rfl
theorem nu(t:TypeId)(x:Operand)(f:Nat):nh P w0 (.fieldAddr t x f) fr S K=aL P w0 (.fieldAddr t x f) fr S (K · S):=rfl
theorem nv(t:TypeId)(x i:Operand):nh P w0 (.indexAddr t x i) fr S K=aL P w0 (.indexAddr t x i) fr S (K · S):=rfl
theorem rp(x:Operand)(i:Nat):nh P w0 (.extract x i) fr S K=aL P w0 (.extract x i) fr S (K · S):=rfl
theorem pZ(x:Operand):nh P w0 (.nilCheck x) fr S K=aL P w0 (.nilCheck x) fr S (K · S):=rfl
theorem zE(b:BinOp)(t:TypeId)(x y:Operand)(t':TypeId):nh P w0 (.binOp b t x y t') fr S K=aL P w0 (.binOp b t x y t') fr S (K · S):=rfl
theorem yv(t:TypeId)(parts:Array (Nat×Operand)):nh P w0 (.build t parts) fr S K=aL P w0 (.build t parts) fr S (K · S):=rfl
theorem mN(t:TypeId)(len:Nat)(parts:Array (Nat×Operand)):nh P w0 (.buildSlice t len parts) fr S K=aL P w0 (.buildSlice t len parts) fr S (K · S):=rfl
theorem yL(t:TypeId)(x y:Operand):nh P w0 (.store t x y) fr S K=aU P w0 (.store t x y) fr S K:=rfl
theorem zb(a:Array Operand)(ts:Array TypeId):nh P w0 (.call ⟨.builtin .len,a,ts⟩) fr S K=aL P w0 (.call ⟨.builtin .len,a,ts⟩) fr S (K · S):=rfl
end
attribute [go_sem ↓] Lt Ew DK zl D9 yM Em vC nu nv rp pZ zE yv mN yL zb
theorem yx(b:Bool):(b==false)=!b:=by cases b <;>rfl
attribute [go_sem] yx
end Aml
namespace Aml
open Go Go.RowKit
structure Has(X T:St):Prop where
 box:∀b x,lk X.box b=some x→lk T.box b=some x
 acc:∀l o,lk X.acc l=some o→lk T.acc l=some o
structure Kp(X T T':St):Prop where
 box:∀b x,lk X.box b=none→lk T.box b=some x→lk T'.box b=some x
 acc:∀l o,lk X.acc l=none→lk T.acc l=some o→lk T'.acc l=some o
theorem Has.refl(X:St):Has X X:=⟨fun _ _ h=>h,fun _ _ h=>h⟩
theorem Kp.refl(X T:St):Kp X T T:=⟨fun _ _ _ h=>h,fun _ _ _ h=>h⟩
theorem ma{α:Type}{l:List (Nat×α)}(hn:(l.map (·.1)).Nodup){n:Nat}{x:α}(h:(n,x)∈l):lk l n=some x:=by
 induction l with
 |nil=>cases h
 |cons p t ih=>
  obtain⟨k,y⟩:=p;simp only[aa9,aec]at hn;simp only[lk];rcases ab6.1 h with e|h
  ·cases e;simp
  ·have:k≠n:=by rintro rfl;exact hn.1 (aew (f:=(·.1)) h)
   rw[if_neg this];exact ih hn.2 h
def jZ:List Tmp→List DV→List DV→List DV
 |p::ps,d::ds,fr=>jZ ps ds (fr.set p d)
 |_,_,fr=>fr
section
variable {P:Program} {w0:W0}
theorem Rel.has{g:Gh}{S T:St}{w:World}(h:Rel w0 g T w)(hs:Has S T)(nb:(S.box.map (·.1)).Nodup)(na:(S.acc.map (·.1)).Nodup):Rel w0 g S w:=by
 obtain⟨ow,o1,o2⟩:=h.own;exact⟨h.below,h.cu,nb,na,h.gU,h.fresh,fun l o hl=>h.top l o (cP (hs.acc _ _ (ma na hl))),ow,fun b ds hb=>o1 b ds (cP (hs.box _ _ (ma nb hb))),fun l o hl=>o2 l o (cP (hs.acc _ _ (ma na hl)))⟩
theorem uD{g:Gh}:∀(ps:List Tmp) (ds:List DV) (vs:List Value) {fr:List DV} {us:Array Value},aq g fr us.toList→aq g ds vs→
 aq g (jZ ps ds fr) (((ps.zip vs).foldl (fun t (p,v)=>t.setIfInBounds p v) us).toList)
 |[],ds,vs,fr,us,h,_=>by simpa[jZ]using h
 |p::ps,ds,vs,fr,us,h,r=>by
  cases ds with
  |nil=>have:=r.len;simp at this;obtain rfl:vs=[]:=aa4 this.symm;simpa[jZ]using h
  |cons d ds=>
   obtain⟨v,vs',rfl,hd,hr⟩:=r.cF;simp only[jZ,List.zip_cons_cons,List.foldl_cons];exact uD ps ds vs' (by simpa using h.set p hd) hr
def YKo(P:Program)(w0:W0){α:Type}(l:Nat)(X:List α→St)(enc:α→List DV)(Ok:List α→Prop):Prop:=
 ∀pre x T,Ok (pre++[x])→Has (X pre) T→Cp P w0 l (enc x) T fun d T'=>d= .v (.bool true)∧Has (X (pre++[x])) T'∧Kp (X pre) T T'
def YK(P:Program)(w0:W0){α:Type}(l:Nat)(X:List α→St)(enc:α→List DV)(V:List α):Prop:=
 ∀pre x T,(pre++[x]) <+: V→Has (X pre) T→Cp P w0 l (enc x) T fun d T'=>d= .v (.bool true)∧Has (X (pre++[x])) T'∧Kp (X pre) T T'
theorem ux{α:Type}(X:List α→St)(enc:α→List DV)(Ok Fin:List α→Prop){fo:Operand}{ps:Array Tmp}{assign body:Code}{fr:List DV}{S:St}{Q:Exit→List DV→St→Prop}{gf:FuncId}{cap:Array Value}
 (hf:ev fr fo= .v (.func (.func gf) #[] cap)) (hok:okF P gf=true) (hcap:cap.toList.all (fun u=>u.oneCell')=true) (hrf:(lO assign&&lO body)=true)
 (h0:X []=S) (hdb:∀pre,(X pre).box.map (·.1)=(X []).box.map (·.1)) (hda:∀pre,(X pre).acc.map (·.1)=(X []).acc.map (·.1)) (hps:∀x,(enc x).length=ps.size)
 (hbody:∀pre x T,Ok (pre++[x])→Has (X pre) T→gF P w0 assign (jZ ps.toList (enc x) fr) T (kg (fun D2 T1=>gF P w0 body D2 T1 (kg (fun _ T'=>Has (X (pre++[x])) T'∧Kp (X pre) T T') fun _ _ _=>False)) fun _ _ _=>False))
 (hit:∀(l:Nat) (w1:W0),YKo P w1 l X enc Ok→∀T,Has (X []) T→ab P w1 gf (.v (.func (.yield l) #[] #[])::cap.toList.map .v) T fun _ T'=>∃V,Fin V∧Has (X V) T')
 (hdone:∀V,Fin V→Q .normal fr (X V)):gF P w0 (.rangeFunc fo ps assign body) fr S Q:=by
 intro g a w h1 h2 h3 ro hro;have hro:ro=none:=hro.resolve_right (by simp[lO]);subst hro;simp only[abG]at hrf;subst h0;refine wpIn_rangeFunc ?_;intro fn hfn;have hfo:=nZ h2 fo;rw[hf]at hfo;have hg:a.eval fo= .func (.func gf) #[] cap:=aD hfo;obtain⟨rec,hrec⟩:∃rec:LoopState→Option Code→Loop,rec=fun st pe=>{state:=st,pending:=pe,fn,tmps:=a.tmps,params:=ps,assign,body,defers:=w.heap.size}:=⟨_,rfl⟩;obtain⟨W1,hW1⟩:∃W1,(w.alloc (.deferred (some []))).alloc (.loop (rec .ready none))=W1:=⟨_,rfl⟩
 have hL1:W1.heap[w.heap.size+1]? =some (.loop (rec .ready none)):=by
  rw[←hW1];have:=World.alloc_heap_new (w.alloc (.deferred (some []))) (.loop (rec .ready none));rwa [World.size_alloc]at this
 have hK1:W1.heap[w.heap.size]? =some (.deferred (some [])):=by
  rw[←hW1];exact(Below.heap_alloc _ _ _ (by simp)).trans (World.alloc_heap_new w _)
 have hb1:kU w.heap.size w W1:=by
  rw[←hW1];exact((kU.refl _ w).alloc (abI _) _).alloc (by simp) _
 have hob:∀k o,g.obj k=some o→k<w.heap.size:=fun k o hk=>(abF.1 (h1.below.obj k o hk).1).1
 have hgl:∀k,w.heap.size≤k→g.obj k=none:=fun k hk=>by
  cases hx:g.obj k with
  |none=>rfl
  |some o=>have:=hob k o hx;omega
 have hwl:∀k,w.heap.size≤k→w0.gh.obj k=none:=fun k hk=>by
  cases hx:w0.gh.obj k with
  |none=>rfl
  |some o=>have:=hob k o (h1.below.lP.obj k o hx);omega
 have hsz:=h1.below.size;let w1:W0:=⟨w0.w,{g with obj:=fun k=>if k=w.heap.size+1 then some (.loop (rec .ready none))else w0.gh.obj k}⟩
 have R1:Rel w1 (g.ay (CE W1)) (X []) W1:=by
  refine(h1.grow hb1).ay rfl (fun _ _ h=>Ci h) ⟨fun _ _ _ h=>h,fun _ _ _ h=>h,fun k o hk=>?_⟩;simp only[w1]at hk;split at hk
  ·rename_i e;subst e;cases hk;exact rr hL1 rfl
  ·have:=(h1.grow hb1).below.obj k o (h1.below.lP.obj k o hk);exact rr this.1 this.2
 have nb:∀pre,((X pre).box.map (·.1)).Nodup:=fun pre=>by rw[hdb];exact h1.nb
 have na:∀pre,((X pre).acc.map (·.1)).Nodup:=fun pre=>by rw[hda];exact h1.na
 have h2k:aq (g.ay (CE W1)) fr a.tmps.toList:=h2.ay
 have hcapR:∀g:Gh,aq g (cap.toList.map .v) cap.toList:=fun g=>⟨by simp,fun i d u a1 a2=>by
  simp only[acP,acT]at a1;obtain⟨u',a1,rfl⟩:=a1;rw[a2]at a1;cases a1;exact .v _ (adY.1 hcap _ (aap a2))⟩
 have hYK:YKo P w1 (w.heap.size+1) X enc Ok:=by
  intro pre x T hV hT g3 vs w3 r3 hvs;have hl3g:g3.obj (w.heap.size+1)=some (.loop (rec .ready none)):=r3.below.lP.obj _ _ (by simp[w1]);have hl3:=(r3.below.obj _ _ hl3g).1;have hy:=run_yield (P:=P) (args:=vs) hl3 (by rw[hrec];have:=hvs.len;simp at this;rw[←this];exact hps x);rw[hrec]at hy;dsimp only at hy;refine⟨_,_,_,_,hy,fun ro=>roundIn_of_wpIn (F:=fz ro) (n:=0) trivial ?_⟩
  have hsub0:w0.gh.sub g3:=⟨fun _ _ _ h=>r3.below.lP.cu _ _ _ (h1.below.lP.cu _ _ _ h),fun _ _ _ h=>r3.below.lP.acc _ _ _ (h1.below.lP.acc _ _ _ h),fun k o hk=>r3.below.lP.obj k o (by
   simp only[w1];split
   ·rename_i e;subst e;rw[hwl _ (by omega)]at hk;cases hk
   ·exact hk)⟩
  have R3:Rel w0 g3 T w3:=r3.ay (w0':=w0) (ob:=g3.obj) rfl r3.below.obj hsub0;have hfr0:aq g3 fr a.tmps.toList:=⟨h2.len,fun i d u a1 a2=>aY.of (g:=g) (fun b i u hu=>r3.below.lP.cu b i u hu) (fun l n u hu=>r3.below.lP.acc l n u hu) (h2.at_ i d u a1 a2)⟩
  have hfr:aq g3 (jZ ps.toList (enc x) fr) (((ps.zip vs).foldl (fun t (p,v)=>t.setIfInBounds p v) a.tmps).toList):=by
   have:=uD (g:=g3) ps.toList (enc x) vs.toList (fr:=fr) (us:=a.tmps) hfr0 hvs;rw[←Array.toList_zip,Array.foldl_toList]at this;exact this
  refine wpIn_mono (hbody pre x T hV hT g3 {tmps:=_,defers:=[]} w3 R3 hfr (.nil rfl) (some (w.heap.size+1)) (.inr hrf.1)) ?_;rintro e a4 w4 ⟨hd4,g4,fr4,T4,k1,k2,k3,k4⟩
  cases e with
  |normal=>
   have hl4g:g4.obj (w.heap.size+1)=some (.loop (rec .ready none)):=by rw[k1.obj];exact hl3g
   have hl4:=(k2.below.obj _ _ hl4g).1;refine⟨_,run_beginRound hl4 (by rw[hrec]),?_⟩;have hlt4:w.heap.size+1<w4.heap.size:=(abF.1 hl4).1;have hbz:({rec .ready none with state:= .busy}:Loop)=rec .busy none:=by rw[hrec]
   rw[hbz];have hwl0:=hwl (w.heap.size+1) (by omega);have hne0:∀k o,w0.gh.obj k=some o→k≠w.heap.size+1:=by rintro k o hk rfl;rw[hwl0]at hk;cases hk
   have R4x:Rel w0 (g4.ay fun k=>if k=w.heap.size+1 then none else g4.obj k) T4 w4:=k2.ay rfl (fun k o hk=>by
    split at hk
    ·cases hk
    ·exact k2.below.obj k o hk) ⟨k2.below.lP.cu,k2.below.lP.acc,fun k o hk=>by
     show(if k=w.heap.size+1 then none else g4.obj k)=some o;rw[if_neg (hne0 k o hk)];exact k2.below.lP.obj k o hk⟩
   have hh5:∀k,k≠w.heap.size+1→(w4.putObj (w.heap.size+1) (.loop (rec .busy none))).heap[k]? =w4.heap[k]? :=fun k hk=>World.putObj_heap_other hk;have R4y:=R4x.putObj (o':= .loop (rec .busy none)) hl4 rfl (by show(if _ then none else _)=none;rw[if_pos rfl]) (by omega)
   have R5:Rel w0 ((g4.ay fun k=>if k=w.heap.size+1 then none else g4.obj k).ay fun k=>if k=w.heap.size+1 then some (.loop (rec .busy none))else g4.obj k) T4 (w4.putObj (w.heap.size+1) (.loop (rec .busy none))):=R4y.ay rfl (fun k o hk=>by
    split at hk
    ·rename_i e;subst e;cases hk;exact⟨World.putObj_heap_same hlt4,rfl⟩
    ·rename_i e;rw[hh5 k e];exact k2.below.obj k o hk) ⟨k2.below.lP.cu,k2.below.lP.acc,fun k o hk=>by
     show(if k=w.heap.size+1 then some (.loop (rec .busy none))else g4.obj k)=some o;rw[if_neg (hne0 k o hk)];exact k2.below.lP.obj k o hk⟩
   have hD5:Dk w0 (fun k=>if k=w.heap.size+1 then some (.loop (rec .busy none))else g4.obj k) a4 (w4.putObj (w.heap.size+1) (.loop (rec .busy none))):=by
    refine⟨hd4.1,fun d hd=>?_⟩;obtain⟨D,e1,e2,e3,e4⟩:=hd4.2 d hd;have hne:D≠w.heap.size+1:=by rintro rfl;rw[hl4]at e2;cases e2
    exact⟨D,e1,(hh5 D hne).trans e2,by show(if D=w.heap.size+1 then _ else g4.obj D)=none;rw[if_neg hne,k1.obj];exact e3,e4⟩
   refine wpIn_mono (k4 _ a4 _ R5 k3.ay.ay hD5 (some (w.heap.size+1)) (.inr hrf.2)) ?_;rintro e a6 w6 ⟨_,g6,fr6,T6,q1,q2,q3,q4⟩
   cases e with
   |normal=>
    have hg6:g6.obj=fun k=>if k=w.heap.size+1 then some (.loop (rec .busy none))else g4.obj k:=q1.obj
    have hl6:=(q2.below.obj (w.heap.size+1) (.loop (rec .busy none)) (by rw[hg6];simp)).1;have hlt6:w.heap.size+1<w6.heap.size:=(abF.1 hl6).1;have hbr:({rec .busy none with state:=if(none:Option Code).isNone then .ready else .done,pending:=none}:Loop)=rec .ready none:=by rw[hrec];rfl
    have he:=run_endRound (P:=P) none hl6;rw[hbr]at he;have he:(Instr.endRound (w.heap.size+1) none).run P w6= .ok (.bool true) (w6.putObj (w.heap.size+1) (.loop (rec .ready none))):=he;have h34:∀k,k≠w.heap.size+1→g6.obj k=g3.obj k:=fun k hk=>by rw[hg6];simp only[if_neg hk];rw[k1.obj]
    have R6x:Rel w0 (g6.ay fun k=>if k=w.heap.size+1 then none else g3.obj k) T6 w6:=q2.ay rfl (fun k o hk=>by
     split at hk
     ·cases hk
     ·rename_i e;exact q2.below.obj k o (by rw[h34 k e];exact hk)) ⟨q2.below.lP.cu,q2.below.lP.acc,fun k o hk=>by
      show(if k=w.heap.size+1 then none else g3.obj k)=some o;rw[if_neg (hne0 k o hk)];exact hsub0.obj k o hk⟩
    have hh7:∀k,k≠w.heap.size+1→(w6.putObj (w.heap.size+1) (.loop (rec .ready none))).heap[k]? =w6.heap[k]? :=fun k hk=>World.putObj_heap_other hk;have R6y:=R6x.putObj (o':= .loop (rec .ready none)) hl6 rfl (by show(if _ then none else _)=none;rw[if_pos rfl]) (by omega)
    have R7:Rel w1 ((g6.ay fun k=>if k=w.heap.size+1 then none else g3.obj k).ay g3.obj) T6 (w6.putObj (w.heap.size+1) (.loop (rec .ready none))):=R6y.ay rfl (fun k o hk=>by
     by_cases e:k=w.heap.size+1
     ·subst e;rw[hl3g]at hk;cases hk;exact⟨World.putObj_heap_same hlt6,rfl⟩
     ·rw[hh7 k e];exact q2.below.obj k o (by rw[h34 k e];exact hk)) ⟨fun b i u hu=>q1.cu _ _ _ (k1.cu _ _ _ (r3.below.lP.cu _ _ _ hu)),fun l n u hu=>q1.acc _ _ _ (k1.acc _ _ _ (r3.below.lP.acc _ _ _ hu)),r3.below.lP.obj⟩
    exact⟨.bool true,_,he,.bool true,(g6.ay fun k=>if k=w.heap.size+1 then none else g3.obj k).ay g3.obj,.v (.bool true),T6,rfl,⟨fun b i u hu=>q1.cu _ _ _ (k1.cu _ _ _ hu),fun l n u hu=>q1.acc _ _ _ (k1.acc _ _ _ hu),rfl⟩,R7,.v _ rfl,rfl,q4.1,q4.2⟩
   |exit n=>exact q4.elim
   |goto n=>exact q4.elim
   |ret=>exact q4.elim
   |panic ch=>exact q4.elim
   |outgrown=>exact q4.elim
  |exit n=>exact k4.elim
  |goto n=>exact k4.elim
  |ret=>exact k4.elim
  |panic ch=>exact k4.elim
  |outgrown=>exact k4.elim
 refine⟨w.heap.size+1,[{target:= .collected w.heap.size,args:= #[]}],W1,{target:= .fn (.func gf) cap,args:= #[.func (.yield (w.heap.size+1)) #[] #[]]},W1,gf, #[.func (.yield (w.heap.size+1)) #[] #[]]++cap,W1,?_,?_,fun _ _=>trivial,?_,fun h=>by simp[fz,Fence.wide]at h,?_⟩
 ·rw[←hW1,hrec];exact run_enterLoop_outer _ _ _ _ _
 ·simp only[resolve,hg];simp[go_sem]
 ·unfold okF at hok;split at hok
  ·rename_i fn' hfn';simp only[abG,aev]at hok;obtain⟨hb,hname⟩:=hok;have hbn:¬fn'.body=none:=by intro e;simp[e]at hb
   have hname':¬fn'.name= "runtime.NumGoroutine" :=by simpa using hname
   simp[invoke,callFunc,hfn',hname',hbn]
  ·cases hok
 ·refine pr.2 ((hit _ w1 hYK (X []) (.refl _) (g.ay (CE W1)) _ W1 R1 ?_).mono ?_)
  ·have:aq (g.ay (CE W1)) ([.v (.func (.yield (w.heap.size+1)) #[] #[])]++cap.toList.map .v) ([.func (.yield (w.heap.size+1)) #[] #[]]++cap.toList):=(aq.cons (.v _ rfl) (aq.nil _)).append (hcapR _);simpa using this
  ·rintro e w2 ⟨r,g2,d,S2,rfl,k1,k2,k3,V,kV,k4⟩;have hg2:g2.obj=CE W1:=k1.obj;have hkeep:∀(k:Nat) (o:Obj),W1.heap[k]? =some o→nc o=true→w2.heap[k]? =some o:=fun k o h1 h2=>(k2.below.obj k o (by rw[hg2];exact rr h1 h2)).1;have hl2:=hkeep _ _ hL1 rfl;have hK2:=hkeep _ _ hK1 rfl;have hpend:(rec .ready none).pending=none:=by rw[hrec]
   obtain⟨o',hend⟩:∃o',(Instr.endLoop (w.heap.size+1)).run P w2= .ok none (w2.putObj (w.heap.size+1) o'):=⟨_,by
    have:=run_endLoop (P:=P) hl2 (by rw[hrec];simp);rw[hpend]at this;exact this⟩
   refine⟨none,_,hend,?_⟩;have hoth:∀k,k≠w.heap.size+1→(w2.putObj (w.heap.size+1) o').heap[k]? =w2.heap[k]? :=fun k hk=>World.putObj_heap_other hk;have RV:Rel w1 g2 (X V) w2:=k2.has k4 (nb _) (na _)
   have Rb:Rel w0 (g2.ay g.obj) (X V) w2:=RV.ay rfl (fun k o hk=>by
    obtain⟨p1,p2⟩:=h1.below.obj k o hk;exact⟨hkeep k o ((hb1.block k (abF.1 p1).1).trans p1) p2,p2⟩) ⟨fun b i u hu=>k1.cu _ _ _ (h1.below.lP.cu _ _ _ hu),fun l n u hu=>k1.acc _ _ _ (h1.below.lP.acc _ _ _ hu),h1.below.lP.obj⟩
   refine⟨?_,g2.ay g.obj,fr,X V,⟨k1.cu,k1.acc,rfl⟩,Rb.putObj hl2 rfl (hgl _ (by omega)) (by omega),?_,hdone V kV⟩
   ·refine⟨?_,?_⟩
    ·show({target:= .collected w.heap.size,args:= #[]}::a.defers:List Deferred).Nodup;rw[aec];refine⟨fun hm=>?_,h3.1⟩;obtain⟨D,e1,e2,_⟩:=h3.2 _ hm;have:w.heap.size=D:=by injection e1 with e1 _;injection e1
     subst this;have:=(abF.1 e2).1;omega
    ·intro d hd;rcases ab6.1 hd with rfl|hd
     ·exact⟨_,rfl,(hoth _ (by omega)).trans hK2,hgl _ (abI _),by omega⟩
     ·obtain⟨D,e1,e2,e3,e4⟩:=h3.2 d hd;have hlt:=(abF.1 e2).1;exact⟨D,e1,(hoth D (by omega)).trans (hkeep D _ ((hb1.block D hlt).trans e2) rfl),e3,e4⟩
   ·have:aq g2 fr a.tmps.toList:=h2k.mono k1;exact this.ay
theorem wx{α:Type}(X:List α→St)(enc:α→List DV)(V:List α){fo:Operand}{ps:Array Tmp}{assign body:Code}{fr:List DV}{S:St}{Q:Exit→List DV→St→Prop}{gf:FuncId}{cap:Array Value}
 (hf:ev fr fo= .v (.func (.func gf) #[] cap)) (hok:okF P gf=true) (hcap:cap.toList.all (fun u=>u.oneCell')=true) (hrf:(lO assign&&lO body)=true)
 (h0:X []=S) (hdb:∀pre,(X pre).box.map (·.1)=(X []).box.map (·.1)) (hda:∀pre,(X pre).acc.map (·.1)=(X []).acc.map (·.1)) (hps:∀x,(enc x).length=ps.size)
 (hbody:∀pre x T,(pre++[x]) <+: V→Has (X pre) T→gF P w0 assign (jZ ps.toList (enc x) fr) T (kg (fun D2 T1=>gF P w0 body D2 T1 (kg (fun _ T'=>Has (X (pre++[x])) T'∧Kp (X pre) T T') fun _ _ _=>False)) fun _ _ _=>False))
 (hit:∀(l:Nat) (w1:W0),YK P w1 l X enc V→∀T,Has (X []) T→ab P w1 gf (.v (.func (.yield l) #[] #[])::cap.toList.map .v) T fun _ T'=>Has (X V) T')
 (hdone:Q .normal fr (X V)):gF P w0 (.rangeFunc fo ps assign body) fr S Q:=
 ux X enc (· <+: V) (·=V) hf hok hcap hrf h0 hdb hda hps hbody (fun l w1 hy T hT=>(hit l w1 hy T hT).mono fun _ _ h=>⟨V,rfl,h⟩) fun V' e=>e▸hdone
theorem sa{α:Type}(ss:List Nat:=[])(X:List α→St)(enc:α→List DV)(V:List α){fo:Operand}{ps:Array Tmp}{assign body:Code}{fr:List DV}{S:St}{Q:Exit→List DV→St→Prop}{gf:FuncId}{cap:Array Value}
 (hm:P.follows .mixedOrders=true) (hc:(sj ss assign&&sj ss body&&lO assign&&lO body&&okF P gf)=true) (hf:ev fr fo= .v (.func (.func gf) #[] cap)) (hcap:cap.toList.all (fun u=>u.oneCell')=true)
 (h0:X []=S) (hdb:∀pre,(X pre).box.map (·.1)=(X []).box.map (·.1)) (hda:∀pre,(X pre).acc.map (·.1)=(X []).acc.map (·.1)) (hps:∀x,(enc x).length=ps.size)
 (hit:∀(l:Nat) (w1:W0),YK P w1 l X enc V→∀T,Has (X []) T→ab P w1 gf (.v (.func (.yield l) #[] #[])::cap.toList.map .v) T fun _ T'=>Has (X V) T')
 (hbody:∀pre x T,(pre++[x]) <+: V→Has (X pre) T→vw P w0 ss assign (jZ ps.toList (enc x) fr) T (kg (fun D2 T1=>vw P w0 ss body D2 T1 (kg (fun _ T'=>Has (X (pre++[x])) T'∧Kp (X pre) T T') fun _ _ _=>False)) fun _ _ _=>False))
 (hdone:Q .normal fr (X V)):gF P w0 (.rangeFunc fo ps assign body) fr S Q:=by
 simp only[abG]at hc;obtain⟨⟨⟨⟨c1,c2⟩,c3⟩,c4⟩,c5⟩:=hc;refine wx X enc V hf c5 hcap (by rw[c3,c4];rfl) h0 hdb hda hps (fun pre x T hV hT=>?_) hit hdone;refine(df hm assign c1 (hbody pre x T hV hT)).mono ?_;intro e fr' S' h;cases e <;>first|exact df hm body c2 h|exact h
theorem uL{ss:List Nat}{fr:List DV}{S:St}{Q:Exit→List DV→St→Prop}(f:Operand)(ps:Array Tmp)(a b:Code):vw P w0 ss (.rangeFunc f ps a b) fr S Q= @AL P w0 fr S ⟨((.rangeFunc f ps a b),Q)⟩:=rfl
theorem QS(l:Nat)(ds:List DV)(S:St)(K:DV→St→Prop):qB P w0 (.v (.func (.yield l) #[] #[])) ds S K=iq S ds fun ds S=>@YC P w0 l ds S ⟨K⟩:=by
 simp[qB]
@[congr] theorem adt {l:Nat} {ds ds':List DV} {S S':St} [K:Cn (DV→St→Prop)] (h1:ds=ds') (h2:S=S'):YC P w0 l ds S=YC P w0 l ds' S':=by cases h1;cases h2;rfl
theorem NG{l:Nat}{args args':List DV}{S:St}{K K':DV→St→Prop}(h:Cp P w0 l args' S K')(hk:∀d S',K' d S'→K d S')(ha:fV args args':=by exact fV.refl _):@YC P w0 l args S ⟨K⟩:=by
 intro g vs w h1 h2;obtain⟨fn,t,a,b,q1,q2⟩:=h g vs w h1 (ha.spec h2);refine⟨fn,t,a,b,q1,fun ro=>(q2 ro).mono ?_⟩;rintro e w' ⟨r,g',d,S',rfl,x1,x2,x3,x4⟩;exact⟨r,g',d,S',rfl,x1,x2,x3,hk _ _ x4⟩
theorem av{α:Type}(l:List (Nat×α))(b:Nat)(v:α):lk (up l b v) b=(lk l b).map fun _=>v:=by
 induction l with
 |nil=>rfl
 |cons p t ih=>obtain⟨k,x⟩:=p;simp only[up,lk];split <;>simp_all [lk]
theorem aW{α:Type}{b c:Nat}(h:¬b=c)(l:List (Nat×α))(v:α):lk (up l b v) c=lk l c:=by
 induction l with
 |nil=>rfl
 |cons p t ih=>
  obtain⟨k,x⟩:=p;simp only[up];split
  ·rename_i e;subst e;simp[lk,h]
  ·simp only[lk,ih]
theorem sZ{α:Type}(l:List (Nat×α))(b:Nat)(v v':α):up (up l b v) b v'=up l b v':=by
 induction l with
 |nil=>rfl
 |cons p t ih=>obtain⟨k,x⟩:=p;simp only[up];split <;>simp_all [up]
theorem Has.aX{X T:St}(h:Has X T)(b:FN T.box)(ds:List DV){A:List (Nat×Ob)}(hA:A=T.acc):Has X ⟨(b.n,ds)::T.box,A⟩:=⟨fun c x hc=>by
 have:=h.box c x hc;simp only[lk];rw[if_neg (fun e=>by rw[←e,kI b]at this;cases this)];exact this,fun l o hl=>by rw[hA];exact h.acc l o hl⟩
theorem Has.up{b:Nat}{x v:List DV}{R:List (Nat×List DV)}{A:List (Nat×Ob)}{T:St}(h:Has ⟨(b,x)::R,A⟩ T):Has ⟨(b,v)::R,A⟩ ⟨up T.box b v,T.acc⟩:=⟨fun c y hc=>by
 have hb:=h.box b x (by simp[lk]);simp only[lk]at hc;split at hc
 ·rename_i e;subst e;cases hc;rw[av,hb];rfl
 ·rename_i e;rw[aW e];exact h.box c y (by simp only[lk,if_neg e];exact hc),h.acc⟩
theorem Kp.up{b:Nat}{v:List DV}{X T:St}(h:(lk X.box b).isSome=true):Kp X T ⟨up T.box b v,T.acc⟩:=⟨fun c x hc hx=>by
 have:¬b=c:=by rintro rfl;rw[hc]at h;cases h
 rw[aW this];exact hx,fun _ _ _ h=>h⟩
theorem Kp.trans{X X' T1 T2 T3:St}(h:Kp X T1 T2)(k:Kp X' T2 T3)(hb:∀b,lk X.box b=none→lk X'.box b=none)(ha:∀l,lk X.acc l=none→lk X'.acc l=none):Kp X T1 T3:=
 ⟨fun b x h1 h2=>k.box b x (hb b h1) (h.box b x h1 h2),fun l o h1 h2=>k.acc l o (ha l h1) (h.acc l o h1 h2)⟩
theorem Kp.aX{X T T':St}(h:Kp X T T')(b:FN T'.box)(ds:List DV){A:List (Nat×Ob)}(hA:A=T'.acc):Kp X T ⟨(b.n,ds)::T'.box,A⟩:=⟨fun c x hc hx=>by
 have:=h.box c x hc hx;simp only[lk];rw[if_neg (fun e=>by rw[←e,kI b]at this;cases this)];exact this,fun l o h1 h2=>by rw[hA];exact h.acc l o h1 h2⟩
theorem Hz(k0:IntKind)(b ke kb:TK)(S:St)(x:DV)(K:DV→Prop):kf (.int k0) b ke kb S x K=jx (.int k0) b x K:=rfl
theorem EW(e:Nat)(i:Bool)(ke kb:TK)(S:St)(b:ByteArray)(K:DV→Prop):kf .str (.sl e 1 1 i) ke kb S (.v (.string b)) K=(b.size<281474976710656∧kb= .int .u8∧K (.sl 1 false (b.data.toList.map fun c=> .v (.int .u8 c.toNat)))):=rfl
theorem Ht(e s b:Nat)(i:Bool)(ke kb:TK)(S:St)(x:DV)(K:DV→Prop):kf (.sl e s b i) .str ke kb S x K=(ke= .int .u8∧Ro x=true∧gL S x fun s xs=>s=1∧nM xs=true∧K (.v (.string (strOfNums (wA xs))))):=rfl
theorem CV(l n:Nat):Ro (.acc l n)=true:=rfl
theorem IH(s:Nat)(f:Bool)(xs:List DV):Ro (.sl s f xs)=true:=rfl
theorem Hr(n:Nat)(a:Int):wA (List.replicate n (DV.v (.int .u8 a)))=List.replicate n a:=(D0 n a).1
theorem Ep(n:Nat)(a:Int):nM (List.replicate n (DV.v (.int .u8 a)))=true:=(D0 n a).2
theorem UJ{s:Nat}{f:Bool}{xs ys:List DV}(h:fV xs ys):Wk (.sl s f xs) (.sl s false ys)=True:=eq_true ((Wk.full s f xs).trans (Wk.sl h))
theorem pU(b j:Nat){c:Code}{fr:List DV}{S:St}{Q:Exit→List DV→St→Prop}{ds:List DV}{l s:Nat}{xs:List DV}(hb:lk S.box b=some ds)(hj:ds[j]? =some (.acc l xs.length))(hl:lk S.acc l=some (.arr s xs))
 (h:gF P w0 c fr ⟨Aml.up S.box b (ds.set j (.sl s false xs)),Aml.up S.acc l (.tl s xs)⟩ Q):gF P w0 c fr S Q:=by
 intro g a w h1 h2 h3;obtain⟨ow,o1,o2⟩:=h1.own;obtain⟨q1,q2,q3,us,e,q4,q5,q6⟩:=o1 _ _ (cP hb);have hlt:j<us.toList.length:=by rw[←q5.len];exact(aaq.1 hj).1
 have hr:=q5.at_ j _ _ hj (aay hlt)
 obtain⟨o,c',hu⟩:∃o c',us.toList[j]= .slice o xs.length c'∧g.acc l xs.length=some (.slice o xs.length c'):=by
  generalize us.toList[j]=u at hr
  cases hr with
  |acc _ _ o c h=>exact⟨o,c,rfl,h⟩
 obtain⟨g',hle,hR,hrep⟩:=h1.freeze hl hu.2;have hR':=hR.M7 (ds':=ds.set j (.sl s false xs)) (b:=b) hb ?_
 ·exact eK (h g' a w hR' (h2.mono hle) (hle.dk h3)) fun _ _ _ k=>k.of_le hle
 ·intro us' e' hh hr2;rw[hh]at q4;cases q4;exact fQ hr2 (aay hlt) (by rw[hu.1];exact hrep)
end
attribute [go_sem ↓] Hz EW Ht uL
attribute [go_sem] CV IH Hr Ep UJ QS av aW sZ Option.map_some
end Aml
namespace Aml
open Go Go.RowKit
def DZ(d:DV)(S:St)(K:DV→St→Prop):Prop:=match d with
 | .sl s true xs=>∀l,jF S.acc l→K (.acc l xs.length) ⟨S.box,(l,.arr s xs)::S.acc⟩
 |_=>False
section
variable {P:Program} {w0:W0}
theorem vD{g:Gh}{S:St}{w:World}(h1:Rel w0 g S w){t len:Nat}{parts:List (Nat×DV)}{vs:List (Nat×Value)}(hx:parts.map (·.1)=vs.map (·.1))(hR:aq g (parts.map (·.2)) (vs.map (·.2))){K:DV→St→Prop}
 {e:Nat} (hte:∀e' s b i,tk P t= .sl e' s b i→e'=e) (h:bc (tk P t) (zD P e) len parts fun d=>DZ d S K):
 ∃d u w' g' S',(Instr.buildSlice t len vs.toArray).run P w= .ok u w'∧g.le g'∧Rel w0 g' S' w'∧aY g' d u∧K d S':=by
 unfold bc at h;split at h
 ·rename_i e' s by' hk;obtain rfl:=hte _ _ _ _ hk;obtain⟨hok,hzl,hbig,h⟩:=h;obtain⟨hu,hs,_,hei⟩:=fg hk;obtain⟨ti,z,hi,hz,hzs,hpos⟩:=cW hei;have hsz:ti.size=s:=by simpa[Program.cellsOf,hi]using hs
  have hzD:zD P e'=cv z:=by simp[zD,hi,hz]
  have hrz:aY g (zD P e') z:=hzD▸jX g z;split at h
  ·rename_i xs hf;have hpw:=yb (z:=z) (s:=s) (n:=len) (by omega) (by omega)
   obtain⟨cs',us',q1,q2,q3,q4,q5⟩:=vW (g:=g) (s:=s) parts vs (List.replicate len (zD P e')) (List.replicate len z) ((Array.range (len*s)).map (z.cells[·%z.cells.size]!)) xs hx hR
    ⟨by simp,fun i d u a b=>by
     rw[ad8]at a b;split at a
     ·rename_i hlt;rw[if_pos hlt]at b;simp only[adO]at a b;subst a;subst b;exact hrz
     ·cases a⟩ hpw (fun u hu x hx=>by rw[aeP hu]at hx;exact hrz.one hok x hx) hf
   have hlen:xs.length=len:=by simpa using q5
   have hlu:us'.length=len:=by rw[←q2.len];exact hlen
   have hrun:(Instr.buildSlice t len vs.toArray).run P w= .ok (.slice (some ⟨w.heap.size,0,none⟩) len len) (w.alloc (.cells cs' e')):=by
    have hb:¬(len*s>2^24):=by omega
    simp only[Instr.buildSlice];by_cases hls:len*s=0
    ·have hl0:len=0:=by rcases Nat.mul_eq_zero.1 hls with h'|h' <;>omega
     have hcs:((Array.range (len*s)).map (z.cells[·%z.cells.size]!))= #[]:=by simp[hls]
     rw[hcs]at q1;have hr0:∀f:Nat→Value,(Array.range 0).map f= #[]:=fun f=>by simp
     simp only[run_underlying hu,Go.sizeOf,typeInfo,hi,hsz,hls,newRow,Sem.run_bind,Sem.run_pure,Result.andThen_ok,run_program,hr0,if_true];rw[q1];simp[hl0]
    ·simp[run_underlying hu,Go.sizeOf,typeInfo,hi,hsz,hls,hb,zeroValue,hz,q1,newRow]
   have hlm:len≤maxLen:=by
    have:len*1≤len*s:=Nat.mul_le_mul_left len (by omega);unfold maxLen;omega
   have hcsz:cs'.size=len*s:=by
    have:=q3.size;rw[hlu]at this;simpa using this
   obtain⟨l,g',hle,hne,hRel,hA⟩:=h1.Fp (s:=s) (xs:=xs) (us:=us') (c:=len) (dZ w (.cells cs' e')) (by omega) (abI _) (heap_alloc_new w _) hcsz (by omega) hlm q2 q3.each q4 (fun i u j x a b=>by have:=q3.at_ i u j x a b;simpa using this) (BL (by omega) (by rw[aef,hcsz,hlu]) q3.each q4 (fun i u j x a b=>by have:=q3.at_ i u j x a b;simpa using this));rw[hlen]at hA;have h':=h l (dG hne);rw[hlen]at h';exact⟨_,_,_,_,_,hrun,hle,hRel,hA,h'⟩
  ·exact h.elim
 ·exact h.elim
theorem Ee{o:Oper}{t len:Nat}{parts:List (Nat×Operand)}(ho:o.op= .buildSlice t len parts.toArray){ρD:Operand→DV}{S:St}{K:DV→St→Prop}
 (h:iq S (parts.map fun p=>ρD p.2) fun ds S=>bc (tk P t) (zD P (eH P t)) len ((parts.map (·.1)).zip ds) fun d=>DZ d S K):au P w0 o ρD S K:=by
 intro g w ρ h1 h2 hcst;have hR:=lB (g:=g) (ρD:=ρD) (ρ:=ρ) parts (fun p hp=>h2 p.2 (by simp only[ho,Op.operands];simp;exact⟨p.1,hp⟩));obtain⟨g',ds,S',l1,R1,r1,k1⟩:=jH _ h1 hR h;have hlen:(parts.map (·.1)).length=ds.length:=by have:=r1.len;simpa using this.symm
 obtain⟨d,u,w',g2,S2,e1,l2,R2,e2,e3⟩:=vD (P:=P) R1 (t:=t) (len:=len) (parts:=(parts.map (·.1)).zip ds) (vs:=parts.map fun p=>(p.1,ρ p.2)) (by rw[zip_fst hlen];simp) (by rw[tI hlen];simpa[afT]using r1)
  (e:=eH P t) (fun e' s b i hk=>by simp[eH,hk]) k1
 have hrun:(execOp ρ o).run P w= .ok (.value u) w':=by
  have e:(parts.toArray.map fun(i,x)=>(i,ρ x))=(parts.map fun p=>(p.1,ρ p.2)).toArray:=by simp
  simp only[execOp,ho,Sem.run_bind];rw[e,e1];rfl
 rw[hrun];exact⟨g2,d,S2,l1.trans l2,R2,e2,e3⟩
def SQ(P:Program)(w0:W0)(op:Op)(fr:List DV)(S:St)(K:DV→St→Prop):Prop:=match op with
 | .buildSlice t len parts=>iq S (parts.toList.map fun p=>ev fr p.2) fun ds S=>bc (tk P t) (zD P (eH P t)) len ((parts.toList.map (·.1)).zip ds) fun d=>DZ d S K
 |op=>aU P w0 op fr S K
def wE(P:Program)(w0:W0)(ops:Array Oper)(K:List DV→St→Prop):List Oper→List DV→St→Prop
 |[],fr,S=>K fr S
 |o::rest,fr,S=>cJ ops fr o.guard (fun fr=>SQ P w0 o.op fr S fun d S'=>wE P w0 ops K rest (pt fr o.dst d) S') (fun fr=>wE P w0 ops K rest (pt fr o.dst ud) S)
theorem HV{o:Oper}{fr:List DV}{S:St}{K:DV→St→Prop}(hs:iG o.op=true)(h:SQ P w0 o.op fr S K):au P w0 o (ev fr) S K:=by
 cases hop:o.op with
 |buildSlice t len parts=>rw[hop]at h;exact Ee (parts:=parts.toList) (by simpa using hop) h
 |_=>rw[hop]at h;exact bV hs (by rw[hop];exact h)
theorem mR{ops:Array Oper}{K:List DV→St→Prop}:∀(l:List Oper) {fr:List DV} {S:St},l.all (fun o=>iG o.op)=true→wE P w0 ops K l fr S→BZ P w0 ops K l fr S
 |[],fr,S,_,h=>h
 |o::rest,fr,S,hs,h=>by
  simp only[afk,abG]at hs;refine iQ (fun fr h=>?_) (fun fr h=>mR rest hs.2 h) h;exact bd (fun d S h=>mR rest hs.2 h) (HV hs.1 h)
theorem ZX{id:Nat}{l:List Oper}{fr:List DV}{S:St}{Q:Exit→List DV→St→Prop}(hs:l.all (fun o=>iG o.op)=true)(h:wE P w0 l.toArray (fun fr S=>kE fr fun fr=>Q .normal fr S) l fr S):gF P w0 (.region id l.toArray false) fr S Q:=
 vE (mR l hs h)
section
variable {ops:Array Oper} {fr:List DV} {S:St} {rest:List Oper} {dst:Option Tmp} {op:Op} {ty:TypeId} {pos:String} {aft:Array Edge} {K:List DV→St→Prop} {K2:DV→St→Prop}
theorem Yp:wE P w0 ops K [] fr S=K fr S:=rfl
theorem U2:wE P w0 ops K (⟨dst,op,ty,pos,aft,none⟩::rest) fr S=SQ P w0 op fr S fun d S'=>wE P w0 ops K rest (pt fr dst d) S':=rfl
theorem Vk(t:TypeId)(x:Operand):SQ P w0 (.load t x) fr S K2=aU P w0 (.load t x) fr S K2:=rfl
theorem MG(x:Operand):SQ P w0 (.assign x) fr S K2=aU P w0 (.assign x) fr S K2:=rfl
theorem yt(t:TypeId)(len:Nat)(parts:List (Nat×Operand)):SQ P w0 (.buildSlice t len parts.toArray) fr S K2=(iq S (parts.map fun p=>ev fr p.2) fun ds S=>bc (tk P t) (zD P (eH P t)) len ((parts.map (·.1)).zip ds) fun d=>DZ d S K2):=rfl
theorem Wm(s:Nat)(xs:List DV):DZ (.sl s true xs) S K2=∀l:FN S.acc,K2 (.acc l.n xs.length) ⟨S.box,(l.n,.arr s xs)::S.acc⟩:=tG S.acc fun l=>K2 (.acc l xs.length) ⟨S.box,(l,.arr s xs)::S.acc⟩
@[congr] theorem abg {fr':List DV} {S':St} (h1:fr=fr') (h2:S=S'):SQ P w0 op fr S K2=SQ P w0 op fr' S' K2:=by cases h1;cases h2;rfl
@[congr] theorem aah {l:List Oper} {fr':List DV} {S':St} (h1:fr=fr') (h2:S=S'):wE P w0 ops K l fr S=wE P w0 ops K l fr' S':=by cases h1;cases h2;rfl
@[congr] theorem aaR {d d':DV} {S':St} (h1:d=d') (h2:S=S'):DZ d S K2=DZ d' S' K2:=by cases h1;cases h2;rfl
end
end
attribute [go_sem ↓] Yp U2 Vk MG yt Wm
end Aml
namespace Aml
open Go Go.RowKit
section
variable {P:Program} {w0:W0}
theorem N5{g:Gh}{S:St}{w:World}(h1:Rel w0 g S w){l:Nat}{xs:List DV}(hl:lk S.acc l=some (.arr 1 xs)){b c:Nat}(hval:g.acc l xs.length=some (.slice (some ⟨b,0,none⟩) xs.length c)){k:Nat}(hk:k<xs.length)
 {t e ty:TypeId} {z:Value} (hu:P.underlying t=some (.slice e)) (hv:∀w,(zeroValue e).run P w= .ok z w) (hz:z.cells= #[z]) (hz1:z.oneCell'=true) {zd:DV} (hrz:aY g zd z) (c':Nat):
 ∃w',(Builtin.clear_ #[t] ty #[.slice (some ⟨b,k,none⟩) (xs.length-k) c']).run P w= .ok (.tuple #[]) w'∧Rel w0 g ⟨S.box,up S.acc l (.arr 1 (xs.take k++List.replicate (xs.length-k) zd))⟩ w':=by
 obtain⟨ow,hO⟩:=h1.open_;obtain⟨hs,⟨he,o2,ha⟩|⟨b',c0,cs,e0,q1,q2,q3,q4,q5,q6,q7,q8,qA,us,q9,q10,q11,q12⟩⟩:=hO.acc l _ (cP hl)
 ·rw[he]at hk;simp at hk
 have hval':=hval;rw[q1]at hval';simp only[adO,Value.slice.injEq,Addr.mk.injEq,true_and,and_true]at hval';obtain⟨rfl,rfl⟩:=hval'
 have hzc:(Builtin.zeroCells z.cells (xs.length-k)).toList=List.replicate (xs.length-k) z:=by
  rw[hz];simp[Builtin.zeroCells];apply List.ext_getElem
  ·simp
  ·intro i h1 h2;simp[Nat.mod_one]
 obtain⟨m,hm⟩:∃m,m+1=xs.length-k:=⟨xs.length-k-1,by omega⟩;have hul:us.length=xs.length:=q9.len.symm;have hst:=run_storeCells_at (P:=P) b' k e0 (List.replicate (xs.length-k) z) 0 cs w q5 (by simp;omega) (fun u hu=>by rw[aeP hu];exact hz1);have hle2:k+(List.replicate (xs.length-k) z).length≤cs.toList.length:=by simp;omega
 refine⟨w.setRow b' (bh cs.toList k (List.replicate (xs.length-k) z)).toArray,?_,?_⟩
 ·rw[dc _ _ _ hle2];simp only[aeS]at hst;rw[←hm]at hst hzc ⊢;simp[Builtin.clear_,run_underlying hu,hv,hzc,hst]
 ·have hxs:(xs.take k++List.replicate (xs.length-k) zd).length=xs.length:=by simp;omega
  refine h1.Ny (ys:=xs.take k++List.replicate (xs.length-k) zd) (us:=us.take k++List.replicate (xs.length-k) z) (b:=b') (c:=c0) (e:=e0) (cs:=(bh cs.toList k (List.replicate (xs.length-k) z)).toArray) hl hval hxs (by omega) ?_ ?_ ?_ ?_ ?_ ?_ ?_ ?_ ?_ ?_
  ·exact setRow_heap w b' cs _ e0 (0,0) q5
  ·rw[afz,dc _ _ _ hle2];simp only[c9,aaE,acv,aef];simp only[aef]at hle2;rw[←q6];omega
  ·exact h1.below.step ⟨rfl,rfl,rfl,by simp,fun k hk=>setRow_other w b' k _ (by omega),abI _⟩ b' (nz q5) fun k _ hne=>setRow_other w b' k _ hne
  ·simp
  ·intro k _ hkb;exact setRow_other w b' k _ hkb
  ·refine aq.append ?_ ?_
   ·exact⟨by simp[hul],fun i d u a1 a2=>by
     rw[adU]at a1 a2;split at a1
     ·rename_i hlt;rw[if_pos hlt]at a2;exact q9.at_ i d u a1 a2
     ·cases a1⟩
   ·exact⟨by simp,fun i d u a1 a2=>by
     rw[ad8]at a1 a2;split at a1
     ·rename_i hlt;rw[if_pos hlt]at a2;cases a1;cases a2;exact hrz
     ·cases a1⟩
  ·intro j u hj;rcases abD.1 (aap hj)with hu|hu
   ·obtain⟨i,hi⟩:=adX.1 (ac5 hu);exact q10 i u hi
   ·rw[aeP hu,hz];rfl
  ·intro u hu x hx;rcases abD.1 hu with hu|hu
   ·exact q11 u (ac5 hu) x hx
   ·rw[aeP hu,hz]at hx;simp only[acz]at hx;subst hx;exact hz1
  ·intro i u j x hi2 hj;rw[afs,gN hle2];rcases adR i k with hik|hik
   ·rw[ad4 (by simp;omega),adU,if_pos hik]at hi2;have hjs:j<1:=by rw[←q10 i u hi2];exact(abF.1 hj).1
    rw[if_neg (by simp;omega)];simpa using q12 i u j x hi2 hj
   ·have hlk:(us.take k).length=k:=by simp;omega
    rw[adN (by omega),hlk,ad8]at hi2;split at hi2
    ·rename_i hlt;cases hi2;rw[hz]at hj
     have hj0:j=0:=by
      have:=(abF.1 hj).1;simp at this;omega
     subst hj0;rw[if_pos (by simp;omega),ad8,if_pos (by omega)];simpa using hj
    ·cases hi2
  ·intro x hx;rw[aeR,dc _ _ _ hle2]at hx;rcases abD.1 hx with hx|hx
   ·rcases abD.1 hx with hx|hx
    ·exact qA x (ac5 hx)
    ·rw[aeP hx];exact hz1
   ·exact qA x (adk hx)
theorem Vb{id:Nat}{i p q r j:Nat}{t t1 t2 t3 t4:TypeId}{s1 s2 s3 s4:String}{a1 a2 a3 a4:Array Edge}{fr:List DV}{S:St}{Q:Exit→List DV→St→Prop}{l k:Nat}{xs:List DV}{kk:IntKind}{e by':Nat}{zd:Value}
 (hk:tk P t= .sl e 1 by' true) (hz:zD P e= .v zd) (hi:fr[i]? =some (.acc l xs.length)) (hj:fr[j]? =some (.v (.int kk k))) (hl:lk S.acc l=some (.arr 1 xs)) (hkx:k<xs.length)
 (hs:(decide (j≠i)&&decide (j≠p)&&decide (q≠p)&&decide (i≠p)&&decide (i≠q)&&decide (i≠r))=true) (hp:p<fr.length) (hq:q<fr.length) (hr:r<fr.length)
 (h:∀v u,Q .normal (((((fr.set i (.v v)).set p (.v v)).set q (.v (.int kk k))).set r (.v u)).set i (.acc l xs.length)) ⟨S.box,up S.acc l (.arr 1 (xs.take k++List.replicate (xs.length-k) (.v zd)))⟩):
 gF P w0 (.region id #[⟨some p,.move (.tmp i),t1,s1,a1,none⟩,⟨some q,.move (.tmp j),t2,s2,a2,none⟩,⟨some r,.slice t (.tmp p) (some (.tmp q)) none none,t3,s3,a3,none⟩,⟨none,.call ⟨.builtin .clear, #[.tmp r], #[t]⟩,t4,s4,a4,none⟩] false) fr S Q:=by
 simp only[abG,decide_eq_true_eq]at hs;obtain⟨⟨⟨⟨⟨n1,n2⟩,n3⟩,n4⟩,n5⟩,n6⟩:=hs;intro g a w h1 h2 h3;have hilt:i<fr.length:=(aaq.1 hi).1;have hjlt:j<fr.length:=(aaq.1 hj).1;have hlen:fr.length=a.tmps.toList.length:=h2.len;have hri:=h2.at_ i _ _ hi (aay (by omega));obtain⟨v,hv⟩:∃v,v=a.tmps.toList[i]'(by omega):=⟨_,rfl⟩;rw[←hv]at hri
 obtain⟨b,c,hval,hve⟩:∃b c,g.acc l xs.length=some (.slice (some ⟨b,0,none⟩) xs.length c)∧v= .slice (some ⟨b,0,none⟩) xs.length c∧xs.length≤c:=by
  obtain⟨ow,hO⟩:=h1.open_;obtain⟨hs,⟨he,o2,ha⟩|⟨b',c0,cs,e0,q1,q2,q3,q4,q5,q6,q7,q8,qA,us,q9,q10,q11,q12⟩⟩:=hO.acc l _ (cP hl)
  ·rw[he]at hkx;simp at hkx
  ·refine⟨b',c0,q1,?_,q7⟩
   cases hri with
   |acc _ _ o c h=>rw[q1]at h;exact(aen h).symm
 obtain⟨hve,hnc⟩:=hve;let w1:W0:=⟨w0.w,g⟩
 have hsub:∀(g:Gh),g.sub g:=fun g=>⟨fun _ _ _ h=>h,fun _ _ _ h=>h,fun _ _ h=>h⟩;have R1:Rel w1 g S w:=h1.ay (w0':=w1) (ob:=g.obj) rfl h1.below.obj (hsub g);have ho:v.oneCell'=true:=by rw[hve];rfl
 have h2':aq g (fr.set i (.v v)) a.tmps.toList:=fQ h2 (by rw[hv];exact aay (by omega)) (.v _ ho);obtain⟨hu,hss,_,hei⟩:=fg hk;obtain⟨ti,z,hii,hzz,hzs,hpos⟩:=cW hei;have hsz:ti.size=1:=by simpa[Program.cellsOf,hii]using hss
 have hzD:zD P e=cv z:=by simp[zD,hii,hzz]
 have hzv:z=zd:=by
  have hr:=jX g z;rw[←hzD,hz]at hr;exact aD hr
 have hz1:zd.oneCell'=true∧zd.cells= #[zd]:=by
  have hr:=jX g z;rw[←hzD,hz]at hr;have hone:=hr.one rfl;rw[←hzv];rw[hsz]at hzs
  cases hr with
  |v _ h=>rw[hzv];exact⟨h,by cases zd <;>first|rfl|cases h⟩
 have hrun:=fun(w:World)=>(show(zeroValue e).run P w= .ok zd w by simp[zeroValue,typeInfo,hii,hzz,hzv]);have hsize:∀w,(Go.sizeOf e).run P w= .ok 1 w:=fun w=>by simp[Go.sizeOf,typeInfo,hii,hsz]
 have g1:(fr.set i (.v v)).getD i ud= .v v:=by simp[aee,hilt]
 have g2:((fr.set i (.v v)).set p (.v v)).getD j ud= .v (.int kk k):=by
  rw[aee,ae2 (fun e=>n2 e.symm),ae2 (fun e=>n1 e.symm),hj];rfl
 have g3:(((fr.set i (.v v)).set p (.v v)).set q (.v (.int kk k))).getD p ud= .v v:=by
  rw[aee,ae2 n3,afq (by simpa using hp)];rfl
 have g4:(((fr.set i (.v v)).set p (.v v)).set q (.v (.int kk k))).getD q ud= .v (.int kk k):=by
  rw[aee,afq (by simpa using hq)];rfl
 have g5:∀x,((((fr.set i (.v v)).set p (.v v)).set q (.v (.int kk k))).set r x).getD r ud=x:=fun x=>by
  rw[aee,afq (by simpa using hr)];rfl
 have L:∀ops:Array Oper,BZ P w1 ops (fun fr' S'=>fr'[i]? =some (.v v)∧Q .normal (fr'.set i (.acc l xs.length)) S') [⟨some p,.move (.tmp i),t1,s1,a1,none⟩,⟨some q,.move (.tmp j),t2,s2,a2,none⟩,⟨some r,.slice t (.tmp p) (some (.tmp q)) none none,t3,s3,a3,none⟩,⟨none,.call ⟨.builtin .clear, #[.tmp r], #[t]⟩,t4,s4,a4,none⟩] (fr.set i (.v v)) S:=by
  intro ops;refine EY (P:=P) rfl ?_;show BZ P w1 ops _ _ ((fr.set i (.v v)).set p ((fr.set i (.v v)).getD i ud)) S;rw[g1];refine EY (P:=P) rfl ?_;show BZ P w1 ops _ _ (((fr.set i (.v v)).set p (.v v)).set q (((fr.set i (.v v)).set p (.v v)).getD j ud)) S;rw[g2];show au P w1 _ _ S _;intro ga wa ρ ra rb rc;have hx:=rb (.tmp p) (by simp[Op.operands]);have hy:=rb (.tmp q) (by simp[Op.operands]);change aY ga ((((fr.set i (.v v)).set p (.v v)).set q (.v (.int kk k))).getD p ud) _ at hx;change aY ga ((((fr.set i (.v v)).set p (.v v)).set q (.v (.int kk k))).getD q ud) _ at hy;rw[g3]at hx;rw[g4]at hy;have hx:=aD hx;have hy:=aD hy
  have hb:(Instr.sliceBounds true xs.length c (some (.int kk (k:Int))) none none).run P wa= .ok (k,xs.length,c) wa:=by
   have:(Instr.sliceBound (.int kk (k:Int)) xs.length .sliceB).run P wa= .ok k wa:=by
    have:=aH (P:=P) (k:=kk) (i:=(k:Int)) (y:=xs.length) (code:= .sliceB) (w:=wa) (by omega) (by omega);simpa using this
   simp[Instr.sliceBounds,this]
  have hck:¬c=k:=by omega
  have hrun3:(execOp ρ ⟨some r,.slice t (.tmp p) (some (.tmp q)) none none,t3,s3,a3,none⟩).run P wa= .ok (.value (.slice (some ⟨b,k,none⟩) (xs.length-k) (c-k))) wa:=by
   simp[execOp,hx,hve,Instr.sliceAt,Instr.slice,run_underlying hu,hy,hb,hsize,hck,Addr.add] <;>omega
  rw[hrun3];refine⟨ga,.v (.slice (some ⟨b,k,none⟩) (xs.length-k) (c-k)),S,.refl ga,ra,.v _ rfl,?_⟩;show au P w1 _ _ S _;intro gb wb ρ2 ra2 rb2 rc2;have hx2:=rb2 (.tmp r) (by simp[Op.operands,Call.operands]);change aY gb (((((fr.set i (.v v)).set p (.v v)).set q (.v (.int kk k))).set r _).getD r ud) _ at hx2;rw[g5]at hx2;have hx2:=aD hx2;obtain⟨w',e1,e2⟩:=N5 (P:=P) (ty:=t4) ra2 hl (ra2.below.lP.acc _ _ _ hval) hkx hu hrun hz1.2 hz1.1 (zd:= .v zd) (.v _ hz1.1) (c-k)
  have hrun4:(execOp ρ2 ⟨none,.call ⟨.builtin .clear, #[.tmp r], #[t]⟩,t4,s4,a4,none⟩).run P wb= .ok (.value (.tuple #[])) w':=by
   simp[execOp,resolve,invoke,builtin,hx2,e1]
  rw[hrun4];refine⟨gb,.any,_,.refl gb,e2,.any _,?_,h _ _⟩;show(((((fr.set i (.v v)).set p (.v v)).set q (.v (.int kk k))).set r _)[i]? :Option DV)=_;rw[ae2 (fun e=>n6 e.symm),ae2 (fun e=>n5 e.symm),ae2 (fun e=>n4 e.symm),afq hilt]
 refine eK (j6 fun ro=>lZ (w0:=w1) (Q:=fun e fr' S'=>fr'[i]? =some (.v v)∧Q e (fr'.set i (.acc l xs.length)) S') _ _ S g a w (.refl g) R1 h2' h3 (L _)) ?_;rintro e' a' w' ⟨hd,g',fr',S',k1,k2,k3,k5,k4⟩;have hb0:w0.gh.sub g':=⟨fun _ _ _ h=>k2.below.lP.cu _ _ _ (h1.below.lP.cu _ _ _ h),fun _ _ _ h=>k2.below.lP.acc _ _ _ (h1.below.lP.acc _ _ _ h),fun _ _ h=>k2.below.lP.obj _ _ (h1.below.lP.obj _ _ h)⟩;refine⟨hd,g',fr'.set i (.acc l xs.length),S',k1,k2.ay (w0':=w0) (ob:=g'.obj) rfl k2.below.obj hb0,?_,k4⟩;have hlt':i<a'.tmps.toList.length:=by rw[←k3.len];exact(aaq.1 k5).1
 have hu':=aay hlt';have hvi:=aD (k3.at_ i _ _ k5 hu');refine fQ k3 hu' ?_;rw[hvi,hve];exact .acc _ _ _ _ (k1.acc _ _ _ hval)
end
end Aml
namespace Aml
open Go Go.RowKit
inductive Tr where
 |leaf|head (t:Tr)|snd (t:Tr)|both (t u:Tr)
def WN(P:Program)(w0:W0)(K:List DV→St→Prop):Tr→List Oper→List DV→St→Prop
 | .leaf,[],fr,S=>K fr S
 | .head t,o::r,fr,S=>aU P w0 o.op fr S fun d S'=>WN P w0 K t r (pt fr o.dst d) S'
 | .snd t,p::o::r,fr,S=>aU P w0 o.op fr S fun d S'=>WN P w0 K t (p::r) (pt fr o.dst d) S'
 | .both t u,p::o::r,fr,S=>(aU P w0 p.op fr S fun d S'=>WN P w0 K t (o::r) (pt fr p.dst d) S')∧aU P w0 o.op fr S fun d S'=>WN P w0 K u (p::r) (pt fr o.dst d) S'
 |_,_,_,_=>False
section
variable {P:Program} {w0:W0}
section
variable {K:List DV→St→Prop} {fr:List DV} {S:St} {t u:Tr} {o p:Oper} {r:List Oper} {dst dst2:Option Tmp} {op op2:Op} {ty ty2:TypeId} {pos pos2:String} {aft aft2:Array Edge}
@[congr] theorem abk {fr':List DV} {S':St} (h1:fr=fr') (h2:S=S'):WN P w0 K t r fr S=WN P w0 K t r fr' S':=by cases h1;cases h2;rfl
end
end
end Aml
namespace Aml
open Go Go.RowKit
section
variable {P:Program} {w0:W0}
theorem ND{o:Oper}{ρD:Operand→DV}{S:St}{r:DV}(h:au P w0 o ρD S fun d S'=>shr S' d fun d' S''=>d'=r∧Sub S S''):au P w0 o ρD S fun d S'=>d=r∧S'=S:=by
 intro g w ρ h1 h2 hcst;have:=h g w ρ h1 h2 hcst;split at this
 ·obtain⟨g',d,S',a,b,c,e⟩:=this;obtain⟨g2,d2,S2,q1,q2,q3,q4,q5⟩:=nS b c e;exact⟨g2,d2,S,a.trans q1,q2.forget q5.box q5.acc,q3,q4,rfl⟩
 ·obtain⟨g',S',a,b,e⟩:=this;have e:ud=r∧Sub S S':=e;exact⟨g',S,a,b.forget e.2.box e.2.acc,e.1,rfl⟩
 ·refine this.mono ?_;rintro e w'' ⟨r',g',d,S',a,b,c,x,y⟩;obtain⟨g2,d2,S2,q1,q2,q3,q4,q5⟩:=nS c x y;exact⟨r',g2,d2,S,a,b.trans q1,q2.forget q5.box q5.acc,q3,q4,rfl⟩
 ·refine fun ro=>(this ro).mono ?_;rintro e w'' ⟨r',g',d,S',a,b,c,x,y⟩;obtain⟨g2,d2,S2,q1,q2,q3,q4,q5⟩:=nS c x y;exact⟨r',g2,d2,S,a,b.trans q1,q2.forget q5.box q5.acc,q3,q4,rfl⟩
 ·exact this
def uE(k:TK)(z x y:DV)(K:DV→Prop):Prop:=match k,x,y with
 | .sl _ s by' true,.v (.int _ n),.v (.int _ m)=>fk z=true∧0≤n∧n≤m∧m*by'≤140737488355328∧m≤9223372036854775807∧K (.sl s false (List.replicate n.toNat z))
 |_,_,_=>False
def uj(a b ke:TK)(x:DV)(K:DV→Prop):Prop:=match a,b,x with
 | .sl _ _ _ _,.str,.sl s _ xs=>ke= .int .u8∧s=1∧nM xs=true∧K (.v (.string (strOfNums (wA xs))))
 |a,b,x=>jx a b x K
def CO(P:Program)(w0:W0)(op:Op)(fr:List DV)(S:St)(K:DV→Prop):Prop:=match op with
 | .makeSlice t x y=>uE (tk P t) (zD P (eH P t)) (ev fr x) (ev fr y) K
 | .convert s d x=>uj (tk P s) (tk P d) (tk P (eH P s)) (ev fr x) K
 |op=>aL P w0 op fr S K
def Yq:Op→Bool
 | .makeSlice ..=>true
 |op=>rk op
def LZ(P:Program)(w0:W0)(S:St)(ops:Array Oper)(K:List DV→St→Prop):List Oper→List DV→Prop
 |[],fr=>K fr S
 |o::rest,fr=>fq (Yq o.op) (cJ ops fr o.guard (fun fr=>CO P w0 o.op fr S fun d=>LZ P w0 S ops K rest (pt fr o.dst d)) (fun fr=>LZ P w0 S ops K rest (pt fr o.dst ud))) (yo P w0 ops K (o::rest) fr S)
theorem xy{o:Oper}{fr:List DV}{S:St}{K:DV→Prop}(hs:iG o.op=true)(h:CO P w0 o.op fr S K):∃d,QY P w0 S o fr d∧K d:=by
 cases hop:o.op with
 |makeSlice t x y=>
  rw[hop]at h;simp only[CO,uE]at h;split at h
  ·rename_i e s by' k1 n k2 m hk hx hy;obtain⟨q1,q2,q3,q4,q5,q6⟩:=h;refine⟨_,ND (tc hop ?_),q6⟩;rw[hk,hx,hy];refine⟨q1,q2,q3,q4,q5,fun l hl=>?_⟩;show shr _ _ _;unfold shr ou;simp only[lk,if_true,aej,true_and];exact⟨ad5 _,by show List.Sublist S.acc (up _ _ _);simp only[up,if_true];exact acy _ _⟩
  ·exact h.elim
 |convert s d x=>
  rw[hop]at h hs;simp only[CO,uj]at h;split at h
  ·rename_i e c b i s0 f xs hk hd hx;obtain⟨q1,q2,q3,q4⟩:=h;refine⟨_,FW (K:=fun d S'=>d=_∧S'=S) hop ?_,q4⟩;rw[hk,hd,hx];exact⟨q1,rfl,q2,q3,rfl,rfl⟩
  ·exact lA (by rw[hop];exact hs) (by rw[hop];exact h)
 |_=>rw[hop]at h hs;exact lA (by rw[hop];exact hs) (by rw[hop];exact h)
section
variable {ops:Array Oper} {K:List DV→St→Prop} {K2:DV→Prop} {fr:List DV} {S:St} {r:List Oper} {dst:Option Tmp} {op:Op} {ty:TypeId} {pos:String} {aft:Array Edge}
@[congr] theorem adG {fr':List DV} (h1:fr=fr'):LZ P w0 S ops K r fr=LZ P w0 S ops K r fr':=by cases h1;rfl
@[congr] theorem aba {fr':List DV} (h1:fr=fr'):CO P w0 op fr S K2=CO P w0 op fr' S K2:=by cases h1;rfl
@[congr] theorem Zc {k k':TK} {z z' x x' y y':DV} (h1:k=k') (h2:z=z') (h3:x=x') (h4:y=y'):uE k z x y K2=uE k' z' x' y' K2:=by cases h1;cases h2;cases h3;cases h4;rfl
@[congr] theorem Yo {k k' q q' ke ke':TK} {x x':DV} (h1:k=k') (h2:q=q') (h3:ke=ke') (h4:x=x'):uj k q ke x K2=uj k' q' ke' x' K2:=by cases h1;cases h2;cases h3;cases h4;rfl
end
end
attribute [go_sem] Yq
end Aml
namespace Aml.Z
open Go Go.RowKit
def kX:Op→Nat
 | .load ..=>1
 | .alloc _=>2
 | .call c=>match c.callee with
  | .value _=>1
  | .builtin .len=>0
  | .builtin .cap=>0
  | .builtin .min=>0
  | .builtin .max=>0
  |_=>3
 | .move _=>0
 | .assign _=>0
 | .pick ..=>0
 | .fieldAddr ..=>0
 | .indexAddr ..=>0
 | .index ..=>0
 | .field ..=>0
 | .extract ..=>0
 | .nilCheck _=>0
 | .binOp ..=>0
 | .unOp ..=>0
 | .convert ..=>0
 | .makeInterface ..=>0
 | .makeFunc ..=>0
 | .slice ..=>0
 | .build ..=>0
 | .buildSlice ..=>0
 | .makeSlice ..=>0
 |_=>3
def Fr(S:St)(B:List (Nat×List DV)):Prop:=∀x,x∈B→jF S.box x.1
def fI(P:Program)(w0:W0)(o:Oper)(fr:List DV)(S:St)(K:List DV→St→Prop):Prop:=
 (kX o.op=0∧∃d,(∀S',QY P w0 S' o fr d)∧K (pt fr o.dst d) S)∨
 (kX o.op=1∧∃d,(∀B,Fr S B→QY P w0 ⟨B++S.box,S.acc⟩ o fr d)∧K (pt fr o.dst d) S)∨
 (kX o.op=2∧∃t,o.op= .alloc t∧fk (zD P t)=true∧∀b,jF S.box b→K (pt fr o.dst (.v (.pointer (some ⟨b,0,none⟩)))) ⟨(b,cd (zD P t))::S.box,S.acc⟩)∨
 (kX o.op=3∧au P w0 o (ev fr) S fun d S'=>K (pt fr o.dst d) S')
def gg(P:Program)(w0:W0)(ops:Array Oper)(o:Oper)(fr:List DV)(S:St)(K:List DV→St→Prop):Prop:=
 (eg ops fr o.guard=some true∧fI P w0 o fr S K)∨(eg ops fr o.guard=some false∧K (pt fr o.dst ud) S)
def od(a b:Nat):Bool:=a==0||(a==1&&decide (b<3))
section
variable {P:Program} {w0:W0} {ops:Array Oper} {md:Region.Mode}
theorem j1{o:Oper}{fr:List DV}{S:St}{K K':List DV→St→Prop}(h:∀fr S,K fr S→K' fr S)(b:fI P w0 o fr S K):fI P w0 o fr S K':=by
 rcases b with⟨c,d,q,k⟩|⟨c,d,q,k⟩|⟨c,t,ht,hz,k⟩|⟨c,q⟩
 ·exact .inl ⟨c,d,q,h _ _ k⟩
 ·exact .inr (.inl ⟨c,d,q,h _ _ k⟩)
 ·exact .inr (.inr (.inl ⟨c,t,ht,hz,fun b hb=>h _ _ (k b hb)⟩))
 ·exact .inr (.inr (.inr ⟨c,bd (fun d S hk=>h _ _ hk) q⟩))
theorem iF{o:Oper}{fr:List DV}{S:St}{K K':List DV→St→Prop}(h:∀fr S,K fr S→K' fr S)(b:gg P w0 ops o fr S K):gg P w0 ops o fr S K':=
 b.imp (fun⟨a,b⟩=>⟨a,j1 h b⟩) fun⟨a,b⟩=>⟨a,h _ _ b⟩
theorem rL{o:Oper}{fr:List DV}{S:St}{K:List DV→St→Prop}{dst:Option Tmp}{e:DV}(h1:∀t,dst=some t→t∉o.looksAt ops)(h2:∀t,dst=some t→o.dst≠some t):
 fI P w0 o (pt fr dst e) S K↔fI P w0 o fr S fun fr' S'=>K (pt fr' dst e) S':=by
 have hq:∀S d,QY P w0 S o (pt fr dst e) d↔QY P w0 S o fr d:=fun S d=>
  ⟨bg (fun x hx=>fN (ops:=ops) h1 x hx),bg (fun x hx=>(fN (ops:=ops) h1 x hx).symm)⟩
 have hc:∀d,pt (pt fr dst e) o.dst d=pt (pt fr o.dst d) dst e:=fun d=>kS fr e d h2
 have hy:∀K,au P w0 o (ev (pt fr dst e)) S K↔au P w0 o (ev fr) S K:=fun K=>
  ⟨bg (fun x hx=>fN (ops:=ops) h1 x hx),bg (fun x hx=>(fN (ops:=ops) h1 x hx).symm)⟩
 unfold fI;simp only[hq,hc,hy]
theorem jW{o:Oper}{fr:List DV}{S:St}{K:List DV→St→Prop}{dst:Option Tmp}{e:DV}(h1:∀t,dst=some t→t∉o.looksAt ops)(h2:∀t,dst=some t→o.dst≠some t):
 gg P w0 ops o (pt fr dst e) S K↔gg P w0 ops o fr S fun fr' S'=>K (pt fr' dst e) S':=by
 unfold gg;rw[jb h1,rL h1 h2,kS fr e ud h2]
theorem nm{o:Oper}{fr:List DV}{S:St}{K K':List DV→St→Prop}(h:∀e S,K (pt fr o.dst e) S→K' (pt fr o.dst e) S)(b:fI P w0 o fr S K):fI P w0 o fr S K':=by
 rcases b with⟨c,d,q,k⟩|⟨c,d,q,k⟩|⟨c,t,ht,hz,k⟩|⟨c,q⟩
 ·exact .inl ⟨c,d,q,h _ _ k⟩
 ·exact .inr (.inl ⟨c,d,q,h _ _ k⟩)
 ·exact .inr (.inr (.inl ⟨c,t,ht,hz,fun b hb=>h _ _ (k b hb)⟩))
 ·exact .inr (.inr (.inr ⟨c,bd (fun d S hk=>h _ _ hk) q⟩))
theorem kz{o:Oper}{fr:List DV}{S:St}{K K':List DV→St→Prop}(h:∀e S,K (pt fr o.dst e) S→K' (pt fr o.dst e) S)(b:gg P w0 ops o fr S K):gg P w0 ops o fr S K':=
 b.imp (fun⟨a,b⟩=>⟨a,nm h b⟩) fun⟨a,b⟩=>⟨a,h _ _ b⟩
theorem sB{x y:Oper}(hap:x.apart ops y=true)(hk:od (kX x.op) (kX y.op)=true){fr:List DV}{S:St}{K:List DV→St→Prop}(h:gg P w0 ops x fr S fun fr S=>gg P w0 ops y fr S K):
 gg P w0 ops y fr S fun fr S=>gg P w0 ops x fr S K:=by
 obtain⟨b1,b2,b3⟩:=Oper.apart_spec hap;have hw:∀e,eg ops (pt fr y.dst e) x.guard=eg ops fr x.guard:=fun e=>jb b3;have hq:∀{S d e},QY P w0 S x fr d→QY P w0 S x (pt fr y.dst e) d:=fun{S d e} q=>bg (fun z hz=>(fN (ops:=ops) b3 z hz).symm) q;rcases h with⟨hg,hb⟩|⟨hg,hb⟩
 ·rcases hb with⟨c,d,q,k⟩|⟨c,d,q,k⟩|⟨c, -⟩|⟨c, -⟩
  ·rw[jW b1 b2]at k;exact kz (fun e S' hk=> .inl ⟨by rw[hw];exact hg,.inl ⟨c,d,fun S''=>hq (q S''),hk⟩⟩) k
  ·rw[jW b1 b2]at k;rcases k with⟨g2,k⟩|⟨g2,k⟩
   ·rcases k with⟨c2,d2,q2,k⟩|⟨c2,d2,q2,k⟩|⟨c2,t,ht,hz,k⟩|⟨c2, -⟩
    ·exact .inl ⟨g2,.inl ⟨c2,d2,q2,.inl ⟨by rw[hw];exact hg,.inr (.inl ⟨c,d,fun B hB=>hq (q B hB),k⟩)⟩⟩⟩
    ·exact .inl ⟨g2,.inr (.inl ⟨c2,d2,q2,.inl ⟨by rw[hw];exact hg,.inr (.inl ⟨c,d,fun B hB=>hq (q B hB),k⟩)⟩⟩)⟩
    ·refine .inl ⟨g2,.inr (.inr (.inl ⟨c2,t,ht,hz,fun b hb=> .inl ⟨by rw[hw];exact hg,.inr (.inl ⟨c,d,fun B hB=>hq ?_,k b hb⟩)⟩⟩))⟩
     have:=q (B++[(b,cd (zD P t))]) fun z hz'=>by
      rcases abD.1 hz' with h|h
      ·exact(hB z h).2.2
      ·simp only[acz]at h;subst h;exact hb
     rw[abA]at this;exact this
    ·rw[c,c2]at hk;exact absurd hk (by decide)
   ·exact .inr ⟨g2,.inl ⟨by rw[hw];exact hg,.inr (.inl ⟨c,d,fun B hB=>hq (q B hB),k⟩)⟩⟩
  ·rw[c]at hk;simp[od]at hk
  ·rw[c]at hk;simp[od]at hk
 ·rw[jW b1 b2]at hb;exact kz (fun e S' hk=> .inr ⟨by rw[hw];exact hg,hk⟩) hb
def mc(P:Program)(w0:W0)(ops:Array Oper)(i:Nat)(fr:List DV)(S:St)(K:List DV→St→Prop):Prop:=match ops[i]? with
 |none=>K fr S
 |some o=>gg P w0 ops o fr S K
def Jz(P:Program)(w0:W0)(md:Region.Mode)(ops:Array Oper)(K:List DV→St→Prop):Nat→Array Bool→List DV→St→Prop
 |0,listed,fr,S=>Region.ready md ops listed=[]∧K fr S
 |fuel+1,listed,fr,S=>(Region.ready md ops listed=[]→K fr S)∧∀i∈Region.ready md ops listed,mc P w0 ops i fr S (Jz P w0 md ops K fuel (listed.setIfInBounds i true))
theorem sg{K:List DV→St→Prop}{i:Nat}{oi:Oper}(hi:ops[i]? =some oi):
 ∀(fuel:Nat) (listed:Array Bool) (fr:List DV) (S:St),
  (∀j oj,ops[j]? =some oj→j≠i→listed.getD j true=false→(∀e∈oj.after,Region.binds md e=true→e.on≠i)→oi.apart ops oj=true∧od (kX oi.op) (kX oj.op)=true)→
  (∀l:List Nat,l.Nodup→(∀k,k∈l→listed.getD k true=false)→l.length≤fuel+1)→
  i∈Region.ready md ops listed→gg P w0 ops oi fr S (Jz P w0 md ops K fuel (listed.setIfInBounds i true))→Jz P w0 md ops K (fuel+1) listed fr S:=by
 intro fuel
 induction fuel with
 |zero=>
  intro listed fr S _ hcnt hr H;refine⟨fun h=>(by rw[h]at hr;cases hr),fun j hj=>?_⟩;by_cases hji:j=i
  ·subst hji;unfold mc;simp only[hi];exact H
  ·exfalso
   have:=hcnt [i,j] (by simp[Ne.symm hji]) fun k hk=>by
    simp only[ab6,afJ,or_false]at hk;rcases hk with rfl|rfl
    ·exact(mem_ready.1 hr).1
    ·exact(mem_ready.1 hj).1
   simp at this
 |succ fuel ih=>
  intro listed fr S hfree hcnt hr H;refine⟨fun h=>(by rw[h]at hr;cases hr),fun j hj=>?_⟩;by_cases hji:j=i
  ·subst hji;unfold mc;simp only[hi];exact H
  ·obtain⟨hjun,oj,hoj,hall⟩:=mem_ready.1 hj
   have hnot:∀e∈oj.after,Region.binds md e=true→e.on≠i:=fun e he hb heq=>by
    have h1:=hall e he hb;have h0:=(mem_ready.1 hr).1;rw[heq]at h1;rcases adR i listed.size with h'|h'
    ·simp[h']at h0 h1;rw[h0]at h1;cases h1
    ·simp[aek h']at h1
   have h1:gg P w0 ops oi fr S fun fr S=>gg P w0 ops oj fr S (Jz P w0 md ops K fuel ((listed.setIfInBounds i true).setIfInBounds j true)):=
    iF (fun fr S h=>by
     have:=h.2 j (ready_mono hj hji);unfold mc at this;simp only[hoj]at this;exact this) H
   have hc:=hfree j oj hoj hji hjun hnot;have h2:=sB hc.1 hc.2 h1
   have hfree':∀k ok,ops[k]? =some ok→k≠i→(listed.setIfInBounds j true).getD k true=false→
    (∀e∈ok.after,Region.binds md e=true→e.on≠i)→oi.apart ops ok=true∧od (kX oi.op) (kX ok.op)=true:=fun k ok hk hki hun hno=>by
    refine hfree k ok hk hki ?_ hno;by_cases hjk:j=k
    ·subst hjk;exact hjun
    ·rw[getD_set_ne true hjk]at hun;exact hun
   unfold mc;simp only[hoj]
   have hcnt':∀l:List Nat,l.Nodup→(∀k,k∈l→(listed.setIfInBounds j true).getD k true=false)→l.length≤fuel+1:=by
    intro l hn hl
    have hjs:j<listed.size:=by
     rcases adR j listed.size with h|h
     ·exact h
     ·rw[adW,aek h]at hjun;cases hjun
    have hjl:j∉l:=fun hj=>by
     have:=hl j hj;rw[adW,ad1]at this;simp[hjs]at this
    have:=hcnt (j::l) (aec.2 ⟨hjl,hn⟩) fun k hk=>by
     rcases ab6.1 hk with rfl|hk
     ·exact hjun
     ·have:=hl k hk;rw[getD_set_ne true (show j≠k from fun e=>hjl (e▸hk))]at this;exact this
    simp at this;omega
   refine iF (fun fr S h=>ih (listed.setIfInBounds j true) fr S hfree' hcnt' (ready_mono hr (Ne.symm hji)) ?_) h2;rw[afH _ _ hji];exact h
def Ag(md:Region.Mode)(ops:Array Oper)(listed:Array Bool)(i:Nat):Bool:=(List.range ops.size).all fun j=>match ops[i]?,ops[j]? with
 |some oi,some oj=>j==i||listed.getD j true||oj.after.any (fun e=>Region.binds md e&&e.on==i)||(oi.apart ops oj&&od (kX oi.op) (kX oj.op))
 |_,_=>false
def sw(md:Region.Mode)(ops:Array Oper):Nat→Nat→Array Bool→Bool
 |0,_,listed=>(Region.ready md ops listed).isEmpty
 |n+1,k,listed=>(Region.ready md ops listed).contains k&&Ag md ops listed k&&sw md ops n (k+1) (listed.setIfInBounds k true)
theorem pv{listed:Array Bool}{i:Nat}{oi:Oper}(hi:ops[i]? =some oi)(h:Ag md ops listed i=true):∀j oj,ops[j]? =some oj→j≠i→listed.getD j true=false→(∀e∈oj.after,Region.binds md e=true→e.on≠i)→oi.apart ops oj=true∧od (kX oi.op) (kX oj.op)=true:=by
 intro j oj hj hji hun hno;have hlt:j<ops.size:=(abF.1 hj).1;have:=adY.1 h j (aeF.2 hlt);simp only[hi,hj,hun,Bool.or_false,ael,beq_iff_eq,abG]at this;rcases this with(h|h)|h
 ·exact absurd h hji
 ·exfalso
  obtain⟨e,he,h⟩:=afQ.1 h;simp only[abG,beq_iff_eq]at h;exact hno e he h.1 h.2
 ·exact h
def LX(P:Program)(w0:W0)(ops:Array Oper)(K:List DV→St→Prop):List Oper→List DV→St→Prop
 |[],fr,S=>K fr S
 |o::rest,fr,S=>gg P w0 ops o fr S (LX P w0 ops K rest)
theorem qg{K:List DV→St→Prop}:∀(l:List Oper) (k:Nat) (listed:Array Bool) (fr:List DV) (S:St),(∀j,l[j]? =ops[k+j]?)→
 (∀l':List Nat,l'.Nodup→(∀k,k∈l'→listed.getD k true=false)→l'.length≤l.length)→
 sw md ops l.length k listed=true→LX P w0 ops K l fr S→Jz P w0 md ops K l.length listed fr S
 |[],_,_,_,_,_,_,hB,h=>⟨by simpa[sw]using hB,h⟩
 |o::l,k,listed,fr,S,hl,hcnt,hB,h=>by
  have h0:ops[k]? =some o:=by simpa using(hl 0).symm
  simp only[abx,sw,abG]at hB;obtain⟨⟨hr,hf⟩,hB'⟩:=hB;have hr':k∈Region.ready md ops listed:=by simpa using hr
  have hun:=(mem_ready.1 hr').1;refine sg h0 l.length listed fr S (pv h0 hf) (by simpa using hcnt) hr' ?_;refine iF (fun fr S h=>qg l (k+1) _ fr S (fun j=>by have:=hl (j+1);simpa[aex,aeO 1 j]using this) ?_ hB' h) h;intro l' hn hl'
  have hks:k<listed.size:=by
   rcases adR k listed.size with h|h
   ·exact h
   ·rw[adW,aek h]at hun;cases hun
  have hkl:k∉l':=fun hk=>by
   have:=hl' k hk;rw[adW,ad1]at this;simp[hks]at this
  have:=hcnt (k::l') (aec.2 ⟨hkl,hn⟩) fun m hm=>by
   rcases ab6.1 hm with rfl|hm
   ·exact hun
   ·have:=hl' m hm;rw[getD_set_ne true (show k≠m from fun e=>hkl (e▸hm))]at this;exact this
  simp at this;omega
theorem mP{o:Oper}{fr:List DV}{S:St}{K:List DV→St→Prop}(h:fI P w0 o fr S K):au P w0 o (ev fr) S fun d S'=>K (pt fr o.dst d) S':=by
 rcases h with⟨c,d,q,k⟩|⟨c,d,q,k⟩|⟨c,t,ht,hz,k⟩|⟨c,q⟩
 ·exact bd (fun d' S' h=>by rw[h.1,h.2];exact k) (q S)
 ·have:=q [] (fun x hx=>by cases hx);exact bd (fun d' S' h=>by rw[h.1,h.2];exact k) this
 ·exact tP ht ⟨hz,k⟩
 ·exact q
theorem fi{ro:Option Nat}{g0:Gh}{Q:Exit→List DV→St→Prop}:∀(fuel:Nat) (listed:Array Bool) (fr:List DV) (S:St) (g:Gh) (a:Act) (w:World),g0.le g→Rel w0 g S w→aq g fr a.tmps.toList→Dk w0 g.obj a w→
 Jz P w0 md ops (fun fr S=>Q .normal fr S) fuel listed fr S→wpAnyIn (fz ro) 0 P md ops (Good w0 g0 Q) fuel listed a w
 |0,listed,fr,S,g,a,w,k,h1,h2,h3,h=>⟨h.1,k.kd h3,g,fr,S,k,h1,h2,h.2⟩
 |fuel+1,listed,fr,S,g,a,w,k,h1,h2,h3,h=>by
  refine⟨fun h0=>⟨k.kd h3,g,fr,S,k,h1,h2,h.1 h0⟩,fun i hi=>?_⟩;have hq:=h.2 i hi;unfold mc at hq;unfold wpOpIn;split
  ·rename_i ho;simp only[ho]at hq;exact fi fuel _ fr S g a w k h1 h2 h3 hq
  ·rename_i o ho;simp only[ho]at hq;rcases hq with⟨hw,hb⟩|⟨hw,hk⟩
   ·have hw':=fh (o:=o) h2 hw;rw[if_pos hw'];refine eJ (mP hb) h1 (fun x _=>nZ h2 x) h3 fun g' d' u S' w' k1 k2 k3 k4 k5=>?_;exact fi fuel _ _ _ g' _ _ (k.trans k1) k2 (eo (h2.mono k1) _ k3) (k1.dk k5) k4
   ·have hw':=fh (o:=o) h2 hw;rw[if_neg (by simp[hw'])];exact⟨fun _ _=>trivial,fi fuel _ _ _ g _ _ k h1 (eo h2 _ (kG g)) (h3.keep (put_defers _ _ _) fun _ _ h _=>h) hk⟩
theorem sc{id:Nat}{l:List Oper}{fr:List DV}{S:St}{Q:Exit→List DV→St→Prop}(hm:P.follows .mixedOrders=true)(hB:sw .any l.toArray l.length 0 (Array.replicate l.length false)=true)(h:LX P w0 l.toArray (fun fr S=>Q .normal fr S) l fr S):gF P w0 (.region id l.toArray true) fr S Q:=by
 intro g a w h1 h2 h3;refine ie hm fun ro=>?_;have hR:Rel w0 g S {w with drawn:=w.drawn+1}:=h1.grow (mT w)
 have hcnt:∀l':List Nat,l'.Nodup→(∀k,k∈l'→(Array.replicate l.length false).getD k true=false)→l'.length≤l.length:=by
  intro l' hn hl
  have hsub:∀k,k∈l'→k∈List.range l.length:=fun k hk=>by
   have:=hl k hk;rw[aeF];rcases adR k l.length with h|h
   ·exact h
   ·rw[adW,aek (by simpa using h)]at this;cases this
  have:=hn.length_le_of_subset (l₂:=List.range l.length) hsub;simpa using this
 have:=qg (P:=P) (w0:=w0) (md:= .any) (ops:=l.toArray) l 0 (Array.replicate l.length false) fr S (by simp) hcnt hB h;have:=fi (ro:=ro) (g0:=g) (Q:=Q) _ _ fr S g a _ (.refl g) hR h2 (h3.keep rfl fun _ _ h _=>h) this;simpa using this
theorem p8{op:Op}(hk:kX op=0){fr:List DV}{S:St}{K:DV→Prop}(h:aL P w0 op fr S K):∃d,(∀S',aL P w0 op fr S' (·=d))∧K d:=by
 cases op with
 |move x=>exact⟨_,fun _=>rfl,h⟩
 |assign x=>exact⟨_,fun _=>rfl,h⟩
 |pick c a b=>obtain⟨d,q1,q2⟩:=vt h;exact⟨d,fun _=>q1,q2⟩
 |fieldAddr t x f=>obtain⟨d,q1,q2⟩:=sy h;exact⟨d,fun _=>q1,q2⟩
 |indexAddr t x i=>obtain⟨d,q1,q2⟩:=F2 h;exact⟨d,fun _=>q1,q2⟩
 |index t x i=>obtain⟨d,q1,q2⟩:=rC h;exact⟨d,fun _=>q1,q2⟩
 |field t x f=>obtain⟨d,q1,q2⟩:=pP h;exact⟨d,fun _=>q1,q2⟩
 |extract x i=>obtain⟨d,q1,q2⟩:=nE h;exact⟨d,fun _=>q1,q2⟩
 |nilCheck x=>exact⟨_,fun _=>⟨h.1,rfl⟩,h.2⟩
 |binOp b t x y t'=>obtain⟨d,q1,q2⟩:=vJ h.2;exact⟨d,fun _=>⟨h.1,q1⟩,q2⟩
 |unOp b t x=>obtain⟨d,q1,q2⟩:=Fx h;exact⟨d,fun _=>q1,q2⟩
 |convert s d x=>obtain⟨d,q1,q2⟩:=vL h;exact⟨d,fun _=>q1,q2⟩
 |makeInterface t x=>exact⟨_,fun _=>⟨h.1,h.2.1,rfl⟩,h.2.2⟩
 |makeFunc fn a b=>obtain⟨d,q1,q2⟩:=ur h;exact⟨d,fun _=>q1,q2⟩
 |slice t x lo hi mx=>obtain⟨d,q1,q2⟩:=r8 h.2.2;exact⟨d,fun _=>⟨h.1,h.2.1,q1⟩,q2⟩
 |build t parts=>obtain⟨d,q1,q2⟩:=rI h.2;exact⟨d,fun _=>⟨h.1,q1⟩,q2⟩
 |buildSlice t len parts=>obtain⟨d,q1,q2⟩:=kC h.2;exact⟨d,fun _=>⟨h.1,q1⟩,q2⟩
 |call c=>
  obtain⟨callee,args,ts⟩:=c;simp only[aL]at h ⊢;split at h
  ·split at h
   ·obtain⟨d,q1,q2⟩:=zB h;exact⟨d,fun _=>by simpa using q1,q2⟩
   ·exact h.elim
  ·split at h
   ·obtain⟨d,q1,q2⟩:=yu h;exact⟨d,fun _=>by simpa using q1,q2⟩
   ·exact h.elim
  ·split at h
   ·obtain⟨d,q1,q2⟩:=yX h;exact⟨d,fun _=>by simpa using q1,q2⟩
   ·exact h.elim
  ·split at h
   ·obtain⟨d,q1,q2⟩:=zh h;exact⟨d,fun _=>by simpa using q1,q2⟩
   ·exact h.elim
  ·cases hk
  ·cases hk
  ·exact h.elim
 |_=>first|exact h.elim|cases hk
theorem xE{op:Op}(hk:kX op=0){fr:List DV}{S:St}{K:DV→Prop}(h:CO P w0 op fr S K):∃d,(∀S',CO P w0 op fr S' (·=d))∧K d:=by
 cases op with
 |makeSlice t x y=>
  simp only[CO,uE]at h ⊢;split at h
  ·obtain⟨q1,q2,q3,q4,q5,q6⟩:=h;exact⟨_,fun _=>⟨q1,q2,q3,q4,q5,rfl⟩,q6⟩
  ·exact h.elim
 |convert s d x=>
  simp only[CO]at h ⊢;unfold uj at h ⊢;split at h
  ·obtain⟨q1,q2,q3,q4⟩:=h;exact⟨_,fun _=>⟨q1,q2,q3,rfl⟩,q4⟩
  ·obtain⟨dd,p1,p2⟩:=p8 (P:=P) (w0:=w0) (op:= .convert s d x) (fr:=fr) (S:=S) (K:=K) rfl h;exact⟨dd,p1,p2⟩
 |_=>exact p8 (P:=P) (w0:=w0) (S:=S) (fr:=fr) hk h
theorem D7{S:St}{B:List (Nat×List DV)}(hB:Fr S B){b:Nat}{ds:List DV}(h:lk S.box b=some ds):lk (B++S.box) b=some ds:=by
 induction B with
 |nil=>exact h
 |cons x B ih=>
  have h1:=hB x aaX;have hne:¬x.1=b:=fun e=>by rw[e]at h1;rw[n0 h1]at h;cases h
  obtain⟨k,y⟩:=x;show lk ((k,y)::(B++S.box)) b=_;rw[qQ hne];exact ih fun z hz=>hB z (abn _ hz)
theorem uo{k:TK}{S:St}{x:DV}{K:DV→Prop}{B:List (Nat×List DV)}(hB:Fr S B)(h:cn k S x K):cn k ⟨B++S.box,S.acc⟩ x K:=by
 unfold cn at*;split at h
 ·split at h
  ·rename_i ds hb;simp only[D7 hB hb];exact h
  ·exact h.elim
 ·exact h
 ·exact h
 ·exact h.elim
end
def QX(P:Program)(w0:W0)(f:FuncId)(ds:List DV)(S:St)[K:Cn (DV→Prop)]:Prop:=∃d,(∀B,Fr S B→ab P w0 f ds ⟨B++S.box,S.acc⟩ fun d' S'=>d'=d∧S'=⟨B++S.box,S.acc⟩)∧K.k d
def iI(P:Program)(w0:W0)(cal:DV)(ds:List DV)(S:St)(K:DV→Prop):Prop:=match cal with
 | .v (.func (.func f) a cap)=>a.size=0∧okF P f=true∧cap.toList.all (fun u=>u.oneCell')=true∧ds.all ic=true∧@QX P w0 f (ds++cap.toList.map .v) S ⟨K⟩
 |_=>False
def nh(P:Program)(w0:W0)(op:Op)(fr:List DV)(S:St)(K:DV→St→Prop):Prop:=match op with
 | .load t x=>cn (tk P t) S (ev fr x) (K · S)
 | .alloc t=>fk (zD P t)=true∧Gl S (zD P t) K
 | .call ⟨.value cal,args,_⟩=>iI P w0 (ev fr cal) (args.toList.map (ev fr)) S (K · S)
 |op=>fq (kX op==0) (CO P w0 op fr S (K · S)) (aU P w0 op fr S K)
def pI(P:Program)(w0:W0)(ops:Array Oper)(K:List DV→St→Prop):List Oper→List DV→St→Prop
 |[],fr,S=>K fr S
 |o::rest,fr,S=>cJ ops fr o.guard (fun fr=>nh P w0 o.op fr S fun d S'=>pI P w0 ops K rest (pt fr o.dst d) S') (fun fr=>pI P w0 ops K rest (pt fr o.dst ud) S)
section
variable {P:Program} {w0:W0} {ops:Array Oper} {md:Region.Mode}
theorem r9{o:Oper}{fr:List DV}{S:St}{K:List DV→St→Prop}(hs:iG o.op=true)(h:nh P w0 o.op fr S fun d S'=>K (pt fr o.dst d) S'):fI P w0 o fr S K:=by
 have gen:∀(h:fq (kX o.op==0) (CO P w0 o.op fr S fun d=>K (pt fr o.dst d) S) (aU P w0 o.op fr S fun d S'=>K (pt fr o.dst d) S')),kX o.op=0∨kX o.op=3→fI P w0 o fr S K:=by
  intro h hk;rcases hk with hk|hk
  ·rw[hk]at h;obtain⟨d,q1,q2⟩:=xE hk (show CO P w0 o.op fr S fun d=>K (pt fr o.dst d) S from h)
   exact .inl ⟨hk,d,fun S'=>by
    obtain⟨d',k1,k2⟩:=xy hs (q1 S');subst k2;exact k1,q2⟩
  ·rw[hk]at h;exact .inr (.inr (.inr ⟨hk,bV hs h⟩))
 cases hop:o.op with
 |load t x=>
  rw[hop]at h hs;obtain⟨d,q1,q2⟩:=qM (show cn (tk P t) S (ev fr x) (fun d=>K (pt fr o.dst d) S)from h);refine .inr (.inl ⟨by rw[hop];rfl,d,fun B hB=>?_,q2⟩);exact bV (by rw[hop];exact hs) (by rw[hop];simpa[aU]using uo hB q1)
 |alloc t=>
  rw[hop]at h;exact .inr (.inr (.inl ⟨by rw[hop];rfl,t,hop,h.1,h.2⟩))
 |call c=>
  obtain⟨callee,args,ts⟩:=c
  cases callee with
  |value cal=>
   rw[hop]at h hs;simp only[nh,iI]at h;split at h
   ·rename_i f a cap hcal;obtain⟨h1,h2,h3,h4,d,h5,h6⟩:=h;refine .inr (.inl ⟨by rw[hop];rfl,d,fun B hB=>?_,h6⟩);exact bV (by rw[hop];exact hs) (by rw[hop];simp only[aU,hcal];exact ri h1 h3 (by rw[h2,MY];exact nO h4 (h5 B hB)))
   ·exact h.elim
  |builtin b=>
   refine gen (by rw[hop]at h ⊢;exact h) ?_;rw[hop];cases b <;>first|exact .inl rfl|exact .inr rfl
  |invoke r m=>
   refine gen (by rw[hop]at h ⊢;exact h) ?_;rw[hop];exact .inr rfl
 |_=>refine gen (by rw[hop]at h ⊢;exact h) ?_;rw[hop];first|exact .inl rfl|exact .inr rfl
theorem gy{K:List DV→St→Prop}:∀(l:List Oper) {fr:List DV} {S:St},l.all (fun o=>iG o.op)=true→pI P w0 ops K l fr S→LX P w0 ops K l fr S
 |[],fr,S,_,h=>h
 |o::rest,fr,S,hs,h=>by
  simp only[afk,abG]at hs;rcases kW h with⟨hw,ha⟩|⟨hw,hb⟩
  ·exact .inl ⟨hw,j1 (fun fr S h=>gy rest hs.2 h) (r9 hs.1 ha)⟩
  ·exact .inr ⟨hw,gy rest hs.2 hb⟩
def Yg(l:List Oper):Bool:=l.all (fun o=>iG o.op)&&sw .any l.toArray l.length 0 (Array.replicate l.length false)
theorem pT{id:Nat}{l:List Oper}{fr:List DV}{S:St}{Q:Exit→List DV→St→Prop}(hm:P.follows .mixedOrders=true)(hB:Yg l=true)(h:pI P w0 l.toArray (fun fr S=>kE fr fun fr=>Q .normal fr S) l fr S):gF P w0 (.region id l.toArray true) fr S Q:=by
 simp only[Yg,abG]at hB;exact sc hm hB.2 (gy l hB.1 h)
theorem kM{f:FuncId}{args args':List DV}{S:St}{K:DV→Prop}{r:DV}(h:∀B,Fr S B→ab P w0 f args' ⟨B++S.box,S.acc⟩ (fun d S'=>d=r∧S'=⟨B++S.box,S.acc⟩))(hk:K r)(ha:fV args args':=by exact fV.refl _):@QX P w0 f args S ⟨K⟩:=
 ⟨r,fun B hB=>lX (h B hB) ha ⟨rfl,rfl⟩,hk⟩
end
end Aml.Z
namespace Aml.Z
open Go Go.RowKit
section
variable {P:Program} {w0:W0} {ops:Array Oper} {fr:List DV} {S:St} {rest:List Oper} {dst:Option Tmp} {op:Op} {ty:TypeId} {pos:String} {aft:Array Edge}
section
variable {K:List DV→St→Prop}
theorem Lt:pI P w0 ops K [] fr S=K fr S:=rfl
theorem Ew:pI P w0 ops K (⟨dst,op,ty,pos,aft,none⟩::rest) fr S=nh P w0 op fr S fun d S'=>pI P w0 ops K rest (pt fr dst d) S':=rfl
end
variable {K:DV→St→Prop}
theorem DK(t:TypeId)(x:Operand):nh P w0 (.load t x) fr S K=cn (tk P t) S (ev fr x) (K · S):=rfl
theorem zl(t:TypeId):nh P w0 (.alloc t) fr S K=(fk (zD P t)=true∧Gl S (zD P t) K):=rfl
theorem D9(cal:Operand)(a:List Operand)(ts:Array TypeId):nh P w0 (.call ⟨.value cal,a.toArray,ts⟩) fr S K=iI P w0 (ev fr cal) (a.map (ev fr)) S (K · S):=rfl
theorem yM(f:FuncId)(a cap:Array Value)(ds:List DV)(K:DV→Prop):iI P w0 (.v (.func (.func f) a cap)) ds S K=(a.size=0∧okF P f=true∧cap.toList.all (fun u=>u.oneCell')=true∧ds.all ic=true∧@QX P w0 f (ds++cap.toList.map .v) S ⟨K⟩):=rfl
@[congr] theorem Mj {cal cal':DV} {ds ds':List DV} {S':St} {K:DV→Prop} (h1:cal=cal') (h2:ds=ds') (h3:S=S'):iI P w0 cal ds S K=iI P w0 cal' ds' S' K:=by cases h1;cases h2;cases h3;rfl
theorem Em(x:Operand):nh P w0 (.move x) fr S K=aL P w0 (.move x) fr S (K · S):=rfl
theorem vC(x:Operand):nh P w0 (.assign x) fr S K=aL P w0 (.assign x) fr S (K · S):=rfl
theorem nu(t:TypeId)(x:Operand)(f:Nat):nh P w0 (.fieldAddr t x f) fr S K=aL P w0 (.fieldAddr t x f) fr S (K · S):=rfl
theorem nv(t:TypeId)(x i:Operand):nh P w0 (.indexAddr t x i) fr S K=aL P w0 (.indexAddr t x i) fr S (K · S):=rfl
theorem rp(x:Operand)(i:Nat):nh P w0 (.extract x i) fr S K=aL P w0 (.extract x i) fr S (K · S):=rfl
theorem pZ(x:Operand):nh P w0 (.nilCheck x) fr S K=aL P w0 (.nilCheck x) fr S (K · S):=rfl
theorem zE(b:BinOp)(t:TypeId)(x y:Operand)(t':TypeId):nh P w0 (.binOp b t x y t') fr S K=aL P w0 (.binOp b t x y t') fr S (K · S):=rfl
theorem yv(t:TypeId)(parts:Array (Nat×Operand)):nh P w0 (.build t parts) fr S K=aL P w0 (.build t parts) fr S (K · S):=rfl
theorem mN(t:TypeId)(len:Nat)(parts:Array (Nat×Operand)):nh P w0 (.buildSlice t len parts) fr S K=aL P w0 (.buildSlice t len parts) fr S (K · S):=rfl
theorem yL(t:TypeId)(x y:Operand):nh P w0 (.store t x y) fr S K=aU P w0 (.store t x y) fr S K:=rfl
theorem zb(a:Array Operand)(ts:Array TypeId):nh P w0 (.call ⟨.builtin .len,a,ts⟩) fr S K=aL P w0 (.call ⟨.builtin .len,a,ts⟩) fr S (K · S):=rfl
end
attribute [go_sem ↓] Lt Ew DK zl D9 yM Em vC nu nv rp pZ zE yv mN yL zb
theorem yx(b:Bool):(b==false)=!b:=by cases b <;>rfl
attribute [go_sem] yx
end Aml.Z
namespace Aml
open Go Go.RowKit
section
variable {P:Program} {w0:W0}
end
theorem Ck(k k':Value)(d:DV):∀es:List (Value×DV×Nat),((es.map (sK k d)).find? fun e=>@decide (e.1=k') (Classical.propDecidable _))=(es.find? fun e=>@decide (e.1=k') (Classical.propDecidable _)).map (sK k d):=by
 intro es;rw[List.find?_map];congr 2;funext e;simp only[Function.comp];rcases Classical.em (e.1=k)with h|h
 ·rw[yj h]
 ·rw[yZ h]
theorem lJ(es:List (Value×DV×Nat))(clk:Nat)(k:Value)(d:DV):jq (kP es clk k d) k=some d:=by
 unfold kP
 cases hg:jq es k with
 |none=>
  simp only[afr,adP,if_false];unfold jq at hg ⊢;rw[afi];rw[Option.map_eq_none_iff]at hg;rw[hg];simp
 |some x=>
  simp only[Option.isSome_some,if_true];unfold jq at hg ⊢;rw[Ck];obtain⟨y,hy,_⟩:=acT.1 hg;rw[hy];have:=List.find?_some hy;simp only[decide_eq_true_eq]at this;simp[yj this]
theorem sR(es:List (Value×DV×Nat))(clk:Nat){k k':Value}(e:k'≠k)(d:DV):jq (kP es clk k d) k'=jq es k':=by
 unfold kP
 cases hg:jq es k with
 |none=>
  simp only[afr,adP,if_false];unfold jq;rw[afi]
  have:List.find? (fun e=>@decide (e.1=k') (Classical.propDecidable _)) [(k,d,clk)]=none:=by
   rw[aeT];intro x hx;rw[acz]at hx;subst hx;simp;exact fun h=>e h.symm
  rw[this,Option.or_none]
 |some x=>
  simp only[Option.isSome_some,if_true];unfold jq;rw[Ck]
  cases hf:es.find? fun e=>@decide (e.1=k') (Classical.propDecidable _)with
  |none=>rfl
  |some y=>
   have:=List.find?_some hf;simp only[decide_eq_true_eq]at this;simp only[aeN];rw[yZ (by rw[this];exact e)]
end Aml
namespace Go.Proofs.YtpjenciplibdnaaGreatDoor
open Aml Go
@[go_sem] def dL (l:List Int):DV:= .sl 1 false (l.map dI)
theorem aC{α:Type}{l:List α}{k:Nat}{a b:α}(h:l[k]? =some a)(h':l[k]? =some b):a=b:=by rw[h]at h';exact aen h'
def kL(a b:ByteArray):Bool:=Op.bytesLess a.data.toList b.data.toList||decide (a.data.toList=b.data.toList)
def cC(a b:ByteArray):Bool:=Op.bytesLess a.data.toList b.data.toList
def eF(a b:ByteArray):Bool:=decide (a.data.toList=b.data.toList)
@[go_sem] theorem abd (a b:ByteArray) (K:DV→Prop):j3 .eql a b K=K (.v (.bool (eF a b))):=rfl
@[go_sem] theorem abj (a b:ByteArray) (K:DV→Prop):j3 .neq a b K=K (.v (.bool (!eF a b))):=rfl
@[go_sem] theorem abc (a b:ByteArray) (K:DV→Prop):j3 .lss a b K=K (.v (.bool (cC a b))):=rfl
@[go_sem] theorem abo (a b:ByteArray) (K:DV→Prop):j3 .leq a b K=K (.v (.bool (kL a b))):=rfl
@[go_sem] theorem abH (a b:ByteArray) (K:DV→Prop):j3 .geq a b K=K (.v (.bool (!cC a b))):=rfl
def need(z:Int):Nat:=if 16<z∧z≤400 then((z+118)/119).toNat else 0
theorem qj(z:Int):need z≤4:=by unfold need;split <;>omega
theorem sP(w0:W0)(z:Int)(S:St):ab Tryz.prog w0 107 [dI z] S (fun d S'=>d=dI (need z)∧S'=S):=by
 refine aJ [] mx Tryz.func107 rfl rfl (by kernel_rfl) ?_;refine @aa _ (ai @Tryz.ntmps107 ?_);have hn:=qj z;refine aw [] (need z) [0,3] (fun k=>[(3,dI k)]) (fun _=>S) (fun _=>True) mx (by kernel_rfl) ?_ ?_
 ·exact @aa _ aF
 ·intro k hk _;refine @aa _ (af ?_);have e1:IntKind.i64.wrap ((k:Int)*119)=(k:Int)*119:=aG (by omega) (by omega);have e2:IntKind.i64.wrap ((k:Int)+1)=((k+1:Nat):Int):=by rw[aG (by omega) (by omega)];omega
  simp only[e1,e2];have hneed:16<z∧z≤400→(need z:Int)=(z+118)/119:=fun h=>by unfold need;rw[if_pos h];omega
  have hno:¬(16<z∧z≤400)→need z=0:=fun h=>by unfold need;rw[if_neg h]
  refine⟨fun h1=>⟨fun h2=>⟨fun h3=>⟨?_,trivial⟩,fun h3=>?_⟩,fun h2=>?_⟩,fun h1=>?_⟩
  ·have:=hneed ⟨h1,h2⟩;omega
  ·have:=hneed ⟨h1,h2⟩;omega
  ·have:=hno (by omega);omega
  ·have:=hno (by omega);omega
def Bd(l:List Int):Prop:=l.length≤1048576∧∀x,x∈l→0≤x∧x≤1048576
theorem MK:∀(l:List Int),(∀x,x∈l→0≤x∧x≤1048576)→0≤l.sum∧l.sum≤1048576*l.length
 |[],_=>by simp
 |a::l,h=>by
  have h1:=MK l fun x hx=>h x (abn _ hx);have h2:=h a aaX;simp only[adb,abx];omega
theorem Bd.take{l:List Int}(h:Bd l)(k:Nat):Bd (l.take k):=⟨by rw[aaE];have:=h.1;omega,fun x hx=>h.2 x (ac5 hx)⟩
theorem Bd.drop{l:List Int}(h:Bd l)(k:Nat):Bd (l.drop k):=⟨by rw[acv];have:=h.1;omega,fun x hx=>h.2 x (adk hx)⟩
theorem Bd.sum{l:List Int}(h:Bd l):0≤l.sum∧l.sum≤1099511627776:=by
 have:=MK l h.2;have:=h.1;omega
theorem vn{l:List Int}{k:Nat}{a:Int}(h:l[k]? =some a):(l.take (k+1)).sum=(l.take k).sum+a:=by
 rw[abZ,h];simp
theorem Hg(w0:W0)(l:List Int)(S:St)(h:Bd l):ab Tryz.prog w0 236 [dL l] S (fun d S'=>d=dI l.sum∧S'=S):=by
 refine aJ [] mx Tryz.func236 rfl rfl (by kernel_rfl) ?_;refine @aa _ (ai @Tryz.ntmps236 ?_);refine aw [] l.length [0,3,4] (fun k=>[(3,dI (l.take k).sum),(4,dI k)]) (fun _=>S) (fun _=>True) mx (by kernel_rfl) ?_ ?_
 ·refine @aa _ (af ?_);rfl
 ·intro k hk _;have h0:=h.1;refine @aa _ (af ?_);refine⟨fun hlt=>⟨hlt,fun a ha=>⟨by omega,?_,?_⟩⟩,fun hge=>?_⟩
  ·have:=(h.take (k+1)).sum;rw[vn ha]at this ⊢;exact aG (by omega) (by omega)
  ·rw[aG (by omega) (by omega)];omega
  ·rw[aaA (by omega)]
def fy(l:List Int)(at_:Nat):Int:=if(l.take at_).sum>(l.drop at_).sum then(l.take at_).sum else(l.drop at_).sum
theorem MA(w0:W0)(l:List Int)(i:Nat)(S:St)(h:Bd l)(hi:i≤l.length):ab Tryz.prog w0 237 [dL l,dI i] S (fun d S'=>d=dI (fy l i)∧S'=S):=by
 refine aJ [] mx Tryz.func237 rfl rfl (by kernel_rfl) ?_;refine @aa _ (ai @Tryz.ntmps237 ?_);have h0:=h.1;refine⟨hi,ae (Hg w0 _ _ (h.take i)) ?_⟩;refine @aa _ (af ?_);refine⟨hi,ae (Hg w0 _ _ (h.drop i)) ?_⟩;refine @aa _ (af ?_);unfold fy;refine⟨fun hg=>by rw[if_pos hg],fun hg=>by rw[if_neg hg]⟩
def tp(l:List Int):Nat→Nat
 |0=>1
 |j+1=>if fy l (j+2)<fy l (tp l j)then j+2 else tp l j
theorem yg(l:List Int):∀j,1≤tp l j∧tp l j≤j+1
 |0=>⟨abI _,abI _⟩
 |j+1=>by
  have:=yg l j;simp only[tp];split <;>omega
def atR(l:List Int):Nat:=if l.sum≤122∨l.length<2 then 0 else tp l (l.length-2)
theorem DI(l:List Int)(h:atR l≠0):1≤atR l∧atR l<l.length:=by
 unfold atR at*;split at h
 ·exact absurd rfl h
 ·rename_i hn;rw[if_neg hn];have:=yg l (l.length-2);have:¬l.length<2:=fun h=>hn (.inr h);omega
theorem atW(w0:W0)(l:List Int)(S:St)(h:Bd l):ab Tryz.prog w0 203 [dL l] S (fun d S'=>d=dI (atR l)∧S'=S):=by
 refine aJ [] mx Tryz.func203 rfl rfl (by kernel_rfl) ?_;refine @aa _ (ai @Tryz.ntmps203 ?_);have h0:=h.1;refine ae (Hg w0 _ _ h) ?_;refine @aa _ (af ?_);refine⟨fun h1=>by unfold atR;rw[if_pos (.inl h1)];rfl,fun h1=>⟨fun h2=>by unfold atR;rw[if_pos (.inr (by omega))];rfl,fun h2=>?_⟩⟩;have hn:atR l=tp l (l.length-2):=by unfold atR;rw[if_neg];rintro(h|h) <;>omega
 refine aw [] (l.length-2) [0,3,4] (fun k=>[(3,dI (tp l k)),(4,dI ((k+2:Nat):Int))]) (fun _=>S) (fun _=>True) mx (by kernel_rfl) ?_ ?_
 ·refine @aa _ (af ?_);rfl
 ·intro k hk _;have ha:=yg l k;refine @aa _ (af ?_);refine⟨fun hlt=>?_,fun hge=>?_⟩
  ·refine ae (MA w0 l (k+2) _ h (by omega)) ?_;refine @aa _ (af ?_);refine ae (MA w0 l (tp l k) _ h (by omega)) ?_;refine @aa _ (af ?_);have e:IntKind.i64.wrap (((k+2:Nat):Int)+1)=((k+1+2:Nat):Int):=by rw[aG (by omega) (by omega)];omega
   refine⟨fun hw=>⟨by omega,?_,e⟩,fun hw=>⟨by omega,?_,e⟩⟩
   ·simp only[tp,if_pos hw]
   ·simp only[tp,if_neg hw]
  ·rw[hn,show k=l.length-2 by omega]
def wK(l:List Int):Bool:=decide (l.sum<30)
theorem Wo(w0:W0)(l:List Int)(S:St)(h:Bd l):ab Tryz.prog w0 239 [dL l] S (fun d S'=>d=dB (wK l)∧S'=S):=by
 refine aJ [] mx Tryz.func239 rfl rfl (by kernel_rfl) ?_;refine @aa _ (ai @Tryz.ntmps239 ?_);refine ae (Hg w0 _ _ h) ?_;refine @aa _ (af ?_);rfl
def MN(m k:Int):Int:=if k+1<m then k+1 else k-1
theorem nbW(w0:W0)(m k:Int)(S:St)(h0:0≤m)(h1:m≤1048576)(h2:0≤k)(h3:k<m):ab Tryz.prog w0 240 [dI m,dI k] S (fun d S'=>d=dI (MN m k)∧S'=S):=by
 refine aJ [] mx Tryz.func240 rfl rfl (by kernel_rfl) ?_;refine @aa _ (ai @Tryz.ntmps240 ?_);unfold MN;rw[aG (n:=k+1) (by omega) (by omega),aG (n:=k-1) (by omega) (by omega)];exact⟨fun h=>by rw[if_pos h],fun h=>by rw[if_neg h]⟩
mutual
inductive N where
 |mk (aj:Int) (leaf:Bool) (l:List C)
inductive C where
 |mk (key data:ByteArray) (an:List Int) (kid:List N)
end
def N.aj:N→Int| .mk p _ _=>p
def N.leaf:N→Bool| .mk _ b _=>b
def N.l:N→List C| .mk _ _ l=>l
def C.key:C→ByteArray| .mk k _ _ _=>k
def C.data:C→ByteArray| .mk _ d _ _=>d
def C.an:C→List Int| .mk _ _ p _=>p
def C.kid:C→List N| .mk _ _ _ k=>k
theorem N.eta(n:N):n= .mk n.aj n.leaf n.l:=by cases n;rfl
theorem C.eta(c:C):c= .mk c.key c.data c.an c.kid:=by cases c;rfl
mutual
def dN:N→DV
 | .mk p b l=> .agg [dI p,dB b,.sl 4 false (WW l)]
def dC:C→DV
 | .mk k d ps kid=> .agg [dS k,dS d,.sl 1 false (ps.map dI),.sl 3 false (Ze kid)]
def WW:List C→List DV
 |[]=>[]
 |c::l=>dC c::WW l
def Ze:List N→List DV
 |[]=>[]
 |n::l=>dN n::Ze l
end
theorem Gc:∀l,WW l=l.map dC
 |[]=>by simp[WW]
 |c::l=>by simp[WW,Gc l]
theorem FA:∀l,Ze l=l.map dN
 |[]=>by simp[Ze]
 |c::l=>by simp[Ze,FA l]
@[go_sem] def eN (n:N):DV:= .agg [dI n.aj,dB n.leaf,.sl 4 false (n.l.map dC)]
@[go_sem] def eC (c:C):DV:= .agg [dS c.key,dS c.data,.sl 1 false (c.an.map dI),.sl 3 false (c.kid.map dN)]
@[go_sem] theorem Tg (n:N):dN n=eN n:=by
 cases n;simp only[dN,Gc];rfl
@[go_sem] theorem BM (c:C):dC c=eC c:=by
 cases c;simp only[dC,FA];rfl
@[go_sem] theorem N.GS (p:Int) (b:Bool) (l:List C):(N.mk p b l).aj=p:=rfl
@[go_sem] theorem N.oy (p:Int) (b:Bool) (l:List C):(N.mk p b l).leaf=b:=rfl
@[go_sem] theorem N.eX (p:Int) (b:Bool) (l:List C):(N.mk p b l).l=l:=rfl
@[go_sem] theorem C.mC (k d:ByteArray) (p:List Int) (q:List N):(C.mk k d p q).key=k:=rfl
@[go_sem] theorem C.O8 (k d:ByteArray) (p:List Int) (q:List N):(C.mk k d p q).data=d:=rfl
@[go_sem] theorem C.JY (k d:ByteArray) (p:List Int) (q:List N):(C.mk k d p q).an=p:=rfl
@[go_sem] theorem C.uq (k d:ByteArray) (p:List Int) (q:List N):(C.mk k d p q).kid=q:=rfl
theorem NV{c:C}{k:N}(h:k∈c.kid):SizeOf.sizeOf k<SizeOf.sizeOf c:=by
 cases c;simp only[C.kid]at h;have:=afv h;simp only[C.mk.sizeOf_spec];omega
theorem JA{n:N}{c:C}(h:c∈n.l):SizeOf.sizeOf c<SizeOf.sizeOf n:=by
 cases n;simp only[N.l]at h;have:=afv h;simp only[N.mk.sizeOf_spec];omega
theorem Il{n:N}{c:C}{k:N}(h:c∈n.l)(hk:k∈c.kid):SizeOf.sizeOf k<SizeOf.sizeOf n:=by
 have:=JA h;have:=NV hk;omega
mutual
def SN:N→Prop
 | .mk _ b l=>(b=false→l≠[])∧JN l b
def sj:C→Bool→Prop
 | .mk _ _ _ kid,b=>b=false→kid.length=1∧MP kid
def JN:List C→Bool→Prop
 |[],_=>True
 |c::l,b=>sj c b∧JN l b
def MP:List N→Prop
 |[]=>True
 |n::l=>SN n∧MP l
end
theorem BP:∀l,MP l↔∀n,n∈l→SN n
 |[]=>by simp[MP]
 |n::l=>by simp[MP,BP l]
theorem Ap(b:Bool):∀l,JN l b↔∀c,c∈l→sj c b
 |[]=>by simp[JN]
 |c::l=>by simp[JN,Ap b l]
theorem RR(c:C)(b:Bool):sj c b↔(b=false→∃k,c.kid=[k]∧SN k):=by
 cases c with|mk k d ps kid=>
 simp only[sj,C.kid,BP];refine⟨fun h e=>?_,fun h e=>?_⟩
 ·obtain⟨h1,h2⟩:=h e
  match kid,h1 with
  |[a],_=>exact⟨a,rfl,h2 a aaX⟩
 ·obtain⟨a,rfl,ha⟩:=h e;exact⟨rfl,fun n hn=>by rw[acz]at hn;rw[hn];exact ha⟩
theorem yY(n:N):SN n↔(n.leaf=false→n.l≠[]∧∀c,c∈n.l→∃k,c.kid=[k]∧SN k):=by
 cases n with|mk p b l=>
 simp only[SN,N.leaf,N.l,Ap,RR];exact⟨fun h e=>⟨h.1 e,fun c hc=>h.2 c hc e⟩,fun h=>⟨fun e=>(h e).1,fun c hc e=>(h e).2 c hc⟩⟩
mutual
def bA:N→Nat
 | .mk _ _ l=>Ar l
def nH:C→Nat
 | .mk _ _ _ kid=>1+Cm kid
def Ar:List C→Nat
 |[]=>0
 |c::l=>nH c+Ar l
def Cm:List N→Nat
 |[]=>0
 |n::l=>bA n+Cm l
end
theorem xn:∀l,Ar l=(l.map nH).sum
 |[]=>by simp[Ar]
 |c::l=>by simp[Ar,xn l]
theorem xH:∀l,Cm l=(l.map bA).sum
 |[]=>by simp[Cm]
 |c::l=>by simp[Cm,xH l]
theorem zJ(n:N):bA n=(n.l.map nH).sum:=by cases n;simp only[bA,xn];rfl
theorem gq(c:C):nH c=1+(c.kid.map bA).sum:=by cases c;simp only[nH,xH];rfl
mutual
def Z6:N→Nat
 | .mk _ b l=>if b then 0 else 1+Tl l
def aaj:C→Nat
 | .mk _ _ _ kid=>To kid
def Tl:List C→Nat
 |[]=>0
 |c::l=>max (aaj c) (Tl l)
def To:List N→Nat
 |[]=>0
 |n::l=>max (Z6 n) (To l)
end
mutual
def GZ:N→Prop
 | .mk _ _ l=>Nc l
def Ui:C→Prop
 | .mk k d ps kid=>k.size≤16∧d.size≤400∧ps.length≤4∧NM kid
def Nc:List C→Prop
 |[]=>True
 |c::l=>Ui c∧Nc l
def NM:List N→Prop
 |[]=>True
 |n::l=>GZ n∧NM l
end
theorem BR:∀l,Nc l↔∀c,c∈l→Ui c
 |[]=>by simp[Nc]
 |n::l=>by simp[Nc,BR l]
theorem AP:∀l,NM l↔∀n,n∈l→GZ n
 |[]=>by simp[NM]
 |n::l=>by simp[NM,AP l]
theorem fD(n:N):GZ n↔∀c,c∈n.l→Ui c:=by cases n;simp only[GZ,BR];rfl
theorem lC(c:C):Ui c↔c.key.size≤16∧c.data.size≤400∧c.an.length≤4∧∀n,n∈c.kid→GZ n:=by cases c;simp only[Ui,AP];rfl
theorem aT(n:N):n.l.length≤bA n:=by
 rw[zJ];generalize n.l=l
 induction l with
 |nil=>exact aeh _
 |cons c l ih=>simp only[abx,aa9,adb,gq];omega
def ba(b:Bool)(c:C):Int:=if b then(if(need c.data.size:Int)>0∨(c.data.size:Int)>400 then 7+c.key.size else 3+c.key.size+c.data.size)else 4+c.key.size
def ah(n:N):List Int:=n.l.map (ba n.leaf)
theorem fp(n:N)(h:GZ n)(ht:n.l.length≤1048576):Bd (ah n):=by
 refine⟨by unfold ah;rw[abv];exact ht,fun x hx=>?_⟩;obtain⟨c,hc,rfl⟩:=adS.1 hx;have:=(lC c).1 ((fD n).1 h c hc);unfold ba
 repeat' split <;>omega
theorem rN(w0:W0)(n:N)(S:St)(h:GZ n)(ht:n.l.length≤1048576):ab Tryz.prog w0 204 [eN n] S (fun d S'=>d=dL (ah n)∧S'=S):=by
 refine aJ [] mx Tryz.func204 rfl rfl (by kernel_rfl) ?_;refine @aa _ (ai @Tryz.ntmps204 ?_);intro b;refine fH 3 1 rfl (by omega) fun lb=>?_;refine aw [] n.l.length [1,3,4] (fun k=>[(3,.acc lb.n k),(4,dI k)]) (fun k=>⟨(b.n,[dI n.aj,dB n.leaf,.sl 4 false (n.l.map dC)])::S.box,(lb.n,.arr 1 (((ah n).take k).map dI))::S.acc⟩) (fun _=>True) mx (by kernel_rfl) ?_ ?_
 ·exact @aa _ aF
 ·intro k hk _;have hl:(ah n).length=n.l.length:=by unfold ah;rw[abv]
  have hmin:min k (ah n).length=k:=by omega
  refine @aa _ (ai @hmin ?_);have e2:k<n.l.length→IntKind.i64.wrap ((k:Int)+1)=((k+1:Nat):Int):=fun h=>by rw[aG (by omega) (by omega)];omega
  refine⟨fun hlt=>⟨hlt,fun a ha=>?_⟩,fun hge=>by rw[aaA (by omega)];exact .full _ _ _⟩;have hb:=(lC a).1 ((fD n).1 h a (aap ha))
  have hs:(ah n).take (k+1)=(ah n).take k++[ba n.leaf a]:=by
   rw[abZ];unfold ah;rw[acP,ha];rfl
  have e1:IntKind.i64.wrap (4+(a.key.size:Int))=4+a.key.size:=aG (by omega) (by omega)
  have fin:∀z:Int,z=ba n.leaf a→Aml.Sub ⟨(b.n,[dI n.aj,dB n.leaf,.sl 4 false (n.l.map dC)])::S.box,(lb.n,.arr 1 (((ah n).take (k+1)).map dI))::S.acc⟩ ⟨(b.n,[dI n.aj,dB n.leaf,.sl 4 false (n.l.map dC)])::S.box,(lb.n,.arr 1 (((ah n).take k).map dI++[dI z]))::S.acc⟩:=fun z e=>by
   rw[hs,aa1,e];exact .refl _
  have hm:k+1≤maxLen:=by unfold maxLen;omega
  have h8:(k+1)*8≤140737488355328:=by omega
  refine⟨fun hlf=>⟨hlt,fun a3 ha3=>⟨hlt,fun a5 ha5=>⟨hlt,fun a7 ha7=>?_⟩⟩⟩,fun hlf=>⟨h8,hm,hlt,e2 hlt,fin _ ?_⟩⟩
  ·cases aC ha ha3;cases aC ha ha5;cases aC ha ha7;refine ae (sP w0 _ _) ?_;refine @aa _ (ai @hmin ?_);refine⟨fun hn=>⟨hlt,fun a3 ha3=>⟨h8,hm,hlt,e2 hlt,fin _ ?_⟩⟩,fun hn=>⟨hlt,fun a3 ha3=>⟨fun h4=>?_,fun h4=>⟨h8,hm,hlt,e2 hlt,fin _ ?_⟩⟩⟩⟩
   ·cases aC ha ha3;unfold ba;rw[if_pos hlf,if_pos (.inl hn)];exact aG (by omega) (by omega)
   ·cases aC ha ha3;omega
   ·cases aC ha ha3;unfold ba;rw[if_pos hlf,if_neg (by omega),aG (n:=3+(a.key.size:Int)) (by omega) (by omega)];exact aG (by omega) (by omega)
  ·unfold ba;rw[if_neg (by rw[hlf];simp)];exact e1
def lH(l:List C)(key:ByteArray):Nat→Nat
 |0=>0
 |i+1=>match l[i+1]? with
  |some c=>if kL c.key key then i+1 else lH l key i
  |none=>lH l key i
theorem GK(l:List C)(key:ByteArray):∀i,lH l key i≤i
 |0=>abI _
 |i+1=>by
  have:=GK l key i;simp only[lH];split
  ·split <;>omega
  ·omega
def fY(l:List C)(key:ByteArray):Nat:=lH l key (l.length-1)
theorem fZ{l:List C}(h:l≠[])(key:ByteArray):fY l key<l.length:=by
 have:=GK l key (l.length-1);have:=ad9.2 h;unfold fY;omega
theorem XG(w0:W0)(n:N)(key:ByteArray)(S:St)(ht:n.l.length≤1048576)(hn:n.l≠[]):ab Tryz.prog w0 144 [eN n,dS key] S (fun d S'=>d=dI (fY n.l key)∧S'=S):=by
 refine aJ [] mx Tryz.func144 rfl rfl (by kernel_rfl) ?_;refine @aa _ (ai @Tryz.ntmps144 ?_);have h0:=ad9.2 hn;intro b;refine aw [] (n.l.length-1) [1,2,5] (fun k=>[(5,dI ((n.l.length-1-k:Nat):Int))]) (fun _=>⟨(b.n,[dI n.aj,dB n.leaf,.sl 4 false (n.l.map dC)])::S.box,S.acc⟩) (fun k=>fY n.l key=lH n.l key (n.l.length-1-k)) mx (by kernel_rfl) ?_ ?_
 ·refine @aa _ (af ?_);exact⟨rfl,by rw[aG (by omega) (by omega)];omega⟩
 ·intro k hk hw;refine @aa _ (af ?_);refine⟨fun hg=>?_,fun hg=>?_⟩
  ·obtain⟨i,hi⟩:∃i,n.l.length-1-k=i+1:=⟨n.l.length-1-k-1,by omega⟩;have hi':n.l.length-1-(k+1)=i:=by omega
   rw[hi]at hw ⊢;rw[hi'];refine⟨by omega,fun a ha=>⟨fun hle=>?_,fun hle=>⟨by omega,?_,?_⟩⟩⟩
   ·rw[hw];simp only[lH,ha,hle];rfl
   ·rw[hw];simp only[lH,ha,hle];rfl
   ·rw[aG (by omega) (by omega)];omega
  ·have:n.l.length-1-k=0:=by omega
   rw[hw,this];rfl
def aA(l:List C)(i:Nat)(some_:List C):List C:=l.take i++some_++l.drop (i+1)
theorem sS(w0:W0)(l m:List C)(i:Nat)(S:St)(ht:l.length≤1048576)(hm:m.length≤1048576)(hi:i<l.length):ab Tryz.prog w0 206 [.sl 4 false (l.map dC),dI i,.sl 4 false (m.map dC)] S (fun d S'=>d= .sl 4 false ((aA l i m).map dC)∧S'=S):=by
 refine aJ [] mx Tryz.func206 rfl rfl (by kernel_rfl) ?_;refine @aa _ (ai @Tryz.ntmps206 ?_);have e1:IntKind.i64.wrap ((i:Int)+1)=((i+1:Nat):Int):=by rw[aG (by omega) (by omega)];omega
 rw[e1,adV];refine⟨by omega,by omega,by unfold maxLen;omega,fun b=>⟨by omega,by unfold maxLen;omega,by omega,by omega,by omega,by unfold maxLen;omega,?_⟩⟩;exact .refl _
def aN:ByteArray:=ByteArray.empty
def ak(key:ByteArray)(kid:N):C:= .mk key aN [] [kid]
def bD(key:ByteArray):List C→List C
 |[]=>[]
 |c::l=> .mk key c.data c.an c.kid::l
def keyOf:List C→ByteArray
 |[]=>aN
 |c::_=>c.key
def aR(n kid:N)(k:Nat)(key:ByteArray):N×Bool:=
 let i:=atR (ah kid)
 if i=0 then(n,false)else
 let r:=kid.l.drop i
 (.mk 0 false (aA n.l k [ak key (.mk 0 kid.leaf (kid.l.take i)),ak (keyOf r) (.mk 0 kid.leaf (if kid.leaf then r else bD aN r))]),true)
theorem zm(w0:W0)(n kid:N)(c:C)(k:Nat)(S:St)(hc:n.l[k]? =some c)(hk:c.kid=[kid])(ht:n.l.length≤1048576)(ht':kid.l.length≤1048576)(hs:GZ kid):
 ab Tryz.prog w0 238 [eN n,dI k] S (fun d S'=>d= .bM [eN (aR n kid k c.key).1,dB (aR n kid k c.key).2]∧S'=S):=by
 refine aJ [12] mx Tryz.func238 rfl rfl (by kernel_rfl) ?_;refine @aa _ (ai @Tryz.ntmps238 ?_);intro b b1;have hlt:=(aaq.1 hc).1;refine⟨hlt,fun a ha=>?_⟩;cases aC hc ha;rw[hk];refine⟨by simp,fun a2 ha2 b2=>?_⟩;obtain rfl:kid=a2:=by simpa using ha2
 refine ae (rN w0 kid _ hs ht') ?_;refine @aa _ (af ?_);refine ae (atW w0 _ _ (fp kid hs ht')) ?_
 have hat:atR (ah kid)=0∨(1≤atR (ah kid)∧atR (ah kid)<kid.l.length):=by
  by_cases h:atR (ah kid)=0
  ·exact .inl h
  ·have:=DI _ h;unfold ah at this;rw[abv]at this;exact .inr this
 refine @aa _ (af ?_);unfold aR;simp only;generalize atR (ah kid)=i at*;refine⟨fun h0=>?_,fun h0 b3 b4=>?_⟩
 ·rw[if_pos (by omega)];exact @aa _ aF
 ·rw[if_neg (by omega)];have h1:=hat.resolve_left (by omega)
  obtain⟨e,r,hr⟩:∃e r,kid.l.drop i=e::r:=by
   cases hd:kid.l.drop i with
   |nil=>have:=congrArg List.length hd;rw[acv,acL]at this;omega
   |cons e r=>exact⟨e,r,rfl⟩
  have hlen:kid.l.length-i=(e::r).length:=by rw[←hr,acv]
  have hlr:(e::r).length≤1048576:=by omega
  have hmin:min i kid.l.length=i:=by omega
  have h80:(e::r).length*80≤140737488355328:=by omega
  have hmx:(e::r).length≤maxLen:=by unfold maxLen;omega
  have hpos:0<(e::r).length:=by simp
  rw[hr];simp only[hlen,hmin];refine⟨by omega,by omega,by unfold maxLen;omega,fun l1=>⟨by omega,h80,hmx,fun l2=>⟨by omega,hpos,fun a ha=>?_⟩⟩⟩;obtain rfl:e=a:=by simpa using ha
  refine⟨fun hlf=>?_,fun hlf=>⟨by omega,hpos,fun a3 ha3=>?_⟩⟩
  ·refine pU b3.n 2 (l:=l1.n) (s:=4) (xs:=(kid.l.take i).map dC) (ds:=[dI 0,dB kid.leaf,.acc l1.n i]) (by exact @aa _ aF) (by simp[hmin]) (by exact @aa _ aF) ?_;refine @aa _ (af ?_);refine pU b4.n 2 (l:=l2.n) (s:=4) (xs:=eC e::r.map dC) (ds:=[dI 0,dB kid.leaf,.acc l2.n (r.length+1)]) (by exact @aa _ aF) (by simp) (by exact @aa _ aF) ?_;refine @aa _ (af ?_);refine pT mx (by kernel_rfl) ?_;refine @aa _ (af ?_);refine⟨hlt,fun a ha=>?_⟩;cases aC hc ha;refine kM (fun B hB=>sS w0 n.l [ak c.key (.mk 0 kid.leaf (kid.l.take i)),ak e.key (.mk 0 kid.leaf (e::r))] k _ ht (by simp) hlt) ?_ (by simp(maxDischargeDepth:=12) (maxSteps:=1000000) -implicitDefEqProofs only[go_sem,Nat.reduceAdd,Nat.reduceSub,Nat.reduceMul,Nat.reduceLeDiff,Nat.reduceEqDiff,Nat.reduceGT,Nat.reduceBEq,reduceCtorEq,↓reduceIte,Int.reduceToNat,Int.reduceLE,Int.reduceLT,Int.reduceNe,Int.reduceEq,ak,aN]);simp(maxDischargeDepth:=12) (maxSteps:=1000000) -implicitDefEqProofs only[go_sem,Nat.reduceAdd,Nat.reduceSub,Nat.reduceMul,Nat.reduceLeDiff,Nat.reduceEqDiff,Nat.reduceGT,Nat.reduceBEq,reduceCtorEq,↓reduceIte,Int.reduceToNat,Int.reduceLE,Int.reduceLT,Int.reduceNe,Int.reduceEq,keyOf,hlf]
  ·cases aC ha ha3;refine pU b3.n 2 (l:=l1.n) (s:=4) (xs:=(kid.l.take i).map dC) (ds:=[dI 0,dB kid.leaf,.acc l1.n i]) (by exact @aa _ aF) (by simp[hmin]) (by exact @aa _ aF) ?_;refine @aa _ (af ?_);refine pU b4.n 2 (l:=l2.n) (s:=4) (xs:=eC (.mk aN e.data e.an e.kid)::r.map dC) (ds:=[dI 0,dB kid.leaf,.acc l2.n (r.length+1)]) (by simp(maxDischargeDepth:=12) (maxSteps:=1000000) -implicitDefEqProofs only[go_sem,Nat.reduceAdd,Nat.reduceSub,Nat.reduceMul,Nat.reduceLeDiff,Nat.reduceEqDiff,Nat.reduceGT,Nat.reduceBEq,reduceCtorEq,↓reduceIte,Int.reduceToNat,Int.reduceLE,Int.reduceLT,Int.reduceNe,Int.reduceEq]) (by simp) (by simp(maxDischargeDepth:=12) (maxSteps:=1000000) -implicitDefEqProofs only[go_sem,Nat.reduceAdd,Nat.reduceSub,Nat.reduceMul,Nat.reduceLeDiff,Nat.reduceEqDiff,Nat.reduceGT,Nat.reduceBEq,reduceCtorEq,↓reduceIte,Int.reduceToNat,Int.reduceLE,Int.reduceLT,Int.reduceNe,Int.reduceEq,aN];rfl) ?_;refine @aa _ (af ?_);refine pT mx (by kernel_rfl) ?_;refine @aa _ (af ?_);refine⟨hlt,fun a ha=>?_⟩;cases aC hc ha;refine kM (fun B hB=>sS w0 n.l [ak c.key (.mk 0 kid.leaf (kid.l.take i)),ak e.key (.mk 0 kid.leaf (.mk aN e.data e.an e.kid::r))] k _ ht (by simp) hlt) ?_ (by simp(maxDischargeDepth:=12) (maxSteps:=1000000) -implicitDefEqProofs only[go_sem,Nat.reduceAdd,Nat.reduceSub,Nat.reduceMul,Nat.reduceLeDiff,Nat.reduceEqDiff,Nat.reduceGT,Nat.reduceBEq,reduceCtorEq,↓reduceIte,Int.reduceToNat,Int.reduceLE,Int.reduceLT,Int.reduceNe,Int.reduceEq,ak,aN]);simp(maxDischargeDepth:=12) (maxSteps:=1000000) -implicitDefEqProofs only[go_sem,Nat.reduceAdd,Nat.reduceSub,Nat.reduceMul,Nat.reduceLeDiff,Nat.reduceEqDiff,Nat.reduceGT,Nat.reduceBEq,reduceCtorEq,↓reduceIte,Int.reduceToNat,Int.reduceLE,Int.reduceLT,Int.reduceNe,Int.reduceEq,keyOf,hlf,bD,adP]
def aB(c:C):N:=c.kid.headD (.mk 0 true [])
def cellAt(l:List C)(k:Nat):C:=l.getD k (.mk aN aN [] [])
theorem eM{l:List C}{k:Nat}{c:C}(h:l[k]? =some c):cellAt l k=c:=by unfold cellAt;rw[aee,h];rfl
theorem aO{c:C}{k:N}(h:c.kid=[k]):aB c=k:=by unfold aB;rw[h];rfl
def bQ(a b:N)(key:ByteArray):N:= .mk 0 a.leaf (a.l++if b.leaf then b.l else bD key b.l)
def cG(n:N)(k:Nat):N:=
 let c:=cellAt n.l k
 let p:=aR n (aB c) k c.key
 if p.2 then p.1 else
 if !wK (ah (aB c))||decide (n.l.length<2)then n else
 let j:=if k+1<n.l.length then k else k-1
 let both:=bQ (aB (cellAt n.l j)) (aB (cellAt n.l (j+1))) (cellAt n.l (j+1)).key
 (aR (.mk 0 false (aA (aA n.l (j+1) []) j [ak (cellAt n.l j).key both])) both j (cellAt n.l j).key).1
theorem pY(key:ByteArray)(l:List C):(bD key l).length=l.length:=by cases l <;>rfl
theorem tj(key:ByteArray){l:List C}{c:C}(h:l[0]? =some c):(bD key l)[0]? =some (.mk key c.data c.an c.kid):=by
 cases l with
 |nil=>cases h
 |cons a l=>simp at h;subst h;rfl
theorem sN(key:ByteArray)(l:List C)(k:Nat):(bD key l)[k+1]? =l[k+1]? :=by cases l <;>rfl
theorem vT{key:ByteArray}(hk:key.size≤16){l:List C}(h:∀c,c∈l→Ui c):∀c,c∈bD key l→Ui c:=by
 cases l with
 |nil=>exact h
 |cons a l=>
  intro c hc;rcases ab6.1 hc with rfl|hc
  ·have:=(lC a).1 (h a aaX);exact(lC _).2 ⟨hk,this.2⟩
  ·exact h c (abn _ hc)
structure U0(n:N):Prop where
 len:n.l.length≤524288
 kid:∀c,c∈n.l→∃k,c.kid=[k]∧GZ k∧k.l.length≤524288
 key:∀c,c∈n.l→c.key.size≤16
theorem KD(w0:W0)(n:N)(k:Nat)(S:St)(hn:U0 n)(hk:k<n.l.length):ab Tryz.prog w0 205 [eN n,dI k] S (fun d S'=>d=eN (cG n k)∧S'=S):=by
 refine aJ [21] mx Tryz.func205 rfl rfl (by kernel_rfl) ?_;refine @aa _ (ai @Tryz.ntmps205 ?_);intro b b1;have hl:=hn.len;obtain⟨c,hc⟩:∃c,n.l[k]? =some c:=⟨_,aay hk⟩;obtain⟨kid,hkid,hks,hkl⟩:=hn.kid c (aap hc);refine ae (zm w0 n kid c k _ hc hkid (by omega) (by omega) hks) ?_;unfold cG;simp only[eM hc,aO hkid];generalize hp:aR n kid k c.key=p;refine @aa _ (af ?_);intro b2;refine⟨fun h2=>?_,fun h2=>⟨hk,fun a ha=>⟨?_,fun a2 ha2=>?_⟩⟩⟩
 ·rw[if_pos h2];exact @aa _ aF
 ·cases aC hc ha;rw[hkid];simp
 ·cases aC hc ha;rw[hkid]at ha2;obtain rfl:kid=a2:=by simpa using ha2
  refine ae (rN w0 kid _ hks (by omega)) ?_;refine @aa _ (af ?_);refine ae (Wo w0 _ _ (fp kid hks (by omega))) ?_;refine @aa _ (af ?_);rw[if_neg (by rw[h2];simp)];refine⟨fun hlo=>by rw[if_pos (by rw[hlo];rfl)];exact .refl _,fun hlo=>⟨fun hl2=>by rw[if_pos (by rw[hlo,decide_eq_true (by omega)];rfl)];exact .refl _,fun hl2=>?_⟩⟩;rw[if_neg (by rw[hlo,decide_eq_false (by omega)];simp)];have hnb:=nbW w0 n.l.length k;by_cases hk1:k+1<n.l.length
  ·refine ae (hnb _ (by omega) (by omega) (by omega) (by omega)) ?_;have enb:MN (n.l.length:Int) k=((k+1:Nat):Int):=by unfold MN;rw[if_pos (by omega)];omega
   rw[if_pos hk1,enb];refine @aa _ (af ?_);refine⟨fun h=>absurd h (by omega),fun _=>?_⟩;have hj1:=hk1;have hc0:=hc;have hkd0:=hkid;have hks0:=hks;have hkl0:=hkl;obtain⟨kd0,hk0⟩:∃kd0,kd0=kid:=⟨_,rfl⟩;rw[←hk0]at hkd0 hks0 hkl0;obtain⟨c0,hcc⟩:∃c0,c0=c:=⟨_,rfl⟩;rw[←hcc]at hkd0 hc0;have ej:IntKind.i64.wrap ((k:Int)+1)=((k+1:Nat):Int):=by rw[aG (by omega) (by omega)];omega
   obtain⟨c1,hc1⟩:∃c1,n.l[k+1]? =some c1:=⟨_,aay hk1⟩;obtain⟨kd1,hkd1,hks1,hkl1⟩:=hn.kid c1 (aap hc1);simp only[ej,adV,eM hc0,eM hc1,aO hkd0,aO hkd1];refine⟨by omega,fun a ha=>?_⟩;cases aC hc0 ha;rw[hkd0];refine⟨by simp,fun a2 ha2 b3=>⟨by omega,by omega,fun a4 ha4=>?_⟩⟩;obtain rfl:kd0=a2:=by simpa using ha2
   cases aC hc1 ha4;rw[hkd1];refine⟨by simp,fun a6 ha6 b4 b5=>⟨by omega,by unfold maxLen;omega,fun lb=>?_⟩⟩;obtain rfl:kd1=a6:=by simpa using ha6
   obtain⟨R,hR⟩:∃R,R=if kd1.leaf then kd1.l else bD c1.key kd1.l:=⟨_,rfl⟩
   have hRl:R.length=kd1.l.length:=by rw[hR];split;rfl;exact pY _ _
   refine aw [] kd1.l.length [1,2,4,5,9,10,11] (fun i=>[(11,dI i)]) (fun i=>⟨(b5.n,[dI 0,dB kd0.leaf,.acc lb.n (kd0.l.length+i)])::(b4.n,[dI kd1.aj,dB kd1.leaf,.sl 4 false (kd1.l.map dC)])::(b2.n,[dI p.1.aj,dB p.1.leaf,.sl 4 false (p.1.l.map dC)])::(b1.n,[dI 0,dB false,.sl 0 true []])::(b.n,[dI n.aj,dB n.leaf,.sl 4 false (n.l.map dC)])::S.box,(lb.n,.arr 4 ((kd0.l++R.take i).map dC))::S.acc⟩) (fun _=>True) mx (by kernel_rfl) ?_ ?_
   ·refine @aa _ (af ?_);exact .A1 (.A1 (.aX (.refl _)))
   ·intro i hi _;have hmin:min i R.length=i:=by omega
    refine @aa _ (aM @ej @hmin ?_);have e2:IntKind.i64.wrap ((i:Int)+1)=((i+1:Nat):Int):=by rw[aG (by omega) (by omega)];omega
    have fin:∀(x:C) (y:Nat×List DV),R[i]? =some x→Aml.Sub ⟨(b5.n,[dI 0,dB kd0.leaf,.acc lb.n (kd0.l.length+(i+1))])::(b4.n,[dI kd1.aj,dB kd1.leaf,.sl 4 false (kd1.l.map dC)])::(b2.n,[dI p.1.aj,dB p.1.leaf,.sl 4 false (p.1.l.map dC)])::(b1.n,[dI 0,dB false,.sl 0 true []])::(b.n,[dI n.aj,dB n.leaf,.sl 4 false (n.l.map dC)])::S.box,(lb.n,.arr 4 ((kd0.l++R.take (i+1)).map dC))::S.acc⟩ ⟨y::(b5.n,[dI 0,dB kd0.leaf,.acc lb.n (kd0.l.length+i+1)])::(b4.n,[dI kd1.aj,dB kd1.leaf,.sl 4 false (kd1.l.map dC)])::(b2.n,[dI p.1.aj,dB p.1.leaf,.sl 4 false (p.1.l.map dC)])::(b1.n,[dI 0,dB false,.sl 0 true []])::(b.n,[dI n.aj,dB n.leaf,.sl 4 false (n.l.map dC)])::S.box,(lb.n,.arr 4 ((kd0.l++R.take i).map dC++[eC x]))::S.acc⟩:=fun x y hx=>by
     rw[abZ,hx,aea,←abA,aa1,aa9,adT,BM];exact .aX (.refl _)
    refine⟨fun hlt=>⟨hlt,fun a ha b6=>⟨fun h0=>⟨fun hlf=>?_,fun hlf=>⟨by omega,fun a4 ha4=>?_⟩⟩,fun h0=>?_⟩⟩,fun hge=>?_⟩
    ·exact⟨by omega,by unfold maxLen;omega,hlt,e2,fin a _ (by rw[hR,if_pos hlf];exact ha)⟩
    ·cases aC hc1 ha4;obtain rfl:i=0:=by omega
     exact⟨by omega,by unfold maxLen;omega,hlt,e2,fin (.mk c1.key a.data a.an a.kid) _ (by rw[hR,if_neg (by rw[hlf];simp)];exact tj _ ha)⟩
    ·obtain⟨i',rfl⟩:∃i',i=i'+1:=⟨i-1,by omega⟩
     exact⟨by omega,by unfold maxLen;omega,hlt,e2,fin a _ (by
      rw[hR];split
      ·exact ha
      ·rw[sN];exact ha)⟩
    ·obtain rfl:i=kd1.l.length:=by omega
     rw[aaA (by omega)];refine ae (sS w0 n.l [] (k+1) _ (by omega) (by simp) (by omega)) ?_ (by exact @aa _ aF);refine @aa _ (af ?_);refine pU b5.n 2 (l:=lb.n) (s:=4) (xs:=(kd0.l++R).map dC) (ds:=[dI 0,dB kd0.leaf,.acc lb.n (kd0.l.length+kd1.l.length)]) (by exact @aa _ aF) (by simp[hRl]) (by exact @aa _ aF) ?_;refine @aa _ (af ?_);refine pT mx (by kernel_rfl) ?_;refine @aa _ (af ?_);refine⟨by omega,fun a ha=>?_⟩;cases aC hc0 ha
     have hlw:(aA n.l (k+1) []).length=n.l.length-1:=by
      unfold aA;rw[ad0,c9,aaE,acv];omega
     have hmm:(aA (aA n.l (k+1) []) k [ak c0.key (.mk 0 kd0.leaf (kd0.l++R))])[k]? =some (ak c0.key (.mk 0 kd0.leaf (kd0.l++R))):=by
      unfold aA;rw[abA,adN (by simp;omega)];rw[show k-(List.take k (List.take (k+1) n.l++[]++List.drop (k+1+1) n.l)).length=0 by simp;omega];rfl
     have hml:(aA (aA n.l (k+1) []) k [ak c0.key (.mk 0 kd0.leaf (kd0.l++R))]).length≤1048576:=by
      unfold aA at hlw ⊢;simp only[c9,aaE,acv,abx,acL]at*;omega
     have hbl:(kd0.l++R).length≤1048576:=by rw[c9];omega
     have hbs:GZ (.mk 0 kd0.leaf (kd0.l++R)):=(fD _).2 fun x hx=>by
      rcases abD.1 hx with hx|hx
      ·exact(fD _).1 hks0 x hx
      ·rw[hR]at hx;split at hx
       ·exact(fD _).1 hks1 x hx
       ·exact vT (hn.key c1 (aap hc1)) ((fD _).1 hks1) x hx
     have hbo:bQ kd0 kd1 c1.key= .mk 0 kd0.leaf (kd0.l++R):=by unfold bQ;rw[←hR]
     refine kM (fun B hB=>sS w0 (aA n.l (k+1) []) [ak c0.key (.mk 0 kd0.leaf (kd0.l++R))] k _ (by omega) (by simp) (by omega)) ?_ (by simp(maxDischargeDepth:=12) (maxSteps:=1000000) -implicitDefEqProofs only[go_sem,Nat.reduceAdd,Nat.reduceSub,Nat.reduceMul,Nat.reduceLeDiff,Nat.reduceEqDiff,Nat.reduceGT,Nat.reduceBEq,reduceCtorEq,↓reduceIte,Int.reduceToNat,Int.reduceLE,Int.reduceLT,Int.reduceNe,Int.reduceEq,ak,aN]);refine @aa _ (af ?_);refine ae (zm w0 (.mk 0 false (aA (aA n.l (k+1) []) k [ak c0.key (.mk 0 kd0.leaf (kd0.l++R))])) (.mk 0 kd0.leaf (kd0.l++R)) _ k _ hmm rfl hml hbl hbs) ?_;refine @aa _ (ov @Nat.add_sub_cancel (eM hc0) (eM hc1) (aO hkd0) (aO hkd1) @hbo ?_);exact .refl _
  ·obtain⟨j,rfl⟩:∃j,k=j+1:=⟨k-1,by omega⟩;refine ae (hnb _ (by omega) (by omega) (by omega) (by omega)) ?_;have enb:MN (n.l.length:Int) ((j+1:Nat):Int)=((j:Nat):Int):=by unfold MN;rw[if_neg (by omega)];omega
   rw[if_neg hk1,enb];refine @aa _ (af ?_);have hj1:=hk;have hc1:=hc;have hkd1:=hkid;have hks1:=hks;have hkl1:=hkl;obtain⟨kd1,hk1'⟩:∃kd1,kd1=kid:=⟨_,rfl⟩;rw[←hk1']at hkd1 hks1 hkl1;obtain⟨c1,hcc⟩:∃c1,c1=c:=⟨_,rfl⟩;rw[←hcc]at hkd1 hc1;have ej:IntKind.i64.wrap ((j:Int)+1)=((j+1:Nat):Int):=by rw[aG (by omega) (by omega)];omega
   obtain⟨c0,hc0⟩:∃c0,n.l[j]? =some c0:=⟨_,aay (by omega)⟩;obtain⟨kd0,hkd0,hks0,hkl0⟩:=hn.kid c0 (aap hc0);simp only[ej,adV,Nat.add_sub_cancel,eM hc0,eM hc1,aO hkd0,aO hkd1];refine⟨by omega,fun a ha=>?_⟩;cases aC hc0 ha;rw[hkd0];refine⟨by simp,fun a2 ha2 b3=>⟨by omega,by omega,fun a4 ha4=>?_⟩⟩;obtain rfl:kd0=a2:=by simpa using ha2
   cases aC hc1 ha4;rw[hkd1];refine⟨by simp,fun a6 ha6 b4 b5=>⟨by omega,by unfold maxLen;omega,fun lb=>?_⟩⟩;obtain rfl:kd1=a6:=by simpa using ha6
   obtain⟨R,hR⟩:∃R,R=if kd1.leaf then kd1.l else bD c1.key kd1.l:=⟨_,rfl⟩
   have hRl:R.length=kd1.l.length:=by rw[hR];split;rfl;exact pY _ _
   refine aw [] kd1.l.length [1,2,4,5,9,10,11] (fun i=>[(11,dI i)]) (fun i=>⟨(b5.n,[dI 0,dB kd0.leaf,.acc lb.n (kd0.l.length+i)])::(b4.n,[dI kd1.aj,dB kd1.leaf,.sl 4 false (kd1.l.map dC)])::(b2.n,[dI p.1.aj,dB p.1.leaf,.sl 4 false (p.1.l.map dC)])::(b1.n,[dI 0,dB false,.sl 0 true []])::(b.n,[dI n.aj,dB n.leaf,.sl 4 false (n.l.map dC)])::S.box,(lb.n,.arr 4 ((kd0.l++R.take i).map dC))::S.acc⟩) (fun _=>True) mx (by kernel_rfl) ?_ ?_
   ·refine @aa _ (af ?_);exact .A1 (.A1 (.aX (.refl _)))
   ·intro i hi _;have hmin:min i R.length=i:=by omega
    refine @aa _ (aM @ej @hmin ?_);have e2:IntKind.i64.wrap ((i:Int)+1)=((i+1:Nat):Int):=by rw[aG (by omega) (by omega)];omega
    have fin:∀(x:C) (y:Nat×List DV),R[i]? =some x→Aml.Sub ⟨(b5.n,[dI 0,dB kd0.leaf,.acc lb.n (kd0.l.length+(i+1))])::(b4.n,[dI kd1.aj,dB kd1.leaf,.sl 4 false (kd1.l.map dC)])::(b2.n,[dI p.1.aj,dB p.1.leaf,.sl 4 false (p.1.l.map dC)])::(b1.n,[dI 0,dB false,.sl 0 true []])::(b.n,[dI n.aj,dB n.leaf,.sl 4 false (n.l.map dC)])::S.box,(lb.n,.arr 4 ((kd0.l++R.take (i+1)).map dC))::S.acc⟩ ⟨y::(b5.n,[dI 0,dB kd0.leaf,.acc lb.n (kd0.l.length+i+1)])::(b4.n,[dI kd1.aj,dB kd1.leaf,.sl 4 false (kd1.l.map dC)])::(b2.n,[dI p.1.aj,dB p.1.leaf,.sl 4 false (p.1.l.map dC)])::(b1.n,[dI 0,dB false,.sl 0 true []])::(b.n,[dI n.aj,dB n.leaf,.sl 4 false (n.l.map dC)])::S.box,(lb.n,.arr 4 ((kd0.l++R.take i).map dC++[eC x]))::S.acc⟩:=fun x y hx=>by
     rw[abZ,hx,aea,←abA,aa1,aa9,adT,BM];exact .aX (.refl _)
    refine⟨fun hlt=>⟨hlt,fun a ha b6=>⟨fun h0=>⟨fun hlf=>?_,fun hlf=>⟨by omega,fun a4 ha4=>?_⟩⟩,fun h0=>?_⟩⟩,fun hge=>?_⟩
    ·exact⟨by omega,by unfold maxLen;omega,hlt,e2,fin a _ (by rw[hR,if_pos hlf];exact ha)⟩
    ·cases aC hc1 ha4;obtain rfl:i=0:=by omega
     exact⟨by omega,by unfold maxLen;omega,hlt,e2,fin (.mk c1.key a.data a.an a.kid) _ (by rw[hR,if_neg (by rw[hlf];simp)];exact tj _ ha)⟩
    ·obtain⟨i',rfl⟩:∃i',i=i'+1:=⟨i-1,by omega⟩
     exact⟨by omega,by unfold maxLen;omega,hlt,e2,fin a _ (by
      rw[hR];split
      ·exact ha
      ·rw[sN];exact ha)⟩
    ·obtain rfl:i=kd1.l.length:=by omega
     rw[aaA (by omega)];refine ae (sS w0 n.l [] (j+1) _ (by omega) (by simp) (by omega)) ?_ (by exact @aa _ aF);refine @aa _ (af ?_);refine pU b5.n 2 (l:=lb.n) (s:=4) (xs:=(kd0.l++R).map dC) (ds:=[dI 0,dB kd0.leaf,.acc lb.n (kd0.l.length+kd1.l.length)]) (by exact @aa _ aF) (by simp[hRl]) (by exact @aa _ aF) ?_;refine @aa _ (af ?_);refine pT mx (by kernel_rfl) ?_;refine @aa _ (af ?_);refine⟨by omega,fun a ha=>?_⟩;cases aC hc0 ha
     have hlw:(aA n.l (j+1) []).length=n.l.length-1:=by
      unfold aA;rw[ad0,c9,aaE,acv];omega
     have hmm:(aA (aA n.l (j+1) []) j [ak c0.key (.mk 0 kd0.leaf (kd0.l++R))])[j]? =some (ak c0.key (.mk 0 kd0.leaf (kd0.l++R))):=by
      unfold aA;rw[abA,adN (by simp;omega)];rw[show j-(List.take j (List.take (j+1) n.l++[]++List.drop (j+1+1) n.l)).length=0 by simp;omega];rfl
     have hml:(aA (aA n.l (j+1) []) j [ak c0.key (.mk 0 kd0.leaf (kd0.l++R))]).length≤1048576:=by
      unfold aA at hlw ⊢;simp only[c9,aaE,acv,abx,acL]at*;omega
     have hbl:(kd0.l++R).length≤1048576:=by rw[c9];omega
     have hbs:GZ (.mk 0 kd0.leaf (kd0.l++R)):=(fD _).2 fun x hx=>by
      rcases abD.1 hx with hx|hx
      ·exact(fD _).1 hks0 x hx
      ·rw[hR]at hx;split at hx
       ·exact(fD _).1 hks1 x hx
       ·exact vT (hn.key c1 (aap hc1)) ((fD _).1 hks1) x hx
     have hbo:bQ kd0 kd1 c1.key= .mk 0 kd0.leaf (kd0.l++R):=by unfold bQ;rw[←hR]
     refine kM (fun B hB=>sS w0 (aA n.l (j+1) []) [ak c0.key (.mk 0 kd0.leaf (kd0.l++R))] j _ (by omega) (by simp) (by omega)) ?_ (by simp(maxDischargeDepth:=12) (maxSteps:=1000000) -implicitDefEqProofs only[go_sem,Nat.reduceAdd,Nat.reduceSub,Nat.reduceMul,Nat.reduceLeDiff,Nat.reduceEqDiff,Nat.reduceGT,Nat.reduceBEq,reduceCtorEq,↓reduceIte,Int.reduceToNat,Int.reduceLE,Int.reduceLT,Int.reduceNe,Int.reduceEq,ak,aN]);refine @aa _ (af ?_);refine ae (zm w0 (.mk 0 false (aA (aA n.l (j+1) []) j [ak c0.key (.mk 0 kd0.leaf (kd0.l++R))])) (.mk 0 kd0.leaf (kd0.l++R)) _ j _ hmm rfl hml hbl hbs) ?_;refine @aa _ (ov @Nat.add_sub_cancel (eM hc0) (eM hc1) (aO hkd0) (aO hkd1) @hbo ?_);exact .refl _
def jD:N→N
 | .mk p false [.mk ck cd cp (k::r)]=>jD k
 |n=>if atR (ah n)=0 then n else cG (.mk 0 false [ak aN n]) 0
termination_by n=>SizeOf.sizeOf n
decreasing_by simp;omega
def bf(l:List C)(key:ByteArray):Nat:=(l.takeWhile fun c=>cC c.key key).length
theorem CR(l:List C)(key:ByteArray):bf l key≤l.length:=by
 unfold bf;exact(List.takeWhile_sublist _).length_le
def bU(l:List C)(key val:ByteArray):List C:=
 let i:=bf l key
 match l[i]? with
 |some c=>if eF c.key key then aA l i [.mk key val [] []]else l.take i++[.mk key val [] []]++l.drop i
 |none=>l.take i++[.mk key val [] []]++l.drop i
def cb(key val:ByteArray):N→N
 | .mk p true l=> .mk 0 true (bU l key val)
 | .mk p false l=>match h:l[fY l key]? with
  |some (.mk ck cd cp (k::r))=>cG (.mk 0 false (aA l (fY l key) [ak ck (cb key val k)])) (fY l key)
  |_=> .mk 0 true []
termination_by n=>SizeOf.sizeOf n
decreasing_by
 have h1:=afv (aap h);simp at h1 ⊢;omega
theorem fS(key val:ByteArray)(n:N)(h:n.leaf=true):cb key val n= .mk 0 true (bU n.l key val):=by
 cases n with|mk p b l=>simp only[N.leaf]at h;subst h;rw[cb];rfl
theorem jz(key val:ByteArray)(n:N)(h:n.leaf=false){c:C}{k:N}(hc:n.l[fY n.l key]? =some c)(hk:c.kid=[k]):cb key val n=cG (.mk 0 false (aA n.l (fY n.l key) [ak c.key (cb key val k)])) (fY n.l key):=by
 cases n with|mk p b l=>
 simp only[N.leaf]at h;subst h
 cases c with|mk ck cd cp cr=>
 simp only[C.kid]at hk;subst hk;simp only[N.l]at hc ⊢;rw[cb];split
 ·rename_i h1;rw[hc]at h1;cases h1;rfl
 ·rename_i h1;exact absurd hc (h1 _ _ _ _ _)
theorem j7(n:N)(h:n.leaf=false){c:C}{k:N}(hc:n.l=[c])(hk:c.kid=[k]):jD n=jD k:=by
 cases n with|mk p b l=>
 cases c with|mk ck cd cp cr=>
 simp only[N.leaf,N.l,C.kid]at *;subst h;subst hc;subst hk;rw[jD]
theorem cZ(n:N)(h:n.leaf=true∨n.l.length≠1):jD n=if atR (ah n)=0 then n else cG (.mk 0 false [ak aN n]) 0:=by
 cases n with|mk p b l=>
 rw[jD];intro p' ck cd cp k r e;simp only[N.mk.injEq]at e;rcases h with h|h
 ·simp only[N.leaf]at h;rw[h]at e;exact absurd e.2.1 (by simp)
 ·simp only[N.l]at h;rw[e.2.2]at h;simp at h
def Fit(B:Nat)(n:N):Prop:=SN n∧GZ n∧bA n≤B
theorem cL{n:N}{c:C}{k:N}(h:c∈n.l)(hk:c.kid=[k]):bA k+n.l.length≤bA n:=by
 rw[zJ n]
 have:∀l:List C,c∈l→bA k+l.length≤(l.map nH).sum:=by
  intro l
  induction l with
  |nil=>intro h;cases h
  |cons a l ih=>
   intro h;simp only[aa9,adb,abx]
   have h1:∀l:List C,l.length≤(l.map nH).sum:=by
    intro l
    induction l with
    |nil=>exact aeh _
    |cons c l ih=>simp only[abx,aa9,adb,gq];omega
   rcases ab6.1 h with rfl|h
   ·have:=h1 l;rw[gq,hk];simp;omega
   ·have:=ih h;have:=gq a;omega
 exact this _ h
theorem aag(w0:W0):∀(m:Nat) (n:N) (S:St),SizeOf.sizeOf n<m→Fit 524288 n→ab Tryz.prog w0 145 [eN n] S (fun d S'=>d=eN (jD n)∧S'=S):=by
 intro m
 induction m with
 |zero=>intro n S h;omega
 |succ m ih=>
  intro n S hm hf;refine aJ [] mx Tryz.func145 rfl rfl (by kernel_rfl) ?_;refine @aa _ (ai @Tryz.ntmps145 ?_);have hl:=aT n;have hB:=hf.2.2
  have hN:(↑n.l.length=(1:Int))→n.leaf=false→∃c k,n.l=[c]∧c.kid=[k]∧Fit 524288 k∧SizeOf.sizeOf k<m:=fun h1 h2=>by
   have h3:n.l.length=1:=by omega
   obtain⟨c,hc⟩:=afb.1 h3;obtain⟨k,hk,hok⟩:=((yY n).1 hf.1 h2).2 c (by rw[hc];exact aeC c);have hcm:c∈n.l:=by rw[hc];exact aeC c
   have h4:=cL hcm hk;have h5:=Il hcm (by rw[hk];exact aeC k);exact⟨c,k,hc,hk,⟨hok,((lC c).1 ((fD n).1 hf.2.1 c hcm)).2.2.2 k (by rw[hk];exact aeC k),by omega⟩,by omega⟩
  have hbr:U0 (.mk 0 false [ak aN n]):=⟨by simp[N.l],fun c hc=>by
   simp only[N.l,acz]at hc;subst hc;exact⟨n,rfl,hf.2.1,by omega⟩,fun c hc=>by
   simp only[N.l,acz]at hc;subst hc;show(ByteArray.empty).size≤16;simp⟩
  intro b b1;have rest:n.leaf=true∨n.l.length≠1→jD n=if atR (ah n)=0 then n else cG (.mk 0 false [ak aN n]) 0:=cZ n
  refine⟨fun hlf=>⟨fun h1=>⟨by omega,fun a ha=>?_⟩,fun h1=>?_⟩,fun hlf=>?_⟩
  ·obtain⟨c,k,hc,hk,hfk,hsk⟩:=hN h1 hlf;rw[hc]at ha;obtain rfl:c=a:=by simpa using ha
   rw[hk];refine⟨by simp,fun a2 ha2=>?_⟩;obtain rfl:k=a2:=by simpa using ha2
   refine ae (ih k _ hsk hfk) ?_;exact @aa _ (jd (j7 n hlf hc hk))
  ·refine ae (rN w0 n _ hf.2.1 (by omega)) ?_;refine @aa _ (af ?_);refine ae (atW w0 _ _ (fp n hf.2.1 (by omega))) ?_;refine @aa _ (af ?_);rw[rest (.inr (by omega))];refine⟨fun h0=>?_,fun h0=>?_⟩
   ·rw[if_pos (by omega)];exact .refl _
   ·rw[if_neg (by omega)];refine ae (KD w0 (.mk 0 false [ak aN n]) 0 _ hbr (by simp[N.l])) ?_ (by simp(maxDischargeDepth:=12) (maxSteps:=1000000) -implicitDefEqProofs only[go_sem,Nat.reduceAdd,Nat.reduceSub,Nat.reduceMul,Nat.reduceLeDiff,Nat.reduceEqDiff,Nat.reduceGT,Nat.reduceBEq,reduceCtorEq,↓reduceIte,Int.reduceToNat,Int.reduceLE,Int.reduceLT,Int.reduceNe,Int.reduceEq,ak,aN]);exact @aa _ aF
  ·refine ae (rN w0 n _ hf.2.1 (by omega)) ?_;refine @aa _ (af ?_);refine ae (atW w0 _ _ (fp n hf.2.1 (by omega))) ?_;refine @aa _ (af ?_);rw[rest (.inl hlf)];refine⟨fun h0=>?_,fun h0=>?_⟩
   ·rw[if_pos (by omega)];exact .refl _
   ·rw[if_neg (by omega)];refine ae (KD w0 (.mk 0 false [ak aN n]) 0 _ hbr (by simp[N.l])) ?_ (by simp(maxDischargeDepth:=12) (maxSteps:=1000000) -implicitDefEqProofs only[go_sem,Nat.reduceAdd,Nat.reduceSub,Nat.reduceMul,Nat.reduceLeDiff,Nat.reduceEqDiff,Nat.reduceGT,Nat.reduceBEq,reduceCtorEq,↓reduceIte,Int.reduceToNat,Int.reduceLE,Int.reduceLT,Int.reduceNe,Int.reduceEq,ak,aN]);exact @aa _ aF
theorem bk:aN.size=0:=rfl
theorem cI{l m:List C}{i:Nat}(h:i<l.length):(aA l i m).length+1=l.length+m.length:=by
 unfold aA;simp only[c9,aaE,acv];omega
theorem gP{l m:List C}{i:Nat}{c:C}(h:c∈aA l i m):c∈l∨c∈m:=by
 unfold aA at h;rcases abD.1 h with h|h
 ·rcases abD.1 h with h|h
  ·exact .inl (ac5 h)
  ·exact .inr h
 ·exact .inl (adk h)
theorem lh{l:List C}{key val:ByteArray}{c:C}(h:c∈bU l key val):c∈l∨c= .mk key val [] []:=by
 have h2:c∈l.take (bf l key)++[.mk key val [] []]++l.drop (bf l key)→c∈l∨c= .mk key val [] []:=fun h=>by
  rcases abD.1 h with h|h
  ·rcases abD.1 h with h|h
   ·exact .inl (ac5 h)
   ·exact .inr (acz.1 h)
  ·exact .inl (adk h)
 unfold bU at h;simp only at h;split at h
 ·split at h
  ·exact(gP h).imp id acz.1
  ·exact h2 h
 ·exact h2 h
theorem BC(l:List C)(key val:ByteArray):(bU l key val).length≤l.length+1:=by
 have h2:(l.take (bf l key)++[C.mk key val [] []]++l.drop (bf l key)).length≤l.length+1:=by
  simp only[c9,aaE,acv,abx,acL];omega
 unfold bU;simp only;split
 ·rename_i c hc;split
  ·have:=cI (m:=[C.mk key val [] []]) (aaq.1 hc).1;simp only[abx,acL]at this;omega
  ·exact h2
 ·exact h2
def Sh(c:C):Prop:=c.key.size≤16∧c.data.size≤400∧c.an.length≤4
def UQ(c:C):Prop:=c.key.size≤16∧c.data.size≤400∧c.an.length≤0
theorem UQ.sh{c:C}(h:UQ c):Sh c:=⟨h.1,h.2.1,aeq h.2.2 (aeh 4)⟩
def Nd:Nat→N→Prop
 |0,n=>n.leaf=true∧∀c,c∈n.l→Sh c∧c.kid=[]
 |d+1,n=>n.leaf=false∧n.l≠[]∧∀c,c∈n.l→UQ c∧∃k,c.kid=[k]∧Nd d k
theorem Ti:∀{d:Nat} {n:N},Nd d n→SN n
 |0,n,h=>(yY n).2 fun e=>by rw[h.1]at e;cases e
 |d+1,n,h=>(yY n).2 fun _=>⟨h.2.1,fun c hc=>let⟨_,k,hk,hn⟩:=h.2.2 c hc;⟨k,hk,Ti hn⟩⟩
theorem oq:∀{d:Nat} {n:N},Nd d n→GZ n
 |0,n,h=>(fD n).2 fun c hc=>(lC c).2 (by
  obtain⟨h1,h2⟩:=h.2 c hc;exact⟨h1.1,h1.2.1,h1.2.2,fun k hk=>by rw[h2]at hk;cases hk⟩)
 |d+1,n,h=>(fD n).2 fun c hc=>(lC c).2 (by
  obtain⟨h1,k,hk,hn⟩:=h.2.2 c hc;exact⟨h1.1,h1.2.1,h1.sh.2.2,fun k' hk'=>by rw[hk,acz]at hk';rw[hk'];exact oq hn⟩)
theorem SI{d:Nat}{n:N}(h:Nd d n):∀c,c∈n.l→Sh c:=fun c hc=>by
 cases d with
 |zero=>exact(h.2 c hc).1
 |succ d=>exact(h.2.2 c hc).1.sh
theorem uH{d:Nat}{n:N}(h:Nd d n)(p:Int){l:List C}(hl:∀c,c∈l→c∈n.l)(hn:l≠[]):Nd d (.mk p n.leaf l):=by
 cases d with
 |zero=>exact⟨h.1,fun c hc=>h.2 c (hl c hc)⟩
 |succ d=>exact⟨h.1,hn,fun c hc=>h.2.2 c (hl c hc)⟩
theorem w7{d:Nat}{p:Int}{b:Bool}{l:List C}{key:ByteArray}(hk:key.size≤16)(h:Nd d (.mk p b l)):Nd d (.mk p b (bD key l)):=by
 cases l with
 |nil=>exact h
 |cons a l=>
  cases d with
  |zero=>
   refine⟨h.1,fun c hc=>?_⟩;rcases ab6.1 hc with rfl|hc
   ·have:=h.2 a aaX;exact⟨⟨hk,this.1.2⟩,this.2⟩
   ·exact h.2 c (abn _ hc)
  |succ d=>
   refine⟨h.1,by simp[bD,N.l],fun c hc=>?_⟩;rcases ab6.1 hc with rfl|hc
   ·have:=h.2.2 a aaX;exact⟨⟨hk,this.1.2⟩,this.2⟩
   ·exact h.2.2 c (abn _ hc)
theorem dQ{d:Nat}{key:ByteArray}{k:N}(hk:key.size≤16)(h:Nd d k):UQ (ak key k)∧∃k',(ak key k).kid=[k']∧Nd d k':=
 ⟨⟨hk,by show aN.size≤400;rw[bk];omega,by simp[ak,C.an]⟩,k,rfl,h⟩
theorem C3{l:List C}(h:∀c,c∈l→Sh c):(keyOf l).size≤16:=by
 cases l with
 |nil=>show aN.size≤16;rw[bk];omega
 |cons a l=>exact(h a aaX).1
theorem A4{l m:List C}{i:Nat}(h:1<l.length∨m≠[])(hi:i<l.length):aA l i m≠[]:=by
 intro e;have:=cI (m:=m) hi;rw[e]at this;rcases h with h|h
 ·simp at this;omega
 ·have:=ad9.2 h;simp at *;omega
theorem wQ{d:Nat}{n kid:N}{k:Nat}{key:ByteArray}(hn:Nd (d+1) n)(hk:Nd d kid)(hkey:key.size≤16)(hlt:k<n.l.length):Nd (d+1) (aR n kid k key).1:=by
 unfold aR;simp only;split
 ·exact hn
 ·rename_i h0;obtain⟨_,h1,h2⟩:=hn;have ha:=DI _ h0;have hl:(ah kid).length=kid.l.length:=by unfold ah;rw[abv]
  rw[hl]at ha;generalize atR (ah kid)=i at*;refine⟨rfl,A4 (.inr (by simp)) hlt,fun c hc=>?_⟩;rcases gP hc with hc|hc
  ·exact h2 c hc
  ·rcases ab6.1 hc with rfl|hc
   ·exact dQ hkey (uH hk _ (fun c hc=>ac5 hc) fun e=>by have:=congrArg List.length e;rw[aaE,acL]at this;omega)
   ·rw[acz]at hc;subst hc;have hr:Nd d (.mk 0 kid.leaf (kid.l.drop i)):=uH hk _ (fun c hc=>adk hc) fun e=>by have:=congrArg List.length e;rw[acv,acL]at this;omega
    refine dQ (C3 fun c hc=>SI hk c (adk hc)) ?_;split
    ·exact hr
    ·exact w7 (by rw[bk];omega) hr
theorem cw{d:Nat}{n:N}(hn:Nd (d+1) n){k:Nat}(hk:k<n.l.length):∃c kid,n.l[k]? =some c∧cellAt n.l k=c∧aB c=kid∧c.kid=[kid]∧c.key.size≤16∧Nd d kid:=by
 obtain⟨c,hc⟩:∃c,n.l[k]? =some c:=⟨_,aay hk⟩;obtain⟨q1,kid,hkid,hnd⟩:=hn.2.2 c (aap hc);exact⟨c,kid,hc,eM hc,aO hkid,hkid,q1.1,hnd⟩
theorem mr:∀{d:Nat} {a b:N},Nd d a→Nd d b→a.leaf=b.leaf
 |0,a,b,ha,hb=>ha.1.trans hb.1.symm
 |d+1,a,b,ha,hb=>ha.1.trans hb.1.symm
theorem yn{d:Nat}{a b:N}{key:ByteArray}(ha:Nd d a)(hb:Nd d b)(hk:key.size≤16):Nd d (bQ a b key):=by
 have hl:=mr ha hb;unfold bQ;by_cases hbl:b.l=[]
 ·have:(if b.leaf then b.l else bD key b.l)=[]:=by rw[hbl];split <;>rfl
  rw[this,ad0]
  cases d with
  |zero=>exact ha
  |succ d=>exact absurd hbl hb.2.1
 ·have hb':Nd d (.mk 0 a.leaf (if b.leaf then b.l else bD key b.l)):=by
   have:Nd d (.mk 0 a.leaf b.l):=hl▸uH hb 0 (fun _ h=>h) hbl;split
   ·exact this
   ·exact w7 hk this
  generalize (if b.leaf then b.l else bD key b.l)=r at*
  cases d with
  |zero=>
   refine⟨ha.1,fun c hc=>?_⟩;rcases abD.1 hc with hc|hc
   ·exact ha.2 c hc
   ·exact hb'.2 c hc
  |succ d=>
   refine⟨ha.1,fun e=>ha.2.1 (List.append_eq_nil_iff.1 e).1,fun c hc=>?_⟩;rcases abD.1 hc with hc|hc
   ·exact ha.2.2 c hc
   ·exact hb'.2.2 c hc
theorem ia{d:Nat}{n:N}(hn:Nd (d+1) n){i:Nat}(hi:i<n.l.length)(p:Int){m:List C}(h1:1<n.l.length∨m≠[])(hm:∀c,c∈m→UQ c∧∃k,c.kid=[k]∧Nd d k):Nd (d+1) (.mk p false (aA n.l i m)):=
 ⟨rfl,A4 h1 hi,fun c hc=>(gP hc).elim (hn.2.2 c) (hm c)⟩
theorem tX{d:Nat}{n:N}{k:Nat}(hn:Nd (d+1) n)(hlt:k<n.l.length):Nd (d+1) (cG n k):=by
 obtain⟨c,kid,hc,e1,e2,hkid,hkey,hnd⟩:=cw hn hlt;unfold cG;simp only[e1,e2];split
 ·exact wQ hn hnd hkey hlt
 ·split
  ·exact hn
  ·rename_i h1 h2;simp only[ael,decide_eq_true_eq,not_or]at h2;have hj:(if k+1<n.l.length then k else k-1)+1<n.l.length:=by split <;>omega
   generalize (if k+1<n.l.length then k else k-1)=j at*;obtain⟨c0,k0,hc0,f1,f2,hk0,hkey0,hnd0⟩:=cw hn (k:=j) (by omega);obtain⟨c1,k1,hc1,g1,g2,hk1,hkey1,hnd1⟩:=cw hn hj;rw[f1,f2,g1,g2];have hbo:=yn hnd0 hnd1 hkey1;have hw1:Nd (d+1) (.mk 0 false (aA n.l (j+1) [])):=ia hn hj 0 (.inl (by omega)) (fun c hc=>by cases hc);have hwl:=cI (m:=[]) hj;simp only[acL]at hwl
   have hw2:=ia hw1 (i:=j) (by simp only[N.eX];omega) 0 (m:=[ak c0.key (bQ k0 k1 c1.key)]) (.inr (by simp)) fun c hc=>by
    rw[acz]at hc;subst hc;exact dQ hkey0 hbo
   refine wQ hw2 hbo hkey0 ?_;have:=cI (l:=aA n.l (j+1) []) (i:=j) (m:=[ak c0.key (bQ k0 k1 c1.key)]) (by omega);simp only[N.eX,abx,acL]at this ⊢;omega
theorem fW{key val:ByteArray}(hk:key.size≤16)(hv:val.size≤400):∀{d:Nat} {n:N},Nd d n→Nd d (cb key val n)
 |0,n,h=>by
  rw[fS _ _ _ h.1];refine⟨rfl,fun c hc=>?_⟩;rcases lh hc with hc|rfl
  ·exact h.2 c hc
  ·exact⟨⟨hk,hv,by simp[C.an]⟩,rfl⟩
 |d+1,n,h=>by
  have hw:=fZ h.2.1 key;obtain⟨c,kid,hc,_,_,hkid,hkey,hnd⟩:=cw h hw;rw[jz _ _ _ h.1 hc hkid]
  have h1:=ia h hw 0 (m:=[ak c.key (cb key val kid)]) (.inr (by simp)) fun c' hc'=>by
   rw[acz]at hc';subst hc';exact dQ hkey (fW hk hv hnd)
  have:=cI (m:=[ak c.key (cb key val kid)]) hw;exact tX h1 (by simp only[N.eX,abx,acL]at *;omega)
theorem Lz:∀{d:Nat} {n:N},Nd d n→∃d',d'≤d+1∧Nd d' (jD n):=by
 have one:∀{d:Nat} {n:N},Nd d n→∃d',d'≤d+1∧Nd d' (if atR (ah n)=0 then n else cG (.mk 0 false [ak aN n]) 0):=fun{d n} h=>by
  split
  ·exact⟨d,by omega,h⟩
  ·refine⟨d+1,abI _,tX ⟨rfl,by simp[N.l],fun c hc=>?_⟩ (by simp[N.l])⟩;simp only[N.eX,acz]at hc;subst hc;exact dQ (by rw[bk];omega) h
 intro d
 induction d with
 |zero=>intro n h;rw[cZ _ (.inl h.1)];exact one h
 |succ d ih=>
  intro n h;by_cases h1:n.l.length=1
  ·obtain⟨c,hc⟩:=afb.1 h1;obtain⟨_,k,hk,hn⟩:=h.2.2 c (by rw[hc];exact aeC c);rw[j7 n h.1 hc hk];obtain⟨d',h2,h3⟩:=ih hn;exact⟨d',by omega,h3⟩
  ·rw[cZ _ (.inr h1)];exact one h
def lE(l:List C):Nat:=(l.map nH).sum
theorem lx(a b:List C):lE (a++b)=lE a+lE b:=by unfold lE;rw[aa1,aeo]
theorem bI(c:C)(l:List C):lE (c::l)=nH c+lE l:=by unfold lE;rw[aa9,adb]
theorem ll:lE []=0:=rfl
theorem bu(n:N):bA n=lE n.l:=zJ n
theorem jB(p:Int)(b:Bool)(l:List C):bA (.mk p b l)=lE l:=by rw[bu];rfl
theorem jh(key:ByteArray)(k:N):nH (ak key k)=1+bA k:=by rw[gq];simp[ak,C.kid]
theorem dw{c:C}{k:N}(h:c.kid=[k]):nH c=1+bA k:=by rw[gq,h];simp
theorem xl(l:List C)(i:Nat):lE (l.take i)+lE (l.drop i)=lE l:=by rw[←lx,adI]
theorem jM{l m:List C}{i:Nat}{c:C}(h:l[i]? =some c):lE (aA l i m)+nH c=lE l+lE m:=by
 have h1:=xl l i
 have h2:l.drop i=c::l.drop (i+1):=by
  obtain⟨hlt,rfl⟩:=aaq.1 h;exact aet hlt
 rw[h2,bI]at h1;unfold aA;rw[lx,lx];omega
theorem vO(key:ByteArray)(l:List C):lE (bD key l)=lE l:=by
 cases l with
 |nil=>rfl
 |cons a l=>simp only[bD,bI,gq,C.uq]
theorem vR{n kid:N}{k:Nat}{c:C}(hc:n.l[k]? =some c)(hk:c.kid=[kid])(key:ByteArray):bA (aR n kid k key).1≤bA n+1:=by
 unfold aR;simp only;split
 ·simp
 ·have h1:=xl kid.l (atR (ah kid));have h2:=jM (m:=[ak key (.mk 0 kid.leaf (kid.l.take (atR (ah kid)))),ak (keyOf (kid.l.drop (atR (ah kid)))) (.mk 0 kid.leaf (if kid.leaf then(kid.l.drop (atR (ah kid)))else bD aN (kid.l.drop (atR (ah kid)))))]) hc
  have h3:lE (if kid.leaf then(kid.l.drop (atR (ah kid)))else bD aN (kid.l.drop (atR (ah kid))))=lE (kid.l.drop (atR (ah kid))):=by
   split
   ·rfl
   ·exact vO _ _
  rw[bI,bI,ll,jh,jh,jB,jB,dw hk,bu kid,h3]at h2;rw[jB,bu n];omega
theorem vN{l m:List C}{i:Nat}{c:C}(hi:i<l.length):(aA l i (c::m))[i]? =some c:=by
 unfold aA;rw[abA,adN (by rw[aaE];omega),aaE,show i-min i l.length=0 by omega];rfl
theorem uM{d:Nat}{n:N}{k:Nat}(hn:Nd (d+1) n)(hlt:k<n.l.length):bA (cG n k)≤bA n+1:=by
 obtain⟨c,kid,hc,e1,e2,hkid,hkey,hnd⟩:=cw hn hlt;unfold cG;simp only[e1,e2];split
 ·exact vR hc hkid _
 ·split
  ·omega
  ·rename_i h1 h2;simp only[ael,decide_eq_true_eq,not_or]at h2;have hj:(if k+1<n.l.length then k else k-1)+1<n.l.length:=by split <;>omega
   generalize (if k+1<n.l.length then k else k-1)=j at*;obtain⟨c0,k0,hc0,f1,f2,hk0,hkey0,hnd0⟩:=cw hn (k:=j) (by omega);obtain⟨c1,k1,hc1,g1,g2,hk1,hkey1,hnd1⟩:=cw hn hj;rw[f1,f2,g1,g2];have hwl:=cI (m:=[]) hj;simp only[acL]at hwl;have hj2:j<(aA n.l (j+1) []).length:=by omega
   refine aeq (vR (c:=ak c0.key (bQ k0 k1 c1.key)) (vN hj2) rfl _) ?_;have t1:=jM (m:=[]) hc1
   have hat:(aA n.l (j+1) [])[j]? =some c0:=by
    unfold aA;rw[abA,ad4 (by rw[aaE];omega),adU,if_pos (by omega)];exact hc0
   have t2:=jM (m:=[ak c0.key (bQ k0 k1 c1.key)]) hat
   have t3:bA (bQ k0 k1 c1.key)=bA k0+bA k1:=by
    unfold bQ;rw[bu,N.eX,lx,bu k0,bu k1];split
    ·rfl
    ·rw[vO]
   rw[bI,ll,jh,t3,dw hk0]at t2;rw[ll,dw hk1]at t1;rw[bu,bu n,N.eX];omega
theorem AR{l:List C}(h:∀c,c∈l→c.kid=[])(key val:ByteArray):lE (bU l key val)≤lE l+1:=by
 have ht:∀l:List C,(∀c,c∈l→c.kid=[])→lE l=l.length:=by
  intro l
  induction l with
  |nil=>intro _;rfl
  |cons a l ih=>
   intro h;rw[bI,gq,h a aaX,ih fun c hc=>h c (abn _ hc),abx];simp;omega
 rw[ht l h,ht _ fun c hc=>(lh hc).elim (h c) fun e=>by rw[e];rfl];exact BC l key val
theorem oO{key val:ByteArray}(hk:key.size≤16)(hv:val.size≤400):∀{d:Nat} {n:N},Nd d n→bA (cb key val n)≤bA n+1+d
 |0,n,h=>by
  rw[fS _ _ _ h.1,bu,bu n,N.eX];have:=AR (fun c hc=>(h.2 c hc).2) key val;omega
 |d+1,n,h=>by
  have hw:=fZ h.2.1 key;obtain⟨c,kid,hc,_,_,hkid,hkey,hnd⟩:=cw h hw;rw[jz _ _ _ h.1 hc hkid]
  have h1:=ia h hw 0 (m:=[ak c.key (cb key val kid)]) (.inr (by simp)) fun c' hc'=>by
   rw[acz]at hc';subst hc';exact dQ hkey (fW hk hv hnd)
  have h2:=cI (m:=[ak c.key (cb key val kid)]) hw;have h3:=uM h1 (k:=fY n.l key) (by simp only[N.eX,abx,acL]at *;omega);have h4:=jM (m:=[ak c.key (cb key val kid)]) hc;have h5:=oO hk hv hnd;rw[bI,ll,jh,dw hkid]at h4;rw[bu (.mk 0 false _),N.eX]at h3;rw[bu n];omega
theorem FM{d:Nat}:∀{n:N},Nd d n→bA (jD n)≤bA n+2:=by
 have one:∀{d:Nat} {n:N},Nd d n→bA (if atR (ah n)=0 then n else cG (.mk 0 false [ak aN n]) 0)≤bA n+2:=fun{d n} h=>by
  split
  ·omega
  ·have:=uM (d:=d) (n:= .mk 0 false [ak aN n]) (k:=0) ⟨rfl,by simp[N.l],fun c hc=>by
    simp only[N.eX,acz]at hc;subst hc;exact dQ (by rw[bk];omega) h⟩ (by simp[N.l])
   rw[bu (.mk 0 false _),N.eX,bI,ll,jh]at this;omega
 induction d with
 |zero=>intro n h;rw[cZ _ (.inl h.1)];exact one h
 |succ d ih=>
  intro n h;by_cases h1:n.l.length=1
  ·obtain⟨c,hc⟩:=afb.1 h1;obtain⟨_,k,hk,hn⟩:=h.2.2 c (by rw[hc];exact aeC c);rw[j7 n h.1 hc hk];have:=ih hn;have:=cL (c:=c) (k:=k) (n:=n) (by rw[hc];exact aeC c) hk;omega
  ·rw[cZ _ (.inr h1)];exact one h
end Go.Proofs.YtpjenciplibdnaaGreatDoor
