/-
  Less is said of a value than is known: at calls, at results, at loops; More forms of functions; Statements whose order is open, once more: what reads no store may come at any time, and so may what makes a box that nothing ahead looks at; Statements whose order is open: how the reckoning goes; Ranges over functions; A row that a statement builds, as one that grows; The end of a growing slice, cleared; Few statements whose order is open, each order walked; Statements whose order is open, with rows made and turned to texts: what is made is frozen at once; Statements whose order is open, once more: what reads no store may come at any time, and so may what makes a box that nothing ahead looks at; Statements whose order is open: how the reckoning goes; What is known of a map that is owned; Rows of ints, as the walk speaks of them; Sizes, and where nodes are parted: what the reference computes; Trees of the reference; Nodes parted and put together: what the reference computes; Branches mended: what the reference computes; Putting: what the reference computes; Trees stay trees; keys and values short; depth and number of entries: plain laws; How many entries a tree has: plain laws; Putting, walked; Finding and deleting, walked; The order of texts; where rows of sizes are parted: plain laws; Trees that may be: their entries, their order, their sizes; mending keeps them: plain laws. By an AI agent.
-/
import Derived.Test.YtpjenciplibdnaaGreatDoorMP3
set_option linter.unusedVariables false
set_option linter.unusedSimpArgs false
set_option maxRecDepth 100000
set_option maxHeartbeats 16000000
namespace Aml
open Go Go.RowKit
def Wk(d e:DV):Prop:=∀g u,aM g d u→aM g e u
def gk:List DV→List DV→Prop
 |[],[]=>True
 |d::ds,e::es=>Wk d e∧gk ds es
 |_,_=>False
theorem Wk.refl(d:DV):Wk d d:=fun _ _ h=>h
theorem Wk.trans{a b c:DV}(h:Wk a b)(k:Wk b c):Wk a c:=fun g u r=>k g u (h g u r)
theorem Wk.any(d:DV):Wk d .any:=fun g u _=> .any u
theorem Wk.nil(s s':Nat)(f:Bool):Wk (.sl s true []) (.sl s' f []):=fun g u r=>by
 obtain⟨o,h⟩:=eI r
 rw[h];exact .nil _ _ _ _ fun _=>rfl
theorem Wk.full(s:Nat)(f:Bool)(xs:List DV):Wk (.sl s f xs) (.sl s false xs):=fun g u r=>by
 cases r with
 |nil _ _ o c hc=>exact .nil _ _ _ _ (by simp)
 |sl _ _ _ b o c us hl hf hc hm hr hz h1 hi=>exact .sl _ _ _ _ _ _ us hl (by simp) hc hm hr hz h1 hi
theorem gk.refl:∀ds,gk ds ds
 |[]=>trivial
 |d::ds=>⟨.refl d,gk.refl ds⟩
theorem gk.spec:∀{ds es:List DV},gk ds es→∀{g:Gh} {us:List Value},aj g ds us→aj g es us
 |[],[],_,_,_,r=>r
 |d::ds,e::es,h,g,us,r=>by
  obtain⟨u,us',rfl,r1,r2⟩:=r.bV
  exact aj.cons (h.1 _ _ r1) (gk.spec h.2 r2)
theorem gk.length:∀{ds es:List DV},gk ds es→ds.length=es.length
 |[],[],_=>rfl
 |d::ds,e::es,h=>by simp[gk.length h.2]
theorem gk.trans:∀{a b c:List DV},gk a b→gk b c→gk a c
 |[],[],[],_,_=>trivial
 |_::_,_::_,_::_,h,k=>⟨h.1.trans k.1,h.2.trans k.2⟩
theorem Wk.agg{ds es:List DV}(h:gk ds es):Wk (.agg ds) (.agg es):=fun g u r=>by
 cases r with
 |agg _ us hl hr h1=>
  have:=h.spec (g:=g) (us:=us) ⟨hl,hr⟩
  exact .agg _ _ this.len this.at_ h1
theorem Wk.bN{ds es:List DV}(h:gk ds es):Wk (.bN ds) (.bN es):=fun g u r=>by
 cases r with
 |bN _ us hl hr=>
  have:=h.spec (g:=g) (us:=us) ⟨hl,hr⟩
  exact .bN _ _ this.len this.at_
theorem Wk.jQ{t:TypeId}{d e:DV}(h:Wk d e):Wk (.jQ t d) (.jQ t e):=fun g u r=>by
 cases r with
 |jQ _ _ u r=>exact .jQ _ _ _ (h _ _ r)
theorem Wk.sl{s:Nat}{f:Bool}{xs ys:List DV}(h:gk xs ys):Wk (.sl s f xs) (.sl s f ys):=fun g u r=>by
 cases r with
 |nil _ _ o c hc=>
  cases ys with
  |nil=>exact .nil _ _ _ _ hc
  |cons y ys=>exact h.elim
 |sl _ _ _ b o c us hl hf hc hm hr hz h1 hi=>
  have:=h.spec (g:=g) (us:=us) ⟨hl,hr⟩
  exact .sl _ _ _ _ _ _ us this.len hf hc hm this.at_ hz h1 hi
theorem US{ds es:List DV}(h:gk ds es):Wk (.bN ds) (.bN es)=True:=eq_true (Wk.bN h)
theorem S7{ds es:List DV}(h:gk ds es):Wk (.agg ds) (.agg es)=True:=eq_true (Wk.agg h)
theorem gk.map{α:Type}{f g:α→DV}(h:∀a,Wk (f a) (g a)):∀(l:List α),gk (l.map f) (l.map g)
 |[]=>trivial
 |a::l=>⟨h a,gk.map h l⟩
theorem gk.nil:gk [] []:=trivial
theorem gk.cons{d e:DV}{ds es:List DV}(h:Wk d e)(k:gk ds es):gk (d::ds) (e::es):=⟨h,k⟩
theorem Jk(d e:DV)(ds es:List DV):gk (d::ds) (e::es)=(Wk d e∧gk ds es):=rfl
theorem Q3:gk [] []=True:=rfl
theorem U5(a0 a1 a2 a3 a4 a5 a6 a7 a8 a9 bU bZ a12 cB cE cN:DV)(b0 b1 b2 b3 b4 b5 b6 b7 b8 b9 b10 b11 b12 b13 b14 b15:DV)(l m:List DV):gk (rc ⟨a0,a1,a2,a3,a4,a5,a6,a7,a8,a9,bU,bZ,a12,cB,cE,cN⟩ l) (rc ⟨b0,b1,b2,b3,b4,b5,b6,b7,b8,b9,b10,b11,b12,b13,b14,b15⟩ m)=(Wk a0 b0∧Wk a1 b1∧Wk a2 b2∧Wk a3 b3∧Wk a4 b4∧Wk a5 b5∧Wk a6 b6∧Wk a7 b7∧Wk a8 b8∧Wk a9 b9∧Wk bU b10∧Wk bZ b11∧Wk a12 b12∧Wk cB b13∧Wk cE b14∧Wk cN b15∧gk l m):=rfl
theorem Wk.eq{d e:DV}(h:d=e):Wk d e:=h▸ .refl d
theorem sC(d:DV):Wk d d=True:=eq_true (.refl d)
theorem TE{u u':Value}(h:u.oneCell'=true):Wk (.v u) (.v u')↔u=u':=
 ⟨fun k=>by have:=k ⟨fun _ _=>none,fun _ _=>none,fun _=>none⟩ u (.v u h);cases this;rfl,fun e=>e▸ .refl _⟩
theorem Tm(k:IntKind)(a b:Int):Wk (.v (.int k a)) (.v (.int k b))=(a=b):=propext ((TE rfl).trans ⟨fun h=>(Value.int.inj h).2,fun h=>by rw[h]⟩)
theorem OZ(a b:Bool):Wk (.v (.bool a)) (.v (.bool b))=(a=b):=propext ((TE rfl).trans ⟨fun h=>Value.bool.inj h,fun h=>by rw[h]⟩)
theorem Tb(a b:ByteArray):Wk (.v (.string a)) (.v (.string b))=(a=b):=propext ((TE rfl).trans ⟨fun h=>Value.string.inj h,fun h=>by rw[h]⟩)
theorem O4(s:Nat)(f:Bool)(xs:List DV):Wk (.sl s f xs) (.sl s false xs)=True:=eq_true (.full s f xs)
theorem T9(s s':Nat)(f:Bool):Wk (.sl s true []) (.sl s' f [])=True:=eq_true (.nil s s' f)
section
variable {P:Program} {w0:W0}
theorem wz{f:FuncId}{args args':List DV}{S:St}{K K':DV→St→Prop}(h:aa P w0 f args' S K')(ha:gk args args')(hk:∀d S',K' d S'→∃e,Wk d e∧K e S'):aa P w0 f args S K:=
 fun g vs w h1 h2=>(h g vs w h1 (ha.spec h2)).mono fun e w' ⟨r,g',d,S',q1,q2,q3,q4,q5⟩=>
  let⟨e',k1,k2⟩:=hk _ _ q5
  ⟨r,g',e',S',q1,q2,q3,k1 _ _ q4,k2⟩
theorem kR{f:FuncId}{args args':List DV}{S:St}{K:DV→St→Prop}{r:DV}(h:aa P w0 f args' S (fun d S'=>d=r∧S'=S))(ha:gk args args')(hk:K r S):aa P w0 f args S K:=
 wz h ha fun d S' ⟨h1,h2⟩=>⟨d,.refl d,by rw[h1,h2];exact hk⟩
theorem aq{f:FuncId}{args args':List DV}{S:St}{K:DV→St→Prop}{r:DV}(h:aa P w0 f args' S (fun d S'=>d=r∧S'=S))(hk:K r S)(ha:gk args args':=by exact gk.refl _):@AC P w0 f args S ⟨K⟩:=kR h ha hk
theorem bB{f:FuncId}{args args':List DV}{S:St}{K K':DV→St→Prop}(h:aa P w0 f args' S K')(hk:∀d S',K' d S'→K d S')(ha:gk args args':=by exact gk.refl _):@AC P w0 f args S ⟨K⟩:=wz h ha fun d S' q=>⟨d,.refl d,hk d S' q⟩
theorem aT{f:FuncId}{args args':List DV}{S:St}{K:DV→Prop}{r:DV}(h:aa P w0 f args' S (fun d S'=>d=r∧S'=S))(hk:K r)(ha:gk args args':=by exact gk.refl _):@QC P w0 f args S ⟨K⟩:=
 ⟨r,kR h ha ⟨rfl,rfl⟩,hk⟩
structure Sub(S S':St):Prop where
 box:S.box.Sublist S'.box
 acc:S.acc.Sublist S'.acc
theorem Sub.refl(S:St):Sub S S:=⟨List.Sublist.refl _,List.Sublist.refl _⟩
theorem Sub.bw{S:St}{B:List (Nat×List DV)}{A:List (Nat×Ob)}{x:Nat×List DV}(h:Sub S ⟨B,A⟩):Sub S ⟨x::B,A⟩:=⟨h.box.cons _,h.acc⟩
theorem Sub.nZ{S:St}{B:List (Nat×List DV)}{A:List (Nat×Ob)}{x:Nat×Ob}(h:Sub S ⟨B,A⟩):Sub S ⟨B,x::A⟩:=⟨h.box,h.acc.cons _⟩
theorem Sub.Wj{B B':List (Nat×List DV)}{A A':List (Nat×Ob)}{x:Nat×List DV}(h:Sub ⟨B,A⟩ ⟨B',A'⟩):Sub ⟨x::B,A⟩ ⟨x::B',A'⟩:=⟨h.box.cons_cons _,h.acc⟩
theorem Sub.Kc{B B':List (Nat×List DV)}{A A':List (Nat×Ob)}{x:Nat×Ob}(h:Sub ⟨B,A⟩ ⟨B',A'⟩):Sub ⟨B,x::A⟩ ⟨B',x::A'⟩:=⟨h.box,h.acc.cons_cons _⟩
theorem sX(S:St):Sub S S=True:=eq_true (.refl S)
theorem Tj{B B':List (Nat×List DV)}{A A':List (Nat×Ob)}(x:Nat×List DV)(h:Sub ⟨B,A⟩ ⟨B',A'⟩):Sub ⟨x::B,A⟩ ⟨x::B',A'⟩=True:=eq_true h.Wj
theorem S6{B B':List (Nat×List DV)}{A A':List (Nat×Ob)}(x:Nat×Ob)(h:Sub ⟨B,A⟩ ⟨B',A'⟩):Sub ⟨B,x::A⟩ ⟨B',x::A'⟩=True:=eq_true h.Kc
theorem S4(S:St){B:List (Nat×List DV)}{A:List (Nat×Ob)}(x:Nat×List DV)(h:Sub S ⟨B,A⟩):Sub S ⟨x::B,A⟩=True:=eq_true h.bw
theorem SA(S:St){B:List (Nat×List DV)}{A:List (Nat×Ob)}(x:Nat×Ob)(h:Sub S ⟨B,A⟩):Sub S ⟨B,x::A⟩=True:=eq_true h.nZ
def pN:List Nat→List DV→St→(List DV→St→Prop)→Prop
 |[],fr,S,K=>K fr S
 |i::is,fr,S,K=>oK (fr[i]?) fun d=>shr S d fun d S=>pN is (fr.set i d) S K
theorem F5(fr:List DV)(S:St)(K:List DV→St→Prop):pN [] fr S K=K fr S:=rfl
theorem CC(i:Nat)(is:List Nat)(fr:List DV)(S:St)(K:List DV→St→Prop):pN (i::is) fr S K=oK (fr[i]?) fun d=>shr S d fun d S=>pN is (fr.set i d) S K:=rfl
theorem pA{K:List DV→St→Prop}:∀(is:List Nat) {fr:List DV} {S:St} {g:Gh} {w:World} {us:List Value},Rel w0 g S w→aj g fr us→pN is fr S K→∃g' fr' S',g.le g'∧Rel w0 g' S' w∧aj g' fr' us∧K fr' S'
 |[],fr,S,g,w,us,h1,h2,h=>⟨g,fr,S,.refl g,h1,h2,h⟩
 |i::is,fr,S,g,w,us,h1,h2,h=>by
  unfold pN at h
  cases hi:fr[i]? with
  |none=>rw[hi]at h;exact h.elim
  |some d=>
   rw[hi,wI]at h
   have hlt:i<us.length:=by rw[←h2.len];exact(List.getElem?_eq_some_iff.1 hi).1
   have hr:=h2.at_ i _ _ hi (List.getElem?_eq_getElem hlt)
   obtain⟨g1,d',S1,k1,k2,k3,k4⟩:=mG h1 hr h
   obtain⟨g2,fr2,S2,q1,q2,q3,q4⟩:=pA is k2 (fp (h2.mono k1) (List.getElem?_eq_getElem hlt) k3) k4
   exact⟨g2,fr2,S2,k1.trans q1,q2,q3,q4⟩
theorem Ro{σ:Type}(live:List Nat)(eR:σ→List (Nat×DV))(st:σ→St)(inv:σ→Prop)(meas:σ→Nat)(s0:σ){c:Code}{fr:List DV}{S:St}{Q:Exit→List DV→St→Prop}
 (h0:inv s0∧gk (wk live fr) (mm (wk live fr) (eR s0))∧Sub (st s0) S)
 (round:∀s,inv s→fW P w0 c (mm (wk live fr) (eR s)) (st s) (j4 (fun fr' S'=>∃s',inv s'∧meas s'<meas s∧gk (wk live fr') (mm (wk live fr) (eR s'))∧Sub (st s') S') Q)):
 fW P w0 (.loop c) fr S Q:=by
 intro g a w h1 h2 h3
 refine pU (fun m a w=>Dk w0 g.obj a w∧∃g' s,g.le g'∧Rel w0 g' (st s) w∧aj g' (mm (wk live fr) (eR s)) a.tmps.toList∧inv s∧meas s=m) (m:=meas s0) ⟨h3,g,s0,.refl g,h1.forget h0.2.2.box h0.2.2.acc,h0.2.1.spec (sM live h2),h0.1,rfl⟩ ?_
 rintro m a w ⟨hd,g',s,k1,k2,k3,k4,rfl⟩
 refine eM (round s k4 g' a w k2 k3 (k1.dk hd)) ?_
 rintro e a' w' ⟨hd',g'',fr'',S'',q1,q2,q3,q4⟩
 cases e with
 |normal=>
  obtain⟨s',hi,hm,hf,hS⟩:=q4
  exact⟨meas s',hm,k1.kd hd',g'',s',k1.trans q1,q2.forget hS.box hS.acc,hf.spec (sM live q3),hi,rfl⟩
 |exit n=>exact⟨k1.kd hd',g'',fr'',S'',k1.trans q1,q2,q3,q4⟩
 |goto n=>exact⟨k1.kd hd',g'',fr'',S'',k1.trans q1,q2,q3,q4⟩
 |ret=>exact⟨k1.kd hd',g'',fr'',S'',k1.trans q1,q2,q3,q4⟩
 |panic ch=>exact⟨k1.kd hd',g'',fr'',S'',k1.trans q1,q2,q3,q4⟩
 |outgrown=>exact⟨k1.kd hd',g'',fr'',S'',k1.trans q1,q2,q3,q4⟩
theorem iH{σ:Type}(ss:List Nat:=[])(live:List Nat)(eR:σ→List (Nat×DV))(st:σ→St)(inv:σ→Prop)(meas:σ→Nat)(s0:σ){c:Code}{fr:List DV}{S:St}{Q:Exit→List DV→St→Prop}(hm:P.follows .mixedOrders=true)(hc:ux ss c=true)
 (h0:inv s0∧gk (wk live fr) (mm (wk live fr) (eR s0))∧Sub (st s0) S)
 (round:∀s,inv s→vw P w0 ss c (mm (wk live fr) (eR s)) (st s) (j4 (fun fr' S'=>∃s',inv s'∧meas s'<meas s∧gk (wk live fr') (mm (wk live fr) (eR s'))∧Sub (st s') S') Q)):
 fW P w0 (.loop c) fr S Q:=Ro live eR st inv meas s0 h0 fun s hs=>da hm c hc (round s hs)
theorem PL(ss:List Nat:=[]){c:Code}{fr:List DV}{S:St}{Q:Exit→List DV→St→Prop}(hm:P.follows .mixedOrders=true)(hc:ux ss c=true)(h:vw P w0 ss c fr S Q):fW P w0 c fr S Q:=da hm c hc h
theorem aA(ss:List Nat:=[])(n:Nat)(live:List Nat)(eR:Nat→List (Nat×DV))(st:Nat→St)(inv:Nat→Prop){c:Code}{fr:List DV}{S:St}{Q:Exit→List DV→St→Prop}(hm:P.follows .mixedOrders=true)(hc:ux ss c=true)
 (h0:inv 0∧gk (wk live fr) (mm (wk live fr) (eR 0))∧Sub (st 0) S)
 (round:∀k,k≤n→inv k→vw P w0 ss c (mm (wk live fr) (eR k)) (st k) (j4 (fun fr' S'=>k<n∧inv (k+1)∧gk (wk live fr') (mm (wk live fr) (eR (k+1)))∧Sub (st (k+1)) S') Q)):
 fW P w0 (.loop c) fr S Q:=by
 refine Ro live eR st (fun k=>k≤n∧inv k) (fun k=>n-k) 0 ⟨⟨Nat.zero_le _,h0.1⟩,h0.2⟩ ?_
 rintro k ⟨h1,h2⟩
 refine(da hm c hc (round k h1 h2)).mono ?_
 intro e fr' S' q
 cases e with
 |normal=>
  obtain⟨q1,q2,q3,q4⟩:=q
  exact⟨k+1,⟨q1,q2⟩,by omega,q3,q4⟩
 |exit n=>exact q
 |goto n=>exact q
 |ret=>exact q
 |panic ch=>exact q
 |outgrown=>exact q
theorem SL(ss:List Nat:=[])(fz:List Nat)(n:Nat)(live:List Nat)(eR:Nat→List (Nat×DV))(st:Nat→St)(inv:Nat→Prop){c:Code}{fr:List DV}{S:St}{Q:Exit→List DV→St→Prop}(hm:P.follows .mixedOrders=true)(hc:ux ss c=true)
 (h0:inv 0∧pN fz (wk live fr) S fun fr' S'=>gk fr' (mm (wk live fr) (eR 0))∧Sub (st 0) S')
 (round:∀k,k≤n→inv k→vw P w0 ss c (mm (wk live fr) (eR k)) (st k) (j4 (fun fr' S'=>k<n∧inv (k+1)∧pN fz (wk live fr') S' fun fr' S'=>gk fr' (mm (wk live fr) (eR (k+1)))∧Sub (st (k+1)) S') Q)):
 fW P w0 (.loop c) fr S Q:=by
 intro g a w h1 h2 h3
 obtain⟨g0,f0,S0,r1,r2,r3,r4,r5⟩:=pA fz h1 (sM live h2) h0.2
 refine pU (fun m a w=>Dk w0 g.obj a w∧∃g' k,g.le g'∧Rel w0 g' (st k) w∧aj g' (mm (wk live fr) (eR k)) a.tmps.toList∧(k≤n∧inv k)∧n-k=m) (m:=n-0) ⟨h3,g0,0,r1,r2.forget r5.box r5.acc,r4.spec r3,⟨Nat.zero_le _,h0.1⟩,rfl⟩ ?_
 rintro m a w ⟨hd,g',k,k1,k2,k3,k4,rfl⟩
 refine eM (da hm c hc (round k k4.1 k4.2) g' a w k2 k3 (k1.dk hd)) ?_
 rintro e a' w' ⟨hd',g'',fr'',S'',q1,q2,q3,q4⟩
 cases e with
 |normal=>
  obtain⟨hlt,hi,hf⟩:=q4
  obtain⟨g3,f3,S3,p1,p2,p3,p4,p5⟩:=pA fz q2 (sM live q3) hf
  exact⟨n-(k+1),by omega,k1.kd hd',g3,k+1,(k1.trans q1).trans p1,p2.forget p5.box p5.acc,p4.spec p3,⟨hlt,hi⟩,rfl⟩
 |exit n=>exact⟨k1.kd hd',g'',fr'',S'',k1.trans q1,q2,q3,q4⟩
 |goto n=>exact⟨k1.kd hd',g'',fr'',S'',k1.trans q1,q2,q3,q4⟩
 |ret=>exact⟨k1.kd hd',g'',fr'',S'',k1.trans q1,q2,q3,q4⟩
 |panic ch=>exact⟨k1.kd hd',g'',fr'',S'',k1.trans q1,q2,q3,q4⟩
 |outgrown=>exact⟨k1.kd hd',g'',fr'',S'',k1.trans q1,q2,q3,q4⟩
theorem aY(ss:List Nat:=[]){f:FuncId}{fn:Func}{c:Code}{rs:List ResultVar}{args:List DV}{S:St}{r:DV}(hm:P.follows .mixedOrders=true)(hf:P.funcs[f]? =some fn)(hb:fn.body=some c)(hrs:fn.results=rs.toArray)(hc:ux ss c=true)
 (h:vw P w0 ss c (fu (args++List.replicate (fn.ntmps-args.length) ud)) S fun e fr S'=>(e= .normal∨e= .ret)∧u9 P fr S' rs fun d=>oz S' d fun d S''=>Wk d r∧Sub S S''):aa P w0 f args S (fun d S'=>d=r∧S'=S):=by
 have h1:aa P w0 f args S (fun d S'=>oz S' d fun d S''=>Wk d r∧Sub S S''):=uf hf hb hrs (da hm c hc h)
 intro g vs w k1 k2
 refine(h1 g vs w k1 k2).mono ?_
 rintro e w' ⟨v,g',d,S',q1,q2,q3,q4,q5⟩
 obtain⟨g2,d',S2,p1,p2,p3,p4,p5⟩:=sG q3 q4 q5
 exact⟨v,g2,r,S,q1,q2.trans p1,p2.forget p5.box p5.acc,p4 _ _ p3,rfl,rfl⟩
theorem Aa(i:Nat){s:Nat}(hs:0<s){xs:List DV}{c:Code}{fr:List DV}{S:St}{Q:Exit→List DV→St→Prop}(hi:fr[i]? =some (.sl s true xs))
 (h:∀l,iX S.acc l→fW P w0 c (fr.set i (.acc l xs.length)) ⟨S.box,(l,.tl s xs)::S.acc⟩ Q):fW P w0 c fr S Q:=by
 intro g a w h1 h2 h3
 have hlt:i<a.tmps.toList.length:=by rw[←h2.len];exact(List.getElem?_eq_some_iff.1 hi).1
 have hr:=h2.at_ i _ _ hi (List.getElem?_eq_getElem hlt)
 obtain⟨l,g',hle,hne,hR,hA⟩:=h1.qJ hs hr (.tl s xs) (.inl rfl)
 have hfr:=fp (h2.mono hle) (List.getElem?_eq_getElem hlt) hA
 exact eM (h l (di hne) g' a w hR hfr (hle.dk h3)) fun _ _ _ k=>k.of_le hle
theorem _root_.Aml.Rel.KD{g:Gh}{S:St}{w:World}(h:Rel w0 g S w){b:Nat}{ds ds':List DV}(hl:lk S.box b=some ds)(hw:∀us e,w.heap[b]? =some (.cells us e (0,0))→aj g ds us.toList→aj g ds' us.toList):Rel w0 g ⟨up S.box b ds',S.acc⟩ w:=by
 refine⟨h.below,h.bS,by rw[oA];exact h.nb,h.na,h.gB,h.fresh,h.top,?_⟩
 obtain⟨ow,o1,o2⟩:=h.own
 refine⟨ow,fun b' e hm=>?_,o2⟩
 rcases iR h.nb hm with he|⟨hm,_⟩
 ·cases he
  obtain⟨q1,q2,q3,us,e,q4,q5,q6⟩:=o1 _ _ (cz hl)
  exact⟨q1,q2,q3,us,e,q4,hw _ _ q4 q5,q6⟩
 ·exact o1 _ _ hm
theorem eg(b j s:Nat)(hs:0<s){c:Code}{fr:List DV}{S:St}{Q:Exit→List DV→St→Prop}{ds:List DV}{s0:Nat}(hb:lk S.box b=some ds)(hi:ds[j]? =some (.sl s0 true []))
 (h:∀l:FN S.acc,fW P w0 c fr ⟨up S.box b (ds.set j (.acc l.n 0)),(l.n,.arr s [])::S.acc⟩ Q):fW P w0 c fr S Q:=by
 intro g a w h1 h2 h3
 obtain⟨ow,o1,o2⟩:=h1.own
 obtain⟨q1,q2,q3,us,e,q4,q5,q6⟩:=o1 _ _ (cz hb)
 have hlt:j<us.toList.length:=by rw[←q5.len];exact(List.getElem?_eq_some_iff.1 hi).1
 have hr:=q5.at_ j _ _ hi (List.getElem?_eq_getElem hlt)
 have hr':aM g (.sl s true []) us.toList[j]:=by obtain⟨o',ho'⟩:=eI hr;rw[ho'];exact .nil _ _ _ _ fun _=>rfl
 obtain⟨l,g',hle,hne,hR,hA⟩:=h1.qJ hs hr' (.arr s []) (.inr ⟨rfl,rfl⟩)
 have hR':=hR.KD (ds':=ds.set j (.acc l 0)) (b:=b) hb ?_
 ·exact eM (h ⟨l,di hne⟩ g' a w hR' (h2.mono hle) (hle.dk h3)) fun _ _ _ k=>k.of_le hle
 ·intro us' e' hh hr2
  rw[hh]at q4
  cases q4
  exact fp hr2 (List.getElem?_eq_getElem hlt) hA
theorem Lx(i:Nat){s:Nat}{xs:List DV}{c:Code}{fr:List DV}{S:St}{Q:Exit→List DV→St→Prop}(hi:fr[i]? =some (.sl s true xs))(hs:0<s)
 (h:∀l:FN S.acc,fW P w0 c (fr.set i (.acc l.n xs.length)) ⟨S.box,(l.n,.tl s xs)::S.acc⟩ Q):fW P w0 c fr S Q:=Aa i hs hi fun l hl=>h ⟨l,hl⟩
theorem j3(i s:Nat){c:Code}{fr:List DV}{S:St}{Q:Exit→List DV→St→Prop}{s0:Nat}(hi:fr[i]? =some (.sl s0 true []))(hs:0<s)
 (h:∀l:FN S.acc,fW P w0 c (fr.set i (.acc l.n 0)) ⟨S.box,(l.n,.arr s [])::S.acc⟩ Q):fW P w0 c fr S Q:=J4 i s hs hi fun l hl=>h ⟨l,hl⟩
theorem fQ(ss:List Nat:=[])(is:List Nat){c:Code}{fr:List DV}{S:St}{Q:Exit→List DV→St→Prop}(hm:P.follows .mixedOrders=true)(hc:ux ss c=true)(h:pN is fr S fun fr S=>vw P w0 ss c fr S Q):fW P w0 c fr S Q:=by
 intro g a w h1 h2 h3
 obtain⟨g',f',S',k1,k2,k3,k4⟩:=pA is h1 h2 h
 exact eM (da hm c hc k4 g' a w k2 k3 (k1.dk h3)) fun _ _ _ k=>k.of_le k1
theorem ia{f:FuncId}{args:List DV}{S:St}{K K':DV→St→Prop}(h:aa P w0 f args S K')(s:Nat)(hs:0<s)
 (hk:∀d S',K' d S'→K d S'∨((∃s0,d= .sl s0 true [])∧∀l,iX S'.acc l→K (.acc l 0) ⟨S'.box,(l,.arr s [])::S'.acc⟩)):aa P w0 f args S K:=by
 intro g vs w h1 h2
 refine(h g vs w h1 h2).mono ?_
 rintro e w' ⟨r,g',d,S',q1,q2,q3,q4,q5⟩
 rcases hk d S' q5 with h|⟨⟨s0,rfl⟩,h⟩
 ·exact⟨r,g',d,S',q1,q2,q3,q4,h⟩
 ·have hr':aM g' (.sl s true []) r:=by obtain⟨o',ho'⟩:=eI q4;rw[ho'];exact .nil _ _ _ _ fun _=>rfl
  obtain⟨l,g2,hle,hne,hR,hA⟩:=q3.qJ hs hr' (.arr s []) (.inr ⟨rfl,rfl⟩)
  exact⟨r,g2,_,_,q1,q2.trans hle,hR,hA,h l (di hne)⟩
theorem KO{f:FuncId}{args:List DV}{S:St}{xs:List DV}(s:Nat)(hs:0<s)(h:aa P w0 f args S fun d S'=>(xs=[]∧(∃s0,d= .sl s0 true [])∧S'=S)∨∃l:FN S.acc,d= .acc l.n xs.length∧S'=⟨S.box,(l.n,.arr s xs)::S.acc⟩):
 aa P w0 f args S fun d S'=>∃l:FN S.acc,d= .acc l.n xs.length∧S'=⟨S.box,(l.n,.arr s xs)::S.acc⟩:=by
 refine ia h s hs ?_
 rintro d S' (⟨rfl,⟨s0,rfl⟩,rfl⟩|h)
 ·exact .inr ⟨⟨s0,rfl⟩,fun l hl=>⟨⟨l,hl⟩,rfl,rfl⟩⟩
 ·exact .inl h
end
attribute [go_sem high] sX Tj S6
attribute [go_sem low] US S7
attribute [go_sem] U5 S4 SA Jk Q3 sC Tm OZ Tb O4 T9
attribute [go_sem ↓] F5 CC
structure Wr(P:Prop):Prop where
 h:P
theorem ab(P:Prop)(w:Wr P):P:=w.h
theorem au{P Q:Prop}(q:Q)(e:(P↔Q):=by simp(maxDischargeDepth:=12) (maxSteps:=1000000) -implicitDefEqProofs only[go_sem,Nat.reduceAdd,Nat.reduceSub,Nat.reduceMul,Nat.reduceLeDiff,Nat.reduceEqDiff,Nat.reduceGT,Nat.reduceBEq,reduceCtorEq,↓reduceIte,Int.reduceToNat,Int.reduceLE,Int.reduceLT,Int.reduceNe,Int.reduceEq] <;>exact Iff.rfl):Wr P:=⟨Iff.mpr e q⟩
theorem aK{P:Prop}(e:(P↔True):=by simp(maxDischargeDepth:=12) (maxSteps:=1000000) -implicitDefEqProofs only[go_sem,Nat.reduceAdd,Nat.reduceSub,Nat.reduceMul,Nat.reduceLeDiff,Nat.reduceEqDiff,Nat.reduceGT,Nat.reduceBEq,reduceCtorEq,↓reduceIte,Int.reduceToNat,Int.reduceLE,Int.reduceLT,Int.reduceNe,Int.reduceEq]):Wr P:=⟨of_iff_true e⟩
theorem ao{X1 P Q:Prop}(x1:X1)(q:Q)(e:X1→(P↔Q):=by intro z1;simp(maxDischargeDepth:=12) (maxSteps:=1000000) -implicitDefEqProofs only[go_sem,Nat.reduceAdd,Nat.reduceSub,Nat.reduceMul,Nat.reduceLeDiff,Nat.reduceEqDiff,Nat.reduceGT,Nat.reduceBEq,reduceCtorEq,↓reduceIte,Int.reduceToNat,Int.reduceLE,Int.reduceLT,Int.reduceNe,Int.reduceEq,z1] <;>exact Iff.rfl):Wr P:=⟨Iff.mpr (e x1) q⟩
theorem mf{X1 P:Prop}(x1:X1)(e:X1→(P↔True):=by intro z1;simp(maxDischargeDepth:=12) (maxSteps:=1000000) -implicitDefEqProofs only[go_sem,Nat.reduceAdd,Nat.reduceSub,Nat.reduceMul,Nat.reduceLeDiff,Nat.reduceEqDiff,Nat.reduceGT,Nat.reduceBEq,reduceCtorEq,↓reduceIte,Int.reduceToNat,Int.reduceLE,Int.reduceLT,Int.reduceNe,Int.reduceEq,z1]):Wr P:=⟨of_iff_true (e x1)⟩
theorem aO{X1 X2 P Q:Prop}(x1:X1)(x2:X2)(q:Q)(e:X1→X2→(P↔Q):=by intro z1 z2;simp(maxDischargeDepth:=12) (maxSteps:=1000000) -implicitDefEqProofs only[go_sem,Nat.reduceAdd,Nat.reduceSub,Nat.reduceMul,Nat.reduceLeDiff,Nat.reduceEqDiff,Nat.reduceGT,Nat.reduceBEq,reduceCtorEq,↓reduceIte,Int.reduceToNat,Int.reduceLE,Int.reduceLT,Int.reduceNe,Int.reduceEq,z1,z2] <;>exact Iff.rfl):Wr P:=⟨Iff.mpr (e x1 x2) q⟩
theorem re{X1 X2 P:Prop}(x1:X1)(x2:X2)(e:X1→X2→(P↔True):=by intro z1 z2;simp(maxDischargeDepth:=12) (maxSteps:=1000000) -implicitDefEqProofs only[go_sem,Nat.reduceAdd,Nat.reduceSub,Nat.reduceMul,Nat.reduceLeDiff,Nat.reduceEqDiff,Nat.reduceGT,Nat.reduceBEq,reduceCtorEq,↓reduceIte,Int.reduceToNat,Int.reduceLE,Int.reduceLT,Int.reduceNe,Int.reduceEq,z1,z2]):Wr P:=⟨of_iff_true (e x1 x2)⟩
theorem fa{X1 X2 X3 P Q:Prop}(x1:X1)(x2:X2)(x3:X3)(q:Q)(e:X1→X2→X3→(P↔Q):=by intro z1 z2 z3;simp(maxDischargeDepth:=12) (maxSteps:=1000000) -implicitDefEqProofs only[go_sem,Nat.reduceAdd,Nat.reduceSub,Nat.reduceMul,Nat.reduceLeDiff,Nat.reduceEqDiff,Nat.reduceGT,Nat.reduceBEq,reduceCtorEq,↓reduceIte,Int.reduceToNat,Int.reduceLE,Int.reduceLT,Int.reduceNe,Int.reduceEq,z1,z2,z3] <;>exact Iff.rfl):Wr P:=⟨Iff.mpr (e x1 x2 x3) q⟩
theorem XA{X1 X2 X3 P:Prop}(x1:X1)(x2:X2)(x3:X3)(e:X1→X2→X3→(P↔True):=by intro z1 z2 z3;simp(maxDischargeDepth:=12) (maxSteps:=1000000) -implicitDefEqProofs only[go_sem,Nat.reduceAdd,Nat.reduceSub,Nat.reduceMul,Nat.reduceLeDiff,Nat.reduceEqDiff,Nat.reduceGT,Nat.reduceBEq,reduceCtorEq,↓reduceIte,Int.reduceToNat,Int.reduceLE,Int.reduceLT,Int.reduceNe,Int.reduceEq,z1,z2,z3]):Wr P:=⟨of_iff_true (e x1 x2 x3)⟩
theorem AW{X1 X2 X3 X4 P Q:Prop}(x1:X1)(x2:X2)(x3:X3)(x4:X4)(q:Q)(e:X1→X2→X3→X4→(P↔Q):=by intro z1 z2 z3 z4;simp(maxDischargeDepth:=12) (maxSteps:=1000000) -implicitDefEqProofs only[go_sem,Nat.reduceAdd,Nat.reduceSub,Nat.reduceMul,Nat.reduceLeDiff,Nat.reduceEqDiff,Nat.reduceGT,Nat.reduceBEq,reduceCtorEq,↓reduceIte,Int.reduceToNat,Int.reduceLE,Int.reduceLT,Int.reduceNe,Int.reduceEq,z1,z2,z3,z4] <;>exact Iff.rfl):Wr P:=⟨Iff.mpr (e x1 x2 x3 x4) q⟩
theorem Bg{X1 X2 X3 X4 X5 P Q:Prop}(x1:X1)(x2:X2)(x3:X3)(x4:X4)(x5:X5)(q:Q)(e:X1→X2→X3→X4→X5→(P↔Q):=by intro z1 z2 z3 z4 z5;simp(maxDischargeDepth:=12) (maxSteps:=1000000) -implicitDefEqProofs only[go_sem,Nat.reduceAdd,Nat.reduceSub,Nat.reduceMul,Nat.reduceLeDiff,Nat.reduceEqDiff,Nat.reduceGT,Nat.reduceBEq,reduceCtorEq,↓reduceIte,Int.reduceToNat,Int.reduceLE,Int.reduceLT,Int.reduceNe,Int.reduceEq,z1,z2,z3,z4,z5] <;>exact Iff.rfl):Wr P:=⟨Iff.mpr (e x1 x2 x3 x4 x5) q⟩
theorem Co{X1 X2 X3 X4 X5 X6 P Q:Prop}(x1:X1)(x2:X2)(x3:X3)(x4:X4)(x5:X5)(x6:X6)(q:Q)(e:X1→X2→X3→X4→X5→X6→(P↔Q):=by intro z1 z2 z3 z4 z5 z6;simp(maxDischargeDepth:=12) (maxSteps:=1000000) -implicitDefEqProofs only[go_sem,Nat.reduceAdd,Nat.reduceSub,Nat.reduceMul,Nat.reduceLeDiff,Nat.reduceEqDiff,Nat.reduceGT,Nat.reduceBEq,reduceCtorEq,↓reduceIte,Int.reduceToNat,Int.reduceLE,Int.reduceLT,Int.reduceNe,Int.reduceEq,z1,z2,z3,z4,z5,z6] <;>exact Iff.rfl):Wr P:=⟨Iff.mpr (e x1 x2 x3 x4 x5 x6) q⟩
theorem Zx{X1 X2 X3 X4 X5 X6 X7 P Q:Prop}(x1:X1)(x2:X2)(x3:X3)(x4:X4)(x5:X5)(x6:X6)(x7:X7)(q:Q)(e:X1→X2→X3→X4→X5→X6→X7→(P↔Q):=by intro z1 z2 z3 z4 z5 z6 z7;simp(maxDischargeDepth:=12) (maxSteps:=1000000) -implicitDefEqProofs only[go_sem,Nat.reduceAdd,Nat.reduceSub,Nat.reduceMul,Nat.reduceLeDiff,Nat.reduceEqDiff,Nat.reduceGT,Nat.reduceBEq,reduceCtorEq,↓reduceIte,Int.reduceToNat,Int.reduceLE,Int.reduceLT,Int.reduceNe,Int.reduceEq,z1,z2,z3,z4,z5,z6,z7] <;>exact Iff.rfl):Wr P:=⟨Iff.mpr (e x1 x2 x3 x4 x5 x6 x7) q⟩
theorem Q0{X1 X2 X3 X4 X5 X6 X7 X8 P Q:Prop}(x1:X1)(x2:X2)(x3:X3)(x4:X4)(x5:X5)(x6:X6)(x7:X7)(x8:X8)(q:Q)(e:X1→X2→X3→X4→X5→X6→X7→X8→(P↔Q):=by intro z1 z2 z3 z4 z5 z6 z7 z8;simp(maxDischargeDepth:=12) (maxSteps:=1000000) -implicitDefEqProofs only[go_sem,Nat.reduceAdd,Nat.reduceSub,Nat.reduceMul,Nat.reduceLeDiff,Nat.reduceEqDiff,Nat.reduceGT,Nat.reduceBEq,reduceCtorEq,↓reduceIte,Int.reduceToNat,Int.reduceLE,Int.reduceLT,Int.reduceNe,Int.reduceEq,z1,z2,z3,z4,z5,z6,z7,z8] <;>exact Iff.rfl):Wr P:=⟨Iff.mpr (e x1 x2 x3 x4 x5 x6 x7 x8) q⟩
end Aml
namespace Aml
open Go Go.RowKit
section
variable {P:Program} {w0:W0}
theorem vp(ss:List Nat:=[]){f:FuncId}{fn:Func}{c:Code}{rs:List ResultVar}{args:List DV}{S:St}{K:DV→St→Prop}(hm:P.follows .mixedOrders=true)(hf:P.funcs[f]? =some fn)(hb:fn.body=some c)(hrs:fn.results=rs.toArray)(hc:ux ss c=true)
 (h:vw P w0 ss c (fu (args++List.replicate (fn.ntmps-args.length) ud)) S fun e fr S'=>(e= .normal∨e= .ret)∧u9 P fr S' rs fun d=>∃d' S'',Wk d d'∧Sub S'' S'∧K d' S''):aa P w0 f args S K:=by
 have h1:aa P w0 f args S (fun d S'=>∃d' S'',Wk d d'∧Sub S'' S'∧K d' S''):=uf hf hb hrs (da hm c hc h)
 intro g vs w k1 k2
 refine(h1 g vs w k1 k2).mono ?_
 rintro e w' ⟨v,g',d,S',q1,q2,q3,q4,d',S'',p1,p2,p3⟩
 exact⟨v,g',d',S'',q1,q2,q3.forget p2.box p2.acc,p1 _ _ q4,p3⟩
theorem KF(b:Nat)(ds':List DV){ds:List DV}{c:Code}{fr:List DV}{S:St}{Q:Exit→List DV→St→Prop}(hb:lk S.box b=some ds)(hw:gk ds ds')(h:fW P w0 c fr ⟨up S.box b ds',S.acc⟩ Q):fW P w0 c fr S Q:=
 fun g a w h1 h2 h3=>h g a w (h1.KD hb fun _ _ _ r=>hw.spec r) h2 h3
end
end Aml
namespace Aml
open Go Go.RowKit
def kX:Op→Nat
 | .load ..=>1
 | .alloc _=>2
 | .call c=>match c.callee with
  | .value _=>1
  | .builtin .len=>0
  | .builtin .cap=>0
  | .builtin .min=>0
  | .builtin .max=>0
  |_=>3
 | .move _=>0
 | .assign _=>0
 | .pick ..=>0
 | .fieldAddr ..=>0
 | .indexAddr ..=>0
 | .index ..=>0
 | .field ..=>0
 | .extract ..=>0
 | .nilCheck _=>0
 | .binOp ..=>0
 | .unOp ..=>0
 | .convert ..=>0
 | .makeInterface ..=>0
 | .makeFunc ..=>0
 | .slice ..=>0
 | .build ..=>0
 | .buildSlice ..=>0
 |_=>3
def Fr(S:St)(B:List (Nat×List DV)):Prop:=∀x,x∈B→iX S.box x.1
def fi(P:Program)(w0:W0)(o:Oper)(fr:List DV)(S:St)(K:List DV→St→Prop):Prop:=
 (kX o.op=0∧∃d,(∀S',QY P w0 S' o fr d)∧K (pt fr o.dst d) S)∨
 (kX o.op=1∧∃d,(∀B,Fr S B→QY P w0 ⟨B++S.box,S.acc⟩ o fr d)∧K (pt fr o.dst d) S)∨
 (kX o.op=2∧∃t,o.op= .alloc t∧eK (zD P t)=true∧∀b,iX S.box b→K (pt fr o.dst (.v (.pointer (some ⟨b,0,none⟩)))) ⟨(b,cd (zD P t))::S.box,S.acc⟩)∨
 (kX o.op=3∧an P w0 o (ev fr) S fun d S'=>K (pt fr o.dst d) S')
def fA(P:Program)(w0:W0)(ops:Array Oper)(o:Oper)(fr:List DV)(S:St)(K:List DV→St→Prop):Prop:=
 (dz ops fr o.guard=some true∧fi P w0 o fr S K)∨(dz ops fr o.guard=some false∧K (pt fr o.dst ud) S)
def mZ(a b:Nat):Bool:=a==0||(a==1&&decide (b<3))
section
variable {P:Program} {w0:W0} {ops:Array Oper} {md:Region.Mode}
theorem jN{o:Oper}{fr:List DV}{S:St}{K K':List DV→St→Prop}(h:∀fr S,K fr S→K' fr S)(b:fi P w0 o fr S K):fi P w0 o fr S K':=by
 rcases b with⟨c,d,q,k⟩|⟨c,d,q,k⟩|⟨c,t,ht,hz,k⟩|⟨c,q⟩
 ·exact .inl ⟨c,d,q,h _ _ k⟩
 ·exact .inr (.inl ⟨c,d,q,h _ _ k⟩)
 ·exact .inr (.inr (.inl ⟨c,t,ht,hz,fun b hb=>h _ _ (k b hb)⟩))
 ·exact .inr (.inr (.inr ⟨c,aS (fun d S hk=>h _ _ hk) q⟩))
theorem gZ{o:Oper}{fr:List DV}{S:St}{K K':List DV→St→Prop}(h:∀fr S,K fr S→K' fr S)(b:fA P w0 ops o fr S K):fA P w0 ops o fr S K':=
 b.imp (fun⟨a,b⟩=>⟨a,jN h b⟩) fun⟨a,b⟩=>⟨a,h _ _ b⟩
theorem rh{o:Oper}{fr:List DV}{S:St}{K:List DV→St→Prop}{dst:Option Tmp}{e:DV}(h1:∀t,dst=some t→t∉o.looksAt ops)(h2:∀t,dst=some t→o.dst≠some t):
 fi P w0 o (pt fr dst e) S K↔fi P w0 o fr S fun fr' S'=>K (pt fr' dst e) S':=by
 have hq:∀S d,QY P w0 S o (pt fr dst e) d↔QY P w0 S o fr d:=fun S d=>
  ⟨aQ (fun x hx=>fb (ops:=ops) h1 x hx),aQ (fun x hx=>(fb (ops:=ops) h1 x hx).symm)⟩
 have hc:∀d,pt (pt fr dst e) o.dst d=pt (pt fr o.dst d) dst e:=fun d=>jV fr e d h2
 have hy:∀K,an P w0 o (ev (pt fr dst e)) S K↔an P w0 o (ev fr) S K:=fun K=>
  ⟨aQ (fun x hx=>fb (ops:=ops) h1 x hx),aQ (fun x hx=>(fb (ops:=ops) h1 x hx).symm)⟩
 unfold fi
 simp only[hq,hc,hy]
theorem jG{o:Oper}{fr:List DV}{S:St}{K:List DV→St→Prop}{dst:Option Tmp}{e:DV}(h1:∀t,dst=some t→t∉o.looksAt ops)(h2:∀t,dst=some t→o.dst≠some t):
 fA P w0 ops o (pt fr dst e) S K↔fA P w0 ops o fr S fun fr' S'=>K (pt fr' dst e) S':=by
 unfold fA
 rw[ix h1,rh h1 h2,jV fr e ud h2]
theorem mS{o:Oper}{fr:List DV}{S:St}{K K':List DV→St→Prop}(h:∀e S,K (pt fr o.dst e) S→K' (pt fr o.dst e) S)(b:fi P w0 o fr S K):fi P w0 o fr S K':=by
 rcases b with⟨c,d,q,k⟩|⟨c,d,q,k⟩|⟨c,t,ht,hz,k⟩|⟨c,q⟩
 ·exact .inl ⟨c,d,q,h _ _ k⟩
 ·exact .inr (.inl ⟨c,d,q,h _ _ k⟩)
 ·exact .inr (.inr (.inl ⟨c,t,ht,hz,fun b hb=>h _ _ (k b hb)⟩))
 ·exact .inr (.inr (.inr ⟨c,aS (fun d S hk=>h _ _ hk) q⟩))
theorem jA{o:Oper}{fr:List DV}{S:St}{K K':List DV→St→Prop}(h:∀e S,K (pt fr o.dst e) S→K' (pt fr o.dst e) S)(b:fA P w0 ops o fr S K):fA P w0 ops o fr S K':=
 b.imp (fun⟨a,b⟩=>⟨a,mS h b⟩) fun⟨a,b⟩=>⟨a,h _ _ b⟩
theorem qP{x y:Oper}(hap:x.apart ops y=true)(hk:mZ (kX x.op) (kX y.op)=true){fr:List DV}{S:St}{K:List DV→St→Prop}(h:fA P w0 ops x fr S fun fr S=>fA P w0 ops y fr S K):
 fA P w0 ops y fr S fun fr S=>fA P w0 ops x fr S K:=by
 obtain⟨b1,b2,b3⟩:=Oper.apart_spec hap
 have hw:∀e,dz ops (pt fr y.dst e) x.guard=dz ops fr x.guard:=fun e=>ix b3
 have hq:∀{S d e},QY P w0 S x fr d→QY P w0 S x (pt fr y.dst e) d:=fun{S d e} q=>aQ (fun z hz=>(fb (ops:=ops) b3 z hz).symm) q
 rcases h with⟨hg,hb⟩|⟨hg,hb⟩
 ·rcases hb with⟨c,d,q,k⟩|⟨c,d,q,k⟩|⟨c, -⟩|⟨c, -⟩
  ·rw[jG b1 b2]at k
   exact jA (fun e S' hk=> .inl ⟨by rw[hw];exact hg,.inl ⟨c,d,fun S''=>hq (q S''),hk⟩⟩) k
  ·rw[jG b1 b2]at k
   rcases k with⟨g2,k⟩|⟨g2,k⟩
   ·rcases k with⟨c2,d2,q2,k⟩|⟨c2,d2,q2,k⟩|⟨c2,t,ht,hz,k⟩|⟨c2, -⟩
    ·exact .inl ⟨g2,.inl ⟨c2,d2,q2,.inl ⟨by rw[hw];exact hg,.inr (.inl ⟨c,d,fun B hB=>hq (q B hB),k⟩)⟩⟩⟩
    ·exact .inl ⟨g2,.inr (.inl ⟨c2,d2,q2,.inl ⟨by rw[hw];exact hg,.inr (.inl ⟨c,d,fun B hB=>hq (q B hB),k⟩)⟩⟩)⟩
    ·refine .inl ⟨g2,.inr (.inr (.inl ⟨c2,t,ht,hz,fun b hb=> .inl ⟨by rw[hw];exact hg,.inr (.inl ⟨c,d,fun B hB=>hq ?_,k b hb⟩)⟩⟩))⟩
     have:=q (B++[(b,cd (zD P t))]) fun z hz'=>by
      rcases List.mem_append.1 hz' with h|h
      ·exact(hB z h).2.2
      ·simp only[List.mem_singleton]at h;subst h;exact hb
     rw[List.append_assoc]at this
     exact this
    ·rw[c,c2]at hk;exact absurd hk (by decide)
   ·exact .inr ⟨g2,.inl ⟨by rw[hw];exact hg,.inr (.inl ⟨c,d,fun B hB=>hq (q B hB),k⟩)⟩⟩
  ·rw[c]at hk;simp[mZ]at hk
  ·rw[c]at hk;simp[mZ]at hk
 ·rw[jG b1 b2]at hb
  exact jA (fun e S' hk=> .inr ⟨by rw[hw];exact hg,hk⟩) hb
def lh(P:Program)(w0:W0)(ops:Array Oper)(i:Nat)(fr:List DV)(S:St)(K:List DV→St→Prop):Prop:=match ops[i]? with
 |none=>K fr S
 |some o=>fA P w0 ops o fr S K
def IC(P:Program)(w0:W0)(md:Region.Mode)(ops:Array Oper)(K:List DV→St→Prop):Nat→Array Bool→List DV→St→Prop
 |0,listed,fr,S=>Region.ready md ops listed=[]∧K fr S
 |fuel+1,listed,fr,S=>(Region.ready md ops listed=[]→K fr S)∧∀i∈Region.ready md ops listed,lh P w0 ops i fr S (IC P w0 md ops K fuel (listed.setIfInBounds i true))
theorem qL{K:List DV→St→Prop}{i:Nat}{oi:Oper}(hi:ops[i]? =some oi):
 ∀(fuel:Nat) (listed:Array Bool) (fr:List DV) (S:St),
  (∀j oj,ops[j]? =some oj→j≠i→listed.getD j true=false→(∀e∈oj.after,Region.binds md e=true→e.on≠i)→oi.apart ops oj=true∧mZ (kX oi.op) (kX oj.op)=true)→
  (∀l:List Nat,l.Nodup→(∀k,k∈l→listed.getD k true=false)→l.length≤fuel+1)→
  i∈Region.ready md ops listed→fA P w0 ops oi fr S (IC P w0 md ops K fuel (listed.setIfInBounds i true))→IC P w0 md ops K (fuel+1) listed fr S:=by
 intro fuel
 induction fuel with
 |zero=>
  intro listed fr S _ hcnt hr H
  refine⟨fun h=>(by rw[h]at hr;cases hr),fun j hj=>?_⟩
  by_cases hji:j=i
  ·subst hji;unfold lh;simp only[hi];exact H
  ·exfalso
   have:=hcnt [i,j] (by simp[Ne.symm hji]) fun k hk=>by
    simp only[List.mem_cons,List.not_mem_nil,or_false]at hk
    rcases hk with rfl|rfl
    ·exact(mem_ready.1 hr).1
    ·exact(mem_ready.1 hj).1
   simp at this
 |succ fuel ih=>
  intro listed fr S hfree hcnt hr H
  refine⟨fun h=>(by rw[h]at hr;cases hr),fun j hj=>?_⟩
  by_cases hji:j=i
  ·subst hji;unfold lh;simp only[hi];exact H
  ·obtain⟨hjun,oj,hoj,hall⟩:=mem_ready.1 hj
   have hnot:∀e∈oj.after,Region.binds md e=true→e.on≠i:=fun e he hb heq=>by
    have h1:=hall e he hb
    have h0:=(mem_ready.1 hr).1
    rw[heq]at h1
    rcases Nat.lt_or_ge i listed.size with h'|h'
    ·simp[h']at h0 h1;rw[h0]at h1;cases h1
    ·simp[Array.getElem?_eq_none h']at h1
   have h1:fA P w0 ops oi fr S fun fr S=>fA P w0 ops oj fr S (IC P w0 md ops K fuel ((listed.setIfInBounds i true).setIfInBounds j true)):=
    gZ (fun fr S h=>by
     have:=h.2 j (ready_mono hj hji)
     unfold lh at this;simp only[hoj]at this;exact this) H
   have hc:=hfree j oj hoj hji hjun hnot
   have h2:=qP hc.1 hc.2 h1
   have hfree':∀k ok,ops[k]? =some ok→k≠i→(listed.setIfInBounds j true).getD k true=false→
    (∀e∈ok.after,Region.binds md e=true→e.on≠i)→oi.apart ops ok=true∧mZ (kX oi.op) (kX ok.op)=true:=fun k ok hk hki hun hno=>by
    refine hfree k ok hk hki ?_ hno
    by_cases hjk:j=k
    ·subst hjk;exact hjun
    ·rw[getD_set_ne true hjk]at hun;exact hun
   unfold lh
   simp only[hoj]
   have hcnt':∀l:List Nat,l.Nodup→(∀k,k∈l→(listed.setIfInBounds j true).getD k true=false)→l.length≤fuel+1:=by
    intro l hn hl
    have hjs:j<listed.size:=by
     rcases Nat.lt_or_ge j listed.size with h|h
     ·exact h
     ·rw[Array.getD_eq_getD_getElem?,Array.getElem?_eq_none h]at hjun;cases hjun
    have hjl:j∉l:=fun hj=>by
     have:=hl j hj
     rw[Array.getD_eq_getD_getElem?,Array.getElem?_setIfInBounds]at this
     simp[hjs]at this
    have:=hcnt (j::l) (List.nodup_cons.2 ⟨hjl,hn⟩) fun k hk=>by
     rcases List.mem_cons.1 hk with rfl|hk
     ·exact hjun
     ·have:=hl k hk
      rw[getD_set_ne true (show j≠k from fun e=>hjl (e▸hk))]at this
      exact this
    simp at this;omega
   refine gZ (fun fr S h=>ih (listed.setIfInBounds j true) fr S hfree' hcnt' (ready_mono hr (Ne.symm hji)) ?_) h2
   rw[Array.setIfInBounds_comm _ _ hji]
   exact h
def Bz(md:Region.Mode)(ops:Array Oper)(listed:Array Bool)(i:Nat):Bool:=(List.range ops.size).all fun j=>match ops[i]?,ops[j]? with
 |some oi,some oj=>j==i||listed.getD j true||oj.after.any (fun e=>Region.binds md e&&e.on==i)||(oi.apart ops oj&&mZ (kX oi.op) (kX oj.op))
 |_,_=>false
def qK(md:Region.Mode)(ops:Array Oper):Nat→Nat→Array Bool→Bool
 |0,_,listed=>(Region.ready md ops listed).isEmpty
 |n+1,k,listed=>(Region.ready md ops listed).contains k&&Bz md ops listed k&&qK md ops n (k+1) (listed.setIfInBounds k true)
theorem oB{listed:Array Bool}{i:Nat}{oi:Oper}(hi:ops[i]? =some oi)(h:Bz md ops listed i=true):∀j oj,ops[j]? =some oj→j≠i→listed.getD j true=false→(∀e∈oj.after,Region.binds md e=true→e.on≠i)→oi.apart ops oj=true∧mZ (kX oi.op) (kX oj.op)=true:=by
 intro j oj hj hji hun hno
 have hlt:j<ops.size:=(Array.getElem?_eq_some_iff.1 hj).1
 have:=List.all_eq_true.1 h j (List.mem_range.2 hlt)
 simp only[hi,hj,hun,Bool.or_false,Bool.or_eq_true,beq_iff_eq,Bool.and_eq_true]at this
 rcases this with(h|h)|h
 ·exact absurd h hji
 ·exfalso
  obtain⟨e,he,h⟩:=Array.any_eq_true'.1 h
  simp only[Bool.and_eq_true,beq_iff_eq]at h
  exact hno e he h.1 h.2
 ·exact h
def LX(P:Program)(w0:W0)(ops:Array Oper)(K:List DV→St→Prop):List Oper→List DV→St→Prop
 |[],fr,S=>K fr S
 |o::rest,fr,S=>fA P w0 ops o fr S (LX P w0 ops K rest)
theorem oZ{K:List DV→St→Prop}:∀(l:List Oper) (k:Nat) (listed:Array Bool) (fr:List DV) (S:St),(∀j,l[j]? =ops[k+j]?)→
 (∀l':List Nat,l'.Nodup→(∀k,k∈l'→listed.getD k true=false)→l'.length≤l.length)→
 qK md ops l.length k listed=true→LX P w0 ops K l fr S→IC P w0 md ops K l.length listed fr S
 |[],_,_,_,_,_,_,hB,h=>⟨by simpa[qK]using hB,h⟩
 |o::l,k,listed,fr,S,hl,hcnt,hB,h=>by
  have h0:ops[k]? =some o:=by simpa using(hl 0).symm
  simp only[List.length_cons,qK,Bool.and_eq_true]at hB
  obtain⟨⟨hr,hf⟩,hB'⟩:=hB
  have hr':k∈Region.ready md ops listed:=by simpa using hr
  have hun:=(mem_ready.1 hr').1
  refine qL h0 l.length listed fr S (oB h0 hf) (by simpa using hcnt) hr' ?_
  refine gZ (fun fr S h=>oZ l (k+1) _ fr S (fun j=>by have:=hl (j+1);simpa[Nat.add_assoc,Nat.add_comm 1 j]using this) ?_ hB' h) h
  intro l' hn hl'
  have hks:k<listed.size:=by
   rcases Nat.lt_or_ge k listed.size with h|h
   ·exact h
   ·rw[Array.getD_eq_getD_getElem?,Array.getElem?_eq_none h]at hun;cases hun
  have hkl:k∉l':=fun hk=>by
   have:=hl' k hk
   rw[Array.getD_eq_getD_getElem?,Array.getElem?_setIfInBounds]at this
   simp[hks]at this
  have:=hcnt (k::l') (List.nodup_cons.2 ⟨hkl,hn⟩) fun m hm=>by
   rcases List.mem_cons.1 hm with rfl|hm
   ·exact hun
   ·have:=hl' m hm
    rw[getD_set_ne true (show k≠m from fun e=>hkl (e▸hm))]at this
    exact this
  simp at this;omega
theorem l6{o:Oper}{fr:List DV}{S:St}{K:List DV→St→Prop}(h:fi P w0 o fr S K):an P w0 o (ev fr) S fun d S'=>K (pt fr o.dst d) S':=by
 rcases h with⟨c,d,q,k⟩|⟨c,d,q,k⟩|⟨c,t,ht,hz,k⟩|⟨c,q⟩
 ·exact aS (fun d' S' h=>by rw[h.1,h.2];exact k) (q S)
 ·have:=q [] (fun x hx=>by cases hx)
  exact aS (fun d' S' h=>by rw[h.1,h.2];exact k) this
 ·exact sn ht ⟨hz,k⟩
 ·exact q
theorem eG{ro:Option Nat}{g0:Gh}{Q:Exit→List DV→St→Prop}:∀(fuel:Nat) (listed:Array Bool) (fr:List DV) (S:St) (g:Gh) (a:Act) (w:World),g0.le g→Rel w0 g S w→aj g fr a.tmps.toList→Dk w0 g.obj a w→
 IC P w0 md ops (fun fr S=>Q .normal fr S) fuel listed fr S→wpAnyIn (fz ro) 0 P md ops (Good w0 g0 Q) fuel listed a w
 |0,listed,fr,S,g,a,w,k,h1,h2,h3,h=>⟨h.1,k.kd h3,g,fr,S,k,h1,h2,h.2⟩
 |fuel+1,listed,fr,S,g,a,w,k,h1,h2,h3,h=>by
  refine⟨fun h0=>⟨k.kd h3,g,fr,S,k,h1,h2,h.1 h0⟩,fun i hi=>?_⟩
  have hq:=h.2 i hi
  unfold lh at hq
  unfold wpOpIn
  split
  ·rename_i ho;simp only[ho]at hq;exact eG fuel _ fr S g a w k h1 h2 h3 hq
  ·rename_i o ho
   simp only[ho]at hq
   rcases hq with⟨hw,hb⟩|⟨hw,hk⟩
   ·have hw':=eE (o:=o) h2 hw
    rw[if_pos hw']
    refine dQ (l6 hb) h1 (fun x _=>nr h2 x) h3 fun g' d' u S' w' k1 k2 k3 k4 k5=>?_
    exact eG fuel _ _ _ g' _ _ (k.trans k1) k2 (dq (h2.mono k1) _ k3) (k1.dk k5) k4
   ·have hw':=eE (o:=o) h2 hw
    rw[if_neg (by simp[hw'])]
    exact⟨fun _ _=>trivial,eG fuel _ _ _ g _ _ k h1 (dq h2 _ (jL g)) (h3.keep (put_defers _ _ _) fun _ _ h _=>h) hk⟩
theorem qS{id:Nat}{l:List Oper}{fr:List DV}{S:St}{Q:Exit→List DV→St→Prop}(hm:P.follows .mixedOrders=true)(hB:qK .any l.toArray l.length 0 (Array.replicate l.length false)=true)(h:LX P w0 l.toArray (fun fr S=>Q .normal fr S) l fr S):fW P w0 (.region id l.toArray true) fr S Q:=by
 intro g a w h1 h2 h3
 refine gx hm fun ro=>?_
 have hR:Rel w0 g S {w with drawn:=w.drawn+1}:=h1.grow (l5 w)
 have hcnt:∀l':List Nat,l'.Nodup→(∀k,k∈l'→(Array.replicate l.length false).getD k true=false)→l'.length≤l.length:=by
  intro l' hn hl
  have hsub:∀k,k∈l'→k∈List.range l.length:=fun k hk=>by
   have:=hl k hk
   rw[List.mem_range]
   rcases Nat.lt_or_ge k l.length with h|h
   ·exact h
   ·rw[Array.getD_eq_getD_getElem?,Array.getElem?_eq_none (by simpa using h)]at this;cases this
  have:=hn.length_le_of_subset (l₂:=List.range l.length) hsub
  simpa using this
 have:=oZ (P:=P) (w0:=w0) (md:= .any) (ops:=l.toArray) l 0 (Array.replicate l.length false) fr S (by simp) hcnt hB h
 have:=eG (ro:=ro) (g0:=g) (Q:=Q) _ _ fr S g a _ (.refl g) hR h2 (h3.keep rfl fun _ _ h _=>h) this
 simpa using this
theorem pL{op:Op}(hk:kX op=0){fr:List DV}{S:St}{K:DV→Prop}(h:aF P w0 op fr S K):∃d,(∀S',aF P w0 op fr S' (·=d))∧K d:=by
 cases op with
 |move x=>exact⟨_,fun _=>rfl,h⟩
 |assign x=>exact⟨_,fun _=>rfl,h⟩
 |pick c a b=>obtain⟨d,q1,q2⟩:=tQ h;exact⟨d,fun _=>q1,q2⟩
 |fieldAddr t x f=>obtain⟨d,q1,q2⟩:=qG h;exact⟨d,fun _=>q1,q2⟩
 |indexAddr t x i=>obtain⟨d,q1,q2⟩:=ES h;exact⟨d,fun _=>q1,q2⟩
 |index t x i=>obtain⟨d,q1,q2⟩:=qI h;exact⟨d,fun _=>q1,q2⟩
 |field t x f=>obtain⟨d,q1,q2⟩:=ou h;exact⟨d,fun _=>q1,q2⟩
 |extract x i=>obtain⟨d,q1,q2⟩:=np h;exact⟨d,fun _=>q1,q2⟩
 |nilCheck x=>exact⟨_,fun _=>⟨h.1,rfl⟩,h.2⟩
 |binOp b t x y t'=>obtain⟨d,q1,q2⟩:=tM h.2;exact⟨d,fun _=>⟨h.1,q1⟩,q2⟩
 |unOp b t x=>obtain⟨d,q1,q2⟩:=B7 h;exact⟨d,fun _=>q1,q2⟩
 |convert s d x=>obtain⟨d,q1,q2⟩:=ui h;exact⟨d,fun _=>q1,q2⟩
 |makeInterface t x=>exact⟨_,fun _=>⟨h.1,h.2.1,rfl⟩,h.2.2⟩
 |makeFunc fn a b=>obtain⟨d,q1,q2⟩:=tT h;exact⟨d,fun _=>q1,q2⟩
 |slice t x lo hi mx=>obtain⟨d,q1,q2⟩:=qV h.2.2;exact⟨d,fun _=>⟨h.1,h.2.1,q1⟩,q2⟩
 |build t parts=>obtain⟨d,q1,q2⟩:=qm h.2;exact⟨d,fun _=>⟨h.1,q1⟩,q2⟩
 |buildSlice t len parts=>obtain⟨d,q1,q2⟩:=jB h.2;exact⟨d,fun _=>⟨h.1,q1⟩,q2⟩
 |call c=>
  obtain⟨callee,args,ts⟩:=c
  simp only[aF]at h ⊢
  split at h
  ·split at h
   ·obtain⟨d,q1,q2⟩:=yu h
    exact⟨d,fun _=>by simpa using q1,q2⟩
   ·exact h.elim
  ·split at h
   ·obtain⟨d,q1,q2⟩:=xZ h
    exact⟨d,fun _=>by simpa using q1,q2⟩
   ·exact h.elim
  ·split at h
   ·obtain⟨d,q1,q2⟩:=yM h
    exact⟨d,fun _=>by simpa using q1,q2⟩
   ·exact h.elim
  ·split at h
   ·obtain⟨d,q1,q2⟩:=yk h
    exact⟨d,fun _=>by simpa using q1,q2⟩
   ·exact h.elim
  ·cases hk
  ·cases hk
  ·exact h.elim
 |_=>first|exact h.elim|cases hk
theorem CI{S:St}{B:List (Nat×List DV)}(hB:Fr S B){b:Nat}{ds:List DV}(h:lk S.box b=some ds):lk (B++S.box) b=some ds:=by
 induction B with
 |nil=>exact h
 |cons x B ih=>
  have h1:=hB x List.mem_cons_self
  have hne:¬x.1=b:=fun e=>by rw[e]at h1;rw[ng h1]at h;cases h
  obtain⟨k,y⟩:=x
  show lk ((k,y)::(B++S.box)) b=_
  rw[pQ hne]
  exact ih fun z hz=>hB z (List.mem_cons_of_mem _ hz)
theorem tO{k:TK}{S:St}{x:DV}{K:DV→Prop}{B:List (Nat×List DV)}(hB:Fr S B)(h:bR k S x K):bR k ⟨B++S.box,S.acc⟩ x K:=by
 unfold bR at*
 split at h
 ·split at h
  ·rename_i ds hb
   simp only[CI hB hb]
   exact h
  ·exact h.elim
 ·exact h
 ·exact h
 ·exact h.elim
end
def QX(P:Program)(w0:W0)(f:FuncId)(ds:List DV)(S:St)[K:Cn (DV→Prop)]:Prop:=∃d,(∀B,Fr S B→aa P w0 f ds ⟨B++S.box,S.acc⟩ fun d' S'=>d'=d∧S'=⟨B++S.box,S.acc⟩)∧K.k d
def ib(P:Program)(w0:W0)(cal:DV)(ds:List DV)(S:St)(K:DV→Prop):Prop:=match cal with
 | .v (.func (.func f) a cap)=>a.size=0∧okF P f=true∧cap.toList.all (fun u=>u.oneCell')=true∧ds.all gu=true∧@QX P w0 f (ds++cap.toList.map .v) S ⟨K⟩
 |_=>False
def nT(P:Program)(w0:W0)(op:Op)(fr:List DV)(S:St)(K:DV→St→Prop):Prop:=match op with
 | .load t x=>bR (tk P t) S (ev fr x) (K · S)
 | .alloc t=>eK (zD P t)=true∧EJ S (zD P t) K
 | .call ⟨.value cal,args,_⟩=>ib P w0 (ev fr cal) (args.toList.map (ev fr)) S (K · S)
 |op=>eO (kX op==0) (aF P w0 op fr S (K · S)) (aJ P w0 op fr S K)
def oO(P:Program)(w0:W0)(ops:Array Oper)(K:List DV→St→Prop):List Oper→List DV→St→Prop
 |[],fr,S=>K fr S
 |o::rest,fr,S=>cj ops fr o.guard (fun fr=>nT P w0 o.op fr S fun d S'=>oO P w0 ops K rest (pt fr o.dst d) S') (fun fr=>oO P w0 ops K rest (pt fr o.dst ud) S)
section
variable {P:Program} {w0:W0} {ops:Array Oper} {md:Region.Mode}
theorem qx{o:Oper}{fr:List DV}{S:St}{K:List DV→St→Prop}(hs:hJ o.op=true)(h:nT P w0 o.op fr S fun d S'=>K (pt fr o.dst d) S'):fi P w0 o fr S K:=by
 have gen:∀(h:eO (kX o.op==0) (aF P w0 o.op fr S fun d=>K (pt fr o.dst d) S) (aJ P w0 o.op fr S fun d S'=>K (pt fr o.dst d) S')),kX o.op=0∨kX o.op=3→fi P w0 o fr S K:=by
  intro h hk
  rcases hk with hk|hk
  ·rw[hk]at h
   obtain⟨d,q1,q2⟩:=pL hk (show aF P w0 o.op fr S fun d=>K (pt fr o.dst d) S from h)
   exact .inl ⟨hk,d,fun S'=>by
    obtain⟨d',k1,k2⟩:=jU hs (q1 S')
    subst k2;exact k1,q2⟩
  ·rw[hk]at h
   exact .inr (.inr (.inr ⟨hk,bH hs h⟩))
 cases hop:o.op with
 |load t x=>
  rw[hop]at h hs
  obtain⟨d,q1,q2⟩:=pa (show bR (tk P t) S (ev fr x) (fun d=>K (pt fr o.dst d) S)from h)
  refine .inr (.inl ⟨by rw[hop];rfl,d,fun B hB=>?_,q2⟩)
  exact bH (by rw[hop];exact hs) (by rw[hop];simpa[aJ]using tO hB q1)
 |alloc t=>
  rw[hop]at h
  exact .inr (.inr (.inl ⟨by rw[hop];rfl,t,hop,h.1,h.2⟩))
 |call c=>
  obtain⟨callee,args,ts⟩:=c
  cases callee with
  |value cal=>
   rw[hop]at h hs
   simp only[nT,ib]at h
   split at h
   ·rename_i f a cap hcal
    obtain⟨h1,h2,h3,h4,d,h5,h6⟩:=h
    refine .inr (.inl ⟨by rw[hop];rfl,d,fun B hB=>?_,h6⟩)
    exact bH (by rw[hop];exact hs) (by rw[hop];simp only[aJ,hcal];exact o8 h1 h3 (by rw[h2,Le];exact mP h4 (h5 B hB)))
   ·exact h.elim
  |builtin b=>
   refine gen (by rw[hop]at h ⊢;exact h) ?_
   rw[hop]
   cases b <;>first|exact .inl rfl|exact .inr rfl
  |invoke r m=>
   refine gen (by rw[hop]at h ⊢;exact h) ?_
   rw[hop];exact .inr rfl
 |_=>refine gen (by rw[hop]at h ⊢;exact h) ?_;rw[hop];first|exact .inl rfl|exact .inr rfl
theorem fR{K:List DV→St→Prop}:∀(l:List Oper) {fr:List DV} {S:St},l.all (fun o=>hJ o.op)=true→oO P w0 ops K l fr S→LX P w0 ops K l fr S
 |[],fr,S,_,h=>h
 |o::rest,fr,S,hs,h=>by
  simp only[List.all_cons,Bool.and_eq_true]at hs
  rcases j8 h with⟨hw,ha⟩|⟨hw,hb⟩
  ·exact .inl ⟨hw,jN (fun fr S h=>fR rest hs.2 h) (qx hs.1 ha)⟩
  ·exact .inr ⟨hw,fR rest hs.2 hb⟩
def XB(l:List Oper):Bool:=l.all (fun o=>hJ o.op)&&qK .any l.toArray l.length 0 (Array.replicate l.length false)
theorem Jp{id:Nat}{l:List Oper}{fr:List DV}{S:St}{Q:Exit→List DV→St→Prop}(hm:P.follows .mixedOrders=true)(hB:XB l=true)(h:oO P w0 l.toArray (fun fr S=>jx fr fun fr=>Q .normal fr S) l fr S):fW P w0 (.region id l.toArray true) fr S Q:=by
 simp only[XB,Bool.and_eq_true]at hB
 exact qS hm hB.2 (fR l hB.1 h)
theorem KE{f:FuncId}{args args':List DV}{S:St}{K:DV→Prop}{r:DV}(h:∀B,Fr S B→aa P w0 f args' ⟨B++S.box,S.acc⟩ (fun d S'=>d=r∧S'=⟨B++S.box,S.acc⟩))(hk:K r)(ha:gk args args':=by exact gk.refl _):@QX P w0 f args S ⟨K⟩:=
 ⟨r,fun B hB=>kR (h B hB) ha ⟨rfl,rfl⟩,hk⟩
end
end Aml
namespace Aml
open Go Go.RowKit
section
variable {P:Program} {w0:W0} {ops:Array Oper} {fr:List DV} {S:St} {rest:List Oper} {dst:Option Tmp} {op:Op} {ty:TypeId} {pos:String} {aft:Array Edge}
section
variable {K:List DV→St→Prop}
theorem L2:oO P w0 ops K [] fr S=K fr S:=rfl
theorem B4:oO P w0 ops K (⟨dst,op,ty,pos,aft,none⟩::rest) fr S=nT P w0 op fr S fun d S'=>oO P w0 ops K rest (pt fr dst d) S':=rfl
end
variable {K:DV→St→Prop}
theorem B1(t:TypeId)(x:Operand):nT P w0 (.load t x) fr S K=bR (tk P t) S (ev fr x) (K · S):=rfl
theorem xr(t:TypeId):nT P w0 (.alloc t) fr S K=(eK (zD P t)=true∧EJ S (zD P t) K):=rfl
theorem DS(cal:Operand)(a:List Operand)(ts:Array TypeId):nT P w0 (.call ⟨.value cal,a.toArray,ts⟩) fr S K=ib P w0 (ev fr cal) (a.map (ev fr)) S (K · S):=rfl
theorem yC(f:FuncId)(a cap:Array Value)(ds:List DV)(K:DV→Prop):ib P w0 (.v (.func (.func f) a cap)) ds S K=(a.size=0∧okF P f=true∧cap.toList.all (fun u=>u.oneCell')=true∧ds.all gu=true∧@QX P w0 f (ds++cap.toList.map .v) S ⟨K⟩):=rfl
@[congr] theorem K1 {cal cal':DV} {ds ds':List DV} {S':St} {K:DV→Prop} (h1:cal=cal') (h2:ds=ds') (h3:S=S'):ib P w0 cal ds S K=ib P w0 cal' ds' S' K:=by cases h1;cases h2;cases h3;rfl
theorem Cv(x:Operand):nT P w0 (.move x) fr S K=aF P w0 (.move x) fr S (K · S):=rfl
theorem tj(x:Operand):nT P w0 (.assign x) fr S K=aF P w0 (.assign x) fr S (K · S):=rfl
theorem mQ(t:TypeId)(x:Operand)(f:Nat):nT P w0 (.fieldAddr t x f) fr S K=aF P w0 (.fieldAddr t x f) fr S (K · S):=rfl
theorem rj(x:Operand)(i:Nat):nT P w0 (.extract x i) fr S K=aF P w0 (.extract x i) fr S (K · S):=rfl
theorem oN(x:Operand):nT P w0 (.nilCheck x) fr S K=aF P w0 (.nilCheck x) fr S (K · S):=rfl
theorem xL(b:BinOp)(t:TypeId)(x y:Operand)(t':TypeId):nT P w0 (.binOp b t x y t') fr S K=aF P w0 (.binOp b t x y t') fr S (K · S):=rfl
theorem xR(t:TypeId)(parts:Array (Nat×Operand)):nT P w0 (.build t parts) fr S K=aF P w0 (.build t parts) fr S (K · S):=rfl
theorem yx(t:TypeId)(x y:Operand):nT P w0 (.store t x y) fr S K=aJ P w0 (.store t x y) fr S K:=rfl
theorem yJ(a:Array Operand)(ts:Array TypeId):nT P w0 (.call ⟨.builtin .len,a,ts⟩) fr S K=aF P w0 (.call ⟨.builtin .len,a,ts⟩) fr S (K · S):=rfl
end
attribute [go_sem ↓] L2 B4 B1 xr DS yC Cv tj mQ rj oN xL xR yx yJ
theorem xy(b:Bool):(b==false)=!b:=by cases b <;>rfl
attribute [go_sem] xy
end Aml
namespace Aml
open Go Go.RowKit
structure Has(X T:St):Prop where
 box:∀b x,lk X.box b=some x→lk T.box b=some x
 acc:∀l o,lk X.acc l=some o→lk T.acc l=some o
structure Kp(X T T':St):Prop where
 box:∀b x,lk X.box b=none→lk T.box b=some x→lk T'.box b=some x
 acc:∀l o,lk X.acc l=none→lk T.acc l=some o→lk T'.acc l=some o
theorem Has.refl(X:St):Has X X:=⟨fun _ _ h=>h,fun _ _ h=>h⟩
theorem Kp.refl(X T:St):Kp X T T:=⟨fun _ _ _ h=>h,fun _ _ _ h=>h⟩
theorem kP{α:Type}{l:List (Nat×α)}(hn:(l.map (·.1)).Nodup){n:Nat}{x:α}(h:(n,x)∈l):lk l n=some x:=by
 induction l with
 |nil=>cases h
 |cons p t ih=>
  obtain⟨k,y⟩:=p
  simp only[List.map_cons,List.nodup_cons]at hn
  simp only[lk]
  rcases List.mem_cons.1 h with e|h
  ·cases e;simp
  ·have:k≠n:=by rintro rfl;exact hn.1 (List.mem_map_of_mem (f:=(·.1)) h)
   rw[if_neg this];exact ih hn.2 h
def jo:List Tmp→List DV→List DV→List DV
 |p::ps,d::ds,fr=>jo ps ds (fr.set p d)
 |_,_,fr=>fr
section
variable {P:Program} {w0:W0}
theorem Rel.has{g:Gh}{S T:St}{w:World}(h:Rel w0 g T w)(hs:Has S T)(nb:(S.box.map (·.1)).Nodup)(na:(S.acc.map (·.1)).Nodup):Rel w0 g S w:=by
 obtain⟨ow,o1,o2⟩:=h.own
 exact⟨h.below,h.bS,nb,na,h.gB,h.fresh,fun l o hl=>h.top l o (cz (hs.acc _ _ (kP na hl))),ow,fun b ds hb=>o1 b ds (cz (hs.box _ _ (kP nb hb))),fun l o hl=>o2 l o (cz (hs.acc _ _ (kP na hl)))⟩
theorem s8{g:Gh}:∀(ps:List Tmp) (ds:List DV) (vs:List Value) {fr:List DV} {us:Array Value},aj g fr us.toList→aj g ds vs→
 aj g (jo ps ds fr) (((ps.zip vs).foldl (fun t (p,v)=>t.setIfInBounds p v) us).toList)
 |[],ds,vs,fr,us,h,_=>by simpa[jo]using h
 |p::ps,ds,vs,fr,us,h,r=>by
  cases ds with
  |nil=>have:=r.len;simp at this;obtain rfl:vs=[]:=List.eq_nil_of_length_eq_zero this.symm;simpa[jo]using h
  |cons d ds=>
   obtain⟨v,vs',rfl,hd,hr⟩:=r.bV
   simp only[jo,List.zip_cons_cons,List.foldl_cons]
   exact s8 ps ds vs' (by simpa using h.set p hd) hr
def YKo(P:Program)(w0:W0){α:Type}(l:Nat)(X:List α→St)(enc:α→List DV)(Ok:List α→Prop):Prop:=
 ∀pre x T,Ok (pre++[x])→Has (X pre) T→zU P w0 l (enc x) T fun d T'=>d= .v (.bool true)∧Has (X (pre++[x])) T'∧Kp (X pre) T T'
def YK(P:Program)(w0:W0){α:Type}(l:Nat)(X:List α→St)(enc:α→List DV)(V:List α):Prop:=
 ∀pre x T,(pre++[x]) <+: V→Has (X pre) T→zU P w0 l (enc x) T fun d T'=>d= .v (.bool true)∧Has (X (pre++[x])) T'∧Kp (X pre) T T'
theorem sZ{α:Type}(X:List α→St)(enc:α→List DV)(Ok Fin:List α→Prop){fo:Operand}{ps:Array Tmp}{assign body:Code}{fr:List DV}{S:St}{Q:Exit→List DV→St→Prop}{gf:FuncId}{cap:Array Value}
 (hf:ev fr fo= .v (.func (.func gf) #[] cap)) (hok:okF P gf=true) (hcap:cap.toList.all (fun u=>u.oneCell')=true) (hrf:(kz assign&&kz body)=true)
 (h0:X []=S) (hdb:∀pre,(X pre).box.map (·.1)=(X []).box.map (·.1)) (hda:∀pre,(X pre).acc.map (·.1)=(X []).acc.map (·.1)) (hps:∀x,(enc x).length=ps.size)
 (hbody:∀pre x T,Ok (pre++[x])→Has (X pre) T→fW P w0 assign (jo ps.toList (enc x) fr) T (j4 (fun Ca T1=>fW P w0 body Ca T1 (j4 (fun _ T'=>Has (X (pre++[x])) T'∧Kp (X pre) T T') fun _ _ _=>False)) fun _ _ _=>False))
 (hit:∀(l:Nat) (w1:W0),YKo P w1 l X enc Ok→∀T,Has (X []) T→aa P w1 gf (.v (.func (.yield l) #[] #[])::cap.toList.map .v) T fun _ T'=>∃V,Fin V∧Has (X V) T')
 (hdone:∀V,Fin V→Q .normal fr (X V)):fW P w0 (.rangeFunc fo ps assign body) fr S Q:=by
 intro g a w h1 h2 h3 ro hro
 have hro:ro=none:=hro.resolve_right (by simp[kz])
 subst hro
 simp only[Bool.and_eq_true]at hrf
 subst h0
 refine wpIn_rangeFunc ?_
 intro fn hfn
 have hfo:=nr h2 fo
 rw[hf]at hfo
 have hg:a.eval fo= .func (.func gf) #[] cap:=az hfo
 obtain⟨rec,hrec⟩:∃rec:LoopState→Option Code→Loop,rec=fun st pe=>{state:=st,pending:=pe,fn,tmps:=a.tmps,params:=ps,assign,body,defers:=w.heap.size}:=⟨_,rfl⟩
 obtain⟨W1,hW1⟩:∃W1,(w.alloc (.deferred (some []))).alloc (.loop (rec .ready none))=W1:=⟨_,rfl⟩
 have hL1:W1.heap[w.heap.size+1]? =some (.loop (rec .ready none)):=by
  rw[←hW1];have:=World.alloc_heap_new (w.alloc (.deferred (some []))) (.loop (rec .ready none));rwa [World.size_alloc]at this
 have hK1:W1.heap[w.heap.size]? =some (.deferred (some [])):=by
  rw[←hW1];exact(Below.heap_alloc _ _ _ (by simp)).trans (World.alloc_heap_new w _)
 have hb1:jY w.heap.size w W1:=by
  rw[←hW1];exact((jY.refl _ w).alloc (Nat.le_refl _) _).alloc (by simp) _
 have hob:∀k o,g.obj k=some o→k<w.heap.size:=fun k o hk=>(Array.getElem?_eq_some_iff.1 (h1.below.obj k o hk).1).1
 have hgl:∀k,w.heap.size≤k→g.obj k=none:=fun k hk=>by
  cases hx:g.obj k with
  |none=>rfl
  |some o=>have:=hob k o hx;omega
 have hwl:∀k,w.heap.size≤k→w0.gh.obj k=none:=fun k hk=>by
  cases hx:w0.gh.obj k with
  |none=>rfl
  |some o=>have:=hob k o (h1.below.kA.obj k o hx);omega
 have hsz:=h1.below.size
 let w1:W0:=⟨w0.w,{g with obj:=fun k=>if k=w.heap.size+1 then some (.loop (rec .ready none))else w0.gh.obj k}⟩
 have R1:Rel w1 (g.av (Bc W1)) (X []) W1:=by
  refine(h1.grow hb1).av rfl (fun _ _ h=>Bb h) ⟨fun _ _ _ h=>h,fun _ _ _ h=>h,fun k o hk=>?_⟩
  simp only[w1]at hk
  split at hk
  ·rename_i e;subst e;cases hk;exact qU hL1 rfl
  ·have:=(h1.grow hb1).below.obj k o (h1.below.kA.obj k o hk)
   exact qU this.1 this.2
 have nb:∀pre,((X pre).box.map (·.1)).Nodup:=fun pre=>by rw[hdb];exact h1.nb
 have na:∀pre,((X pre).acc.map (·.1)).Nodup:=fun pre=>by rw[hda];exact h1.na
 have h2k:aj (g.av (Bc W1)) fr a.tmps.toList:=h2.av
 have hcapR:∀g:Gh,aj g (cap.toList.map .v) cap.toList:=fun g=>⟨by simp,fun i d u a1 a2=>by
  simp only[List.getElem?_map,Option.map_eq_some_iff]at a1
  obtain⟨u',a1,rfl⟩:=a1
  rw[a2]at a1;cases a1
  exact .v _ (List.all_eq_true.1 hcap _ (List.mem_of_getElem? a2))⟩
 have hYK:YKo P w1 (w.heap.size+1) X enc Ok:=by
  intro pre x T hV hT g3 vs w3 r3 hvs
  have hl3g:g3.obj (w.heap.size+1)=some (.loop (rec .ready none)):=r3.below.kA.obj _ _ (by simp[w1])
  have hl3:=(r3.below.obj _ _ hl3g).1
  have hy:=run_yield (P:=P) (args:=vs) hl3 (by rw[hrec];have:=hvs.len;simp at this;rw[←this];exact hps x)
  rw[hrec]at hy
  dsimp only at hy
  refine⟨_,_,_,_,hy,fun ro=>roundIn_of_wpIn (F:=fz ro) (n:=0) trivial ?_⟩
  have hsub0:w0.gh.sub g3:=⟨fun _ _ _ h=>r3.below.kA.bS _ _ _ (h1.below.kA.bS _ _ _ h),fun _ _ _ h=>r3.below.kA.acc _ _ _ (h1.below.kA.acc _ _ _ h),fun k o hk=>r3.below.kA.obj k o (by
   simp only[w1]
   split
   ·rename_i e;subst e;rw[hwl _ (by omega)]at hk;cases hk
   ·exact hk)⟩
  have R3:Rel w0 g3 T w3:=r3.av (w0':=w0) (ob:=g3.obj) rfl r3.below.obj hsub0
  have hfr0:aj g3 fr a.tmps.toList:=⟨h2.len,fun i d u a1 a2=>aM.of (g:=g) (fun b i u hu=>r3.below.kA.bS b i u hu) (fun l n u hu=>r3.below.kA.acc l n u hu) (h2.at_ i d u a1 a2)⟩
  have hfr:aj g3 (jo ps.toList (enc x) fr) (((ps.zip vs).foldl (fun t (p,v)=>t.setIfInBounds p v) a.tmps).toList):=by
   have:=s8 (g:=g3) ps.toList (enc x) vs.toList (fr:=fr) (us:=a.tmps) hfr0 hvs
   rw[←Array.toList_zip,Array.foldl_toList]at this
   exact this
  refine wpIn_mono (hbody pre x T hV hT g3 {tmps:=_,defers:=[]} w3 R3 hfr (.nil rfl) (some (w.heap.size+1)) (.inr hrf.1)) ?_
  rintro e a4 w4 ⟨hd4,g4,fr4,T4,k1,k2,k3,k4⟩
  cases e with
  |normal=>
   have hl4g:g4.obj (w.heap.size+1)=some (.loop (rec .ready none)):=by rw[k1.obj];exact hl3g
   have hl4:=(k2.below.obj _ _ hl4g).1
   refine⟨_,run_beginRound hl4 (by rw[hrec]),?_⟩
   have hlt4:w.heap.size+1<w4.heap.size:=(Array.getElem?_eq_some_iff.1 hl4).1
   have hbz:({rec .ready none with state:= .busy}:Loop)=rec .busy none:=by rw[hrec]
   rw[hbz]
   have hwl0:=hwl (w.heap.size+1) (by omega)
   have hne0:∀k o,w0.gh.obj k=some o→k≠w.heap.size+1:=by rintro k o hk rfl;rw[hwl0]at hk;cases hk
   have R4x:Rel w0 (g4.av fun k=>if k=w.heap.size+1 then none else g4.obj k) T4 w4:=k2.av rfl (fun k o hk=>by
    split at hk
    ·cases hk
    ·exact k2.below.obj k o hk) ⟨k2.below.kA.bS,k2.below.kA.acc,fun k o hk=>by
     show(if k=w.heap.size+1 then none else g4.obj k)=some o
     rw[if_neg (hne0 k o hk)];exact k2.below.kA.obj k o hk⟩
   have hh5:∀k,k≠w.heap.size+1→(w4.putObj (w.heap.size+1) (.loop (rec .busy none))).heap[k]? =w4.heap[k]? :=fun k hk=>World.putObj_heap_other hk
   have R4y:=R4x.putObj (o':= .loop (rec .busy none)) hl4 rfl (by show(if _ then none else _)=none;rw[if_pos rfl]) (by omega)
   have R5:Rel w0 ((g4.av fun k=>if k=w.heap.size+1 then none else g4.obj k).av fun k=>if k=w.heap.size+1 then some (.loop (rec .busy none))else g4.obj k) T4 (w4.putObj (w.heap.size+1) (.loop (rec .busy none))):=R4y.av rfl (fun k o hk=>by
    split at hk
    ·rename_i e;subst e;cases hk;exact⟨World.putObj_heap_same hlt4,rfl⟩
    ·rename_i e;rw[hh5 k e];exact k2.below.obj k o hk) ⟨k2.below.kA.bS,k2.below.kA.acc,fun k o hk=>by
     show(if k=w.heap.size+1 then some (.loop (rec .busy none))else g4.obj k)=some o
     rw[if_neg (hne0 k o hk)];exact k2.below.kA.obj k o hk⟩
   have hD5:Dk w0 (fun k=>if k=w.heap.size+1 then some (.loop (rec .busy none))else g4.obj k) a4 (w4.putObj (w.heap.size+1) (.loop (rec .busy none))):=by
    refine⟨hd4.1,fun d hd=>?_⟩
    obtain⟨D,e1,e2,e3,e4⟩:=hd4.2 d hd
    have hne:D≠w.heap.size+1:=by rintro rfl;rw[hl4]at e2;cases e2
    exact⟨D,e1,(hh5 D hne).trans e2,by show(if D=w.heap.size+1 then _ else g4.obj D)=none;rw[if_neg hne,k1.obj];exact e3,e4⟩
   refine wpIn_mono (k4 _ a4 _ R5 k3.av.av hD5 (some (w.heap.size+1)) (.inr hrf.2)) ?_
   rintro e a6 w6 ⟨_,g6,fr6,T6,q1,q2,q3,q4⟩
   cases e with
   |normal=>
    have hg6:g6.obj=fun k=>if k=w.heap.size+1 then some (.loop (rec .busy none))else g4.obj k:=q1.obj
    have hl6:=(q2.below.obj (w.heap.size+1) (.loop (rec .busy none)) (by rw[hg6];simp)).1
    have hlt6:w.heap.size+1<w6.heap.size:=(Array.getElem?_eq_some_iff.1 hl6).1
    have hbr:({rec .busy none with state:=if(none:Option Code).isNone then .ready else .done,pending:=none}:Loop)=rec .ready none:=by rw[hrec];rfl
    have he:=run_endRound (P:=P) none hl6
    rw[hbr]at he
    have he:(Instr.endRound (w.heap.size+1) none).run P w6= .ok (.bool true) (w6.putObj (w.heap.size+1) (.loop (rec .ready none))):=he
    have h34:∀k,k≠w.heap.size+1→g6.obj k=g3.obj k:=fun k hk=>by rw[hg6];simp only[if_neg hk];rw[k1.obj]
    have R6x:Rel w0 (g6.av fun k=>if k=w.heap.size+1 then none else g3.obj k) T6 w6:=q2.av rfl (fun k o hk=>by
     split at hk
     ·cases hk
     ·rename_i e;exact q2.below.obj k o (by rw[h34 k e];exact hk)) ⟨q2.below.kA.bS,q2.below.kA.acc,fun k o hk=>by
      show(if k=w.heap.size+1 then none else g3.obj k)=some o
      rw[if_neg (hne0 k o hk)];exact hsub0.obj k o hk⟩
    have hh7:∀k,k≠w.heap.size+1→(w6.putObj (w.heap.size+1) (.loop (rec .ready none))).heap[k]? =w6.heap[k]? :=fun k hk=>World.putObj_heap_other hk
    have R6y:=R6x.putObj (o':= .loop (rec .ready none)) hl6 rfl (by show(if _ then none else _)=none;rw[if_pos rfl]) (by omega)
    have R7:Rel w1 ((g6.av fun k=>if k=w.heap.size+1 then none else g3.obj k).av g3.obj) T6 (w6.putObj (w.heap.size+1) (.loop (rec .ready none))):=R6y.av rfl (fun k o hk=>by
     by_cases e:k=w.heap.size+1
     ·subst e;rw[hl3g]at hk;cases hk;exact⟨World.putObj_heap_same hlt6,rfl⟩
     ·rw[hh7 k e];exact q2.below.obj k o (by rw[h34 k e];exact hk)) ⟨fun b i u hu=>q1.bS _ _ _ (k1.bS _ _ _ (r3.below.kA.bS _ _ _ hu)),fun l n u hu=>q1.acc _ _ _ (k1.acc _ _ _ (r3.below.kA.acc _ _ _ hu)),r3.below.kA.obj⟩
    exact⟨.bool true,_,he,.bool true,(g6.av fun k=>if k=w.heap.size+1 then none else g3.obj k).av g3.obj,.v (.bool true),T6,rfl,⟨fun b i u hu=>q1.bS _ _ _ (k1.bS _ _ _ hu),fun l n u hu=>q1.acc _ _ _ (k1.acc _ _ _ hu),rfl⟩,R7,.v _ rfl,rfl,q4.1,q4.2⟩
   |exit n=>exact q4.elim
   |goto n=>exact q4.elim
   |ret=>exact q4.elim
   |panic ch=>exact q4.elim
   |outgrown=>exact q4.elim
  |exit n=>exact k4.elim
  |goto n=>exact k4.elim
  |ret=>exact k4.elim
  |panic ch=>exact k4.elim
  |outgrown=>exact k4.elim
 refine⟨w.heap.size+1,[{target:= .collected w.heap.size,args:= #[]}],W1,{target:= .fn (.func gf) cap,args:= #[.func (.yield (w.heap.size+1)) #[] #[]]},W1,gf, #[.func (.yield (w.heap.size+1)) #[] #[]]++cap,W1,?_,?_,fun _ _=>trivial,?_,fun h=>by simp[fz,Fence.wide]at h,?_⟩
 ·rw[←hW1,hrec];exact run_enterLoop_outer _ _ _ _ _
 ·simp only[resolve,hg]
  simp[go_sem]
 ·unfold okF at hok
  split at hok
  ·rename_i fn' hfn'
   simp only[Bool.and_eq_true,Bool.not_eq_true']at hok
   obtain⟨hb,hname⟩:=hok
   have hbn:¬fn'.body=none:=by intro e;simp[e]at hb
   have hname':¬fn'.name= "runtime.NumGoroutine" :=by simpa using hname
   simp[invoke,callFunc,hfn',hname',hbn]
  ·cases hok
 ·refine oe.2 ((hit _ w1 hYK (X []) (.refl _) (g.av (Bc W1)) _ W1 R1 ?_).mono ?_)
  ·have:aj (g.av (Bc W1)) ([.v (.func (.yield (w.heap.size+1)) #[] #[])]++cap.toList.map .v) ([.func (.yield (w.heap.size+1)) #[] #[]]++cap.toList):=(aj.cons (.v _ rfl) (aj.nil _)).append (hcapR _)
   simpa using this
  ·rintro e w2 ⟨r,g2,d,S2,rfl,k1,k2,k3,V,kV,k4⟩
   have hg2:g2.obj=Bc W1:=k1.obj
   have hkeep:∀(k:Nat) (o:Obj),W1.heap[k]? =some o→nc o=true→w2.heap[k]? =some o:=fun k o h1 h2=>(k2.below.obj k o (by rw[hg2];exact qU h1 h2)).1
   have hl2:=hkeep _ _ hL1 rfl
   have hK2:=hkeep _ _ hK1 rfl
   have hpend:(rec .ready none).pending=none:=by rw[hrec]
   obtain⟨o',hend⟩:∃o',(Instr.endLoop (w.heap.size+1)).run P w2= .ok none (w2.putObj (w.heap.size+1) o'):=⟨_,by
    have:=run_endLoop (P:=P) hl2 (by rw[hrec];simp)
    rw[hpend]at this
    exact this⟩
   refine⟨none,_,hend,?_⟩
   have hoth:∀k,k≠w.heap.size+1→(w2.putObj (w.heap.size+1) o').heap[k]? =w2.heap[k]? :=fun k hk=>World.putObj_heap_other hk
   have RV:Rel w1 g2 (X V) w2:=k2.has k4 (nb _) (na _)
   have Rb:Rel w0 (g2.av g.obj) (X V) w2:=RV.av rfl (fun k o hk=>by
    obtain⟨p1,p2⟩:=h1.below.obj k o hk
    exact⟨hkeep k o ((hb1.block k (Array.getElem?_eq_some_iff.1 p1).1).trans p1) p2,p2⟩) ⟨fun b i u hu=>k1.bS _ _ _ (h1.below.kA.bS _ _ _ hu),fun l n u hu=>k1.acc _ _ _ (h1.below.kA.acc _ _ _ hu),h1.below.kA.obj⟩
   refine⟨?_,g2.av g.obj,fr,X V,⟨k1.bS,k1.acc,rfl⟩,Rb.putObj hl2 rfl (hgl _ (by omega)) (by omega),?_,hdone V kV⟩
   ·refine⟨?_,?_⟩
    ·show({target:= .collected w.heap.size,args:= #[]}::a.defers:List Deferred).Nodup
     rw[List.nodup_cons]
     refine⟨fun hm=>?_,h3.1⟩
     obtain⟨D,e1,e2,_⟩:=h3.2 _ hm
     have:w.heap.size=D:=by injection e1 with e1 _;injection e1
     subst this
     have:=(Array.getElem?_eq_some_iff.1 e2).1
     omega
    ·intro d hd
     rcases List.mem_cons.1 hd with rfl|hd
     ·exact⟨_,rfl,(hoth _ (by omega)).trans hK2,hgl _ (Nat.le_refl _),by omega⟩
     ·obtain⟨D,e1,e2,e3,e4⟩:=h3.2 d hd
      have hlt:=(Array.getElem?_eq_some_iff.1 e2).1
      exact⟨D,e1,(hoth D (by omega)).trans (hkeep D _ ((hb1.block D hlt).trans e2) rfl),e3,e4⟩
   ·have:aj g2 fr a.tmps.toList:=h2k.mono k1
    exact this.av
theorem vD{α:Type}(X:List α→St)(enc:α→List DV)(V:List α){fo:Operand}{ps:Array Tmp}{assign body:Code}{fr:List DV}{S:St}{Q:Exit→List DV→St→Prop}{gf:FuncId}{cap:Array Value}
 (hf:ev fr fo= .v (.func (.func gf) #[] cap)) (hok:okF P gf=true) (hcap:cap.toList.all (fun u=>u.oneCell')=true) (hrf:(kz assign&&kz body)=true)
 (h0:X []=S) (hdb:∀pre,(X pre).box.map (·.1)=(X []).box.map (·.1)) (hda:∀pre,(X pre).acc.map (·.1)=(X []).acc.map (·.1)) (hps:∀x,(enc x).length=ps.size)
 (hbody:∀pre x T,(pre++[x]) <+: V→Has (X pre) T→fW P w0 assign (jo ps.toList (enc x) fr) T (j4 (fun Ca T1=>fW P w0 body Ca T1 (j4 (fun _ T'=>Has (X (pre++[x])) T'∧Kp (X pre) T T') fun _ _ _=>False)) fun _ _ _=>False))
 (hit:∀(l:Nat) (w1:W0),YK P w1 l X enc V→∀T,Has (X []) T→aa P w1 gf (.v (.func (.yield l) #[] #[])::cap.toList.map .v) T fun _ T'=>Has (X V) T')
 (hdone:Q .normal fr (X V)):fW P w0 (.rangeFunc fo ps assign body) fr S Q:=
 sZ X enc (· <+: V) (·=V) hf hok hcap hrf h0 hdb hda hps hbody (fun l w1 hy T hT=>(hit l w1 hy T hT).mono fun _ _ h=>⟨V,rfl,h⟩) fun V' e=>e▸hdone
theorem qv{α:Type}(ss:List Nat:=[])(X:List α→St)(enc:α→List DV)(V:List α){fo:Operand}{ps:Array Tmp}{assign body:Code}{fr:List DV}{S:St}{Q:Exit→List DV→St→Prop}{gf:FuncId}{cap:Array Value}
 (hm:P.follows .mixedOrders=true) (hc:(ux ss assign&&ux ss body&&kz assign&&kz body&&okF P gf)=true) (hf:ev fr fo= .v (.func (.func gf) #[] cap)) (hcap:cap.toList.all (fun u=>u.oneCell')=true)
 (h0:X []=S) (hdb:∀pre,(X pre).box.map (·.1)=(X []).box.map (·.1)) (hda:∀pre,(X pre).acc.map (·.1)=(X []).acc.map (·.1)) (hps:∀x,(enc x).length=ps.size)
 (hit:∀(l:Nat) (w1:W0),YK P w1 l X enc V→∀T,Has (X []) T→aa P w1 gf (.v (.func (.yield l) #[] #[])::cap.toList.map .v) T fun _ T'=>Has (X V) T')
 (hbody:∀pre x T,(pre++[x]) <+: V→Has (X pre) T→vw P w0 ss assign (jo ps.toList (enc x) fr) T (j4 (fun Ca T1=>vw P w0 ss body Ca T1 (j4 (fun _ T'=>Has (X (pre++[x])) T'∧Kp (X pre) T T') fun _ _ _=>False)) fun _ _ _=>False))
 (hdone:Q .normal fr (X V)):fW P w0 (.rangeFunc fo ps assign body) fr S Q:=by
 simp only[Bool.and_eq_true]at hc
 obtain⟨⟨⟨⟨c1,c2⟩,c3⟩,c4⟩,c5⟩:=hc
 refine vD X enc V hf c5 hcap (by rw[c3,c4];rfl) h0 hdb hda hps (fun pre x T hV hT=>?_) hit hdone
 refine(da hm assign c1 (hbody pre x T hV hT)).mono ?_
 intro e fr' S' h
 cases e <;>first|exact da hm body c2 h|exact h
theorem tm{ss:List Nat}{fr:List DV}{S:St}{Q:Exit→List DV→St→Prop}(f:Operand)(ps:Array Tmp)(a b:Code):vw P w0 ss (.rangeFunc f ps a b) fr S Q= @AL P w0 fr S ⟨((.rangeFunc f ps a b),Q)⟩:=rfl
theorem OS(l:Nat)(ds:List DV)(S:St)(K:DV→St→Prop):p7 P w0 (.v (.func (.yield l) #[] #[])) ds S K=gP S ds fun ds S=>@YC P w0 l ds S ⟨K⟩:=by
 simp[p7]
@[congr] theorem abj {l:Nat} {ds ds':List DV} {S S':St} [K:Cn (DV→St→Prop)] (h1:ds=ds') (h2:S=S'):YC P w0 l ds S=YC P w0 l ds' S':=by cases h1;cases h2;rfl
theorem Lo{l:Nat}{args args':List DV}{S:St}{K K':DV→St→Prop}(h:zU P w0 l args' S K')(hk:∀d S',K' d S'→K d S')(ha:gk args args':=by exact gk.refl _):@YC P w0 l args S ⟨K⟩:=by
 intro g vs w h1 h2
 obtain⟨fn,t,a,b,q1,q2⟩:=h g vs w h1 (ha.spec h2)
 refine⟨fn,t,a,b,q1,fun ro=>(q2 ro).mono ?_⟩
 rintro e w' ⟨r,g',d,S',rfl,x1,x2,x3,x4⟩
 exact⟨r,g',d,S',rfl,x1,x2,x3,hk _ _ x4⟩
theorem ax{α:Type}(l:List (Nat×α))(b:Nat)(v:α):lk (up l b v) b=(lk l b).map fun _=>v:=by
 induction l with
 |nil=>rfl
 |cons p t ih=>obtain⟨k,x⟩:=p;simp only[up,lk];split <;>simp_all [lk]
theorem aL{α:Type}{b c:Nat}(h:¬b=c)(l:List (Nat×α))(v:α):lk (up l b v) c=lk l c:=by
 induction l with
 |nil=>rfl
 |cons p t ih=>
  obtain⟨k,x⟩:=p
  simp only[up]
  split
  ·rename_i e;subst e;simp[lk,h]
  ·simp only[lk,ih]
theorem rK{α:Type}(l:List (Nat×α))(b:Nat)(v v':α):up (up l b v) b v'=up l b v':=by
 induction l with
 |nil=>rfl
 |cons p t ih=>obtain⟨k,x⟩:=p;simp only[up];split <;>simp_all [up]
theorem Has.bw{X T:St}(h:Has X T)(b:FN T.box)(ds:List DV){A:List (Nat×Ob)}(hA:A=T.acc):Has X ⟨(b.n,ds)::T.box,A⟩:=⟨fun c x hc=>by
 have:=h.box c x hc
 simp only[lk]
 rw[if_neg (fun e=>by rw[←e,jy b]at this;cases this)];exact this,fun l o hl=>by rw[hA];exact h.acc l o hl⟩
theorem Has.up{b:Nat}{x v:List DV}{R:List (Nat×List DV)}{A:List (Nat×Ob)}{T:St}(h:Has ⟨(b,x)::R,A⟩ T):Has ⟨(b,v)::R,A⟩ ⟨up T.box b v,T.acc⟩:=⟨fun c y hc=>by
 have hb:=h.box b x (by simp[lk])
 simp only[lk]at hc
 split at hc
 ·rename_i e;subst e;cases hc;rw[ax,hb];rfl
 ·rename_i e
  rw[aL e]
  exact h.box c y (by simp only[lk,if_neg e];exact hc),h.acc⟩
theorem Kp.up{b:Nat}{v:List DV}{X T:St}(h:(lk X.box b).isSome=true):Kp X T ⟨up T.box b v,T.acc⟩:=⟨fun c x hc hx=>by
 have:¬b=c:=by rintro rfl;rw[hc]at h;cases h
 rw[aL this];exact hx,fun _ _ _ h=>h⟩
theorem Kp.trans{X X' T1 T2 T3:St}(h:Kp X T1 T2)(k:Kp X' T2 T3)(hb:∀b,lk X.box b=none→lk X'.box b=none)(ha:∀l,lk X.acc l=none→lk X'.acc l=none):Kp X T1 T3:=
 ⟨fun b x h1 h2=>k.box b x (hb b h1) (h.box b x h1 h2),fun l o h1 h2=>k.acc l o (ha l h1) (h.acc l o h1 h2)⟩
theorem Kp.bw{X T T':St}(h:Kp X T T')(b:FN T'.box)(ds:List DV){A:List (Nat×Ob)}(hA:A=T'.acc):Kp X T ⟨(b.n,ds)::T'.box,A⟩:=⟨fun c x hc hx=>by
 have:=h.box c x hc hx
 simp only[lk]
 rw[if_neg (fun e=>by rw[←e,jy b]at this;cases this)];exact this,fun l o h1 h2=>by rw[hA];exact h.acc l o h1 h2⟩
theorem HS(k0:IntKind)(b ke kb:TK)(S:St)(x:DV)(K:DV→Prop):jK (.int k0) b ke kb S x K=iW (.int k0) b x K:=rfl
theorem D6(e:Nat)(i:Bool)(ke kb:TK)(S:St)(b:ByteArray)(K:DV→Prop):jK .str (.sl e 1 1 i) ke kb S (.v (.string b)) K=(b.size<281474976710656∧kb= .int .u8∧K (.sl 1 false (b.data.toList.map fun c=> .v (.int .u8 c.toNat)))):=rfl
theorem HM(e s b:Nat)(i:Bool)(ke kb:TK)(S:St)(x:DV)(K:DV→Prop):jK (.sl e s b i) .str ke kb S x K=(ke= .int .u8∧Rc x=true∧gl S x fun s xs=>s=1∧pn xs=true∧K (.v (.string (strOfNums (yX xs))))):=rfl
theorem DT(l n:Nat):Rc (.acc l n)=true:=rfl
theorem IJ(s:Nat)(f:Bool)(xs:List DV):Rc (.sl s f xs)=true:=rfl
theorem Ho(n:Nat)(a:Int):yX (List.replicate n (DV.v (.int .u8 a)))=List.replicate n a:=(Ev n a).1
theorem Da(n:Nat)(a:Int):pn (List.replicate n (DV.v (.int .u8 a)))=true:=(Ev n a).2
theorem Lt(b j:Nat){c:Code}{fr:List DV}{S:St}{Q:Exit→List DV→St→Prop}{ds:List DV}{l s:Nat}{xs:List DV}(hb:lk S.box b=some ds)(hj:ds[j]? =some (.acc l xs.length))(hl:lk S.acc l=some (.arr s xs))
 (h:fW P w0 c fr ⟨Aml.up S.box b (ds.set j (.sl s false xs)),Aml.up S.acc l (.tl s xs)⟩ Q):fW P w0 c fr S Q:=by
 intro g a w h1 h2 h3
 obtain⟨ow,o1,o2⟩:=h1.own
 obtain⟨q1,q2,q3,us,e,q4,q5,q6⟩:=o1 _ _ (cz hb)
 have hlt:j<us.toList.length:=by rw[←q5.len];exact(List.getElem?_eq_some_iff.1 hj).1
 have hr:=q5.at_ j _ _ hj (List.getElem?_eq_getElem hlt)
 obtain⟨o,c',hu⟩:∃o c',us.toList[j]= .slice o xs.length c'∧g.acc l xs.length=some (.slice o xs.length c'):=by
  generalize us.toList[j]=u at hr
  cases hr with
  |acc _ _ o c h=>exact⟨o,c,rfl,h⟩
 obtain⟨g',hle,hR,hrep⟩:=h1.freeze hl hu.2
 have hR':=hR.KD (ds':=ds.set j (.sl s false xs)) (b:=b) hb ?_
 ·exact eM (h g' a w hR' (h2.mono hle) (hle.dk h3)) fun _ _ _ k=>k.of_le hle
 ·intro us' e' hh hr2
  rw[hh]at q4
  cases q4
  exact fp hr2 (List.getElem?_eq_getElem hlt) (by rw[hu.1];exact hrep)
end
attribute [go_sem ↓] HS D6 HM tm
attribute [go_sem] DT IJ Ho Da OS ax aL rK Option.map_some
end Aml
namespace Aml
open Go Go.RowKit
def Dz(d:DV)(S:St)(K:DV→St→Prop):Prop:=match d with
 | .sl s true xs=>∀l,iX S.acc l→K (.acc l xs.length) ⟨S.box,(l,.arr s xs)::S.acc⟩
 |_=>False
section
variable {P:Program} {w0:W0}
theorem uq{g:Gh}{S:St}{w:World}(h1:Rel w0 g S w){t len:Nat}{parts:List (Nat×DV)}{vs:List (Nat×Value)}(hx:parts.map (·.1)=vs.map (·.1))(hR:aj g (parts.map (·.2)) (vs.map (·.2))){K:DV→St→Prop}
 {e:Nat} (hte:∀e' s b i,tk P t= .sl e' s b i→e'=e) (h:aR (tk P t) (zD P e) len parts fun d=>Dz d S K):
 ∃d u w' g' S',(Instr.buildSlice t len vs.toArray).run P w= .ok u w'∧g.le g'∧Rel w0 g' S' w'∧aM g' d u∧K d S':=by
 unfold aR at h
 split at h
 ·rename_i e' s by' hk
  obtain rfl:=hte _ _ _ _ hk
  obtain⟨hok,hzl,hbig,h⟩:=h
  obtain⟨hu,hs,_,hei⟩:=eD hk
  obtain⟨ti,z,hi,hz,hzs,hpos⟩:=cD hei
  have hsz:ti.size=s:=by simpa[Program.cellsOf,hi]using hs
  have hzD:zD P e'=cv z:=by simp[zD,hi,hz]
  have hrz:aM g (zD P e') z:=hzD▸jq g z
  split at h
  ·rename_i xs hf
   have hpw:=xG (z:=z) (s:=s) (n:=len) (by omega) (by omega)
   obtain⟨cs',us',q1,q2,q3,q4,q5⟩:=uY (g:=g) (s:=s) parts vs (List.replicate len (zD P e')) (List.replicate len z) ((Array.range (len*s)).map (z.cells[·%z.cells.size]!)) xs hx hR
    ⟨by simp,fun i d u a b=>by
     rw[List.getElem?_replicate]at a b
     split at a
     ·rename_i hlt;rw[if_pos hlt]at b;simp only[Option.some.injEq]at a b;subst a;subst b;exact hrz
     ·cases a⟩ hpw (fun u hu x hx=>by rw[List.eq_of_mem_replicate hu]at hx;exact hrz.one hok x hx) hf
   have hlen:xs.length=len:=by simpa using q5
   have hlu:us'.length=len:=by rw[←q2.len];exact hlen
   have hrun:(Instr.buildSlice t len vs.toArray).run P w= .ok (.slice (some ⟨w.heap.size,0,none⟩) len len) (w.alloc (.cells cs' e')):=by
    have hb:¬(len*s>2^24):=by omega
    simp only[Instr.buildSlice]
    by_cases hls:len*s=0
    ·have hl0:len=0:=by rcases Nat.mul_eq_zero.1 hls with h'|h' <;>omega
     have hcs:((Array.range (len*s)).map (z.cells[·%z.cells.size]!))= #[]:=by simp[hls]
     rw[hcs]at q1
     have hr0:∀f:Nat→Value,(Array.range 0).map f= #[]:=fun f=>by simp
     simp only[run_underlying hu,Go.sizeOf,typeInfo,hi,hsz,hls,newRow,Sem.run_bind,Sem.run_pure,Result.andThen_ok,run_program,hr0,if_true]
     rw[q1]
     simp[hl0]
    ·simp[run_underlying hu,Go.sizeOf,typeInfo,hi,hsz,hls,hb,zeroValue,hz,q1,newRow]
   have hlm:len≤maxLen:=by
    have:len*1≤len*s:=Nat.mul_le_mul_left len (by omega)
    unfold maxLen;omega
   have hcsz:cs'.size=len*s:=by
    have:=q3.size
    rw[hlu]at this
    simpa using this
   obtain⟨l,g',hle,hne,hRel,hA⟩:=h1.Dv (s:=s) (xs:=xs) (us:=us') (c:=len) (dm w (.cells cs' e')) (by omega) (Nat.le_refl _) (heap_alloc_new w _) hcsz (by omega) hlm q2 q3.each q4 (fun i u j x a b=>by have:=q3.at_ i u j x a b;simpa using this) (zB (by omega) (by rw[Array.length_toList,hcsz,hlu]) q3.each q4 (fun i u j x a b=>by have:=q3.at_ i u j x a b;simpa using this))
   rw[hlen]at hA
   have h':=h l (di hne)
   rw[hlen]at h'
   exact⟨_,_,_,_,_,hrun,hle,hRel,hA,h'⟩
  ·exact h.elim
 ·exact h.elim
theorem CL{o:Oper}{t len:Nat}{parts:List (Nat×Operand)}(ho:o.op= .buildSlice t len parts.toArray){ρD:Operand→DV}{S:St}{K:DV→St→Prop}
 (h:gP S (parts.map fun p=>ρD p.2) fun ds S=>aR (tk P t) (zD P (dJ P t)) len ((parts.map (·.1)).zip ds) fun d=>Dz d S K):an P w0 o ρD S K:=by
 intro g w ρ h1 h2 hcst
 have hR:=kj (g:=g) (ρD:=ρD) (ρ:=ρ) parts (fun p hp=>h2 p.2 (by simp only[ho,Op.operands];simp;exact⟨p.1,hp⟩))
 obtain⟨g',ds,S',l1,R1,r1,k1⟩:=je _ h1 hR h
 have hlen:(parts.map (·.1)).length=ds.length:=by have:=r1.len;simpa using this.symm
 obtain⟨d,u,w',g2,S2,e1,l2,R2,e2,e3⟩:=uq (P:=P) R1 (t:=t) (len:=len) (parts:=(parts.map (·.1)).zip ds) (vs:=parts.map fun p=>(p.1,ρ p.2)) (by rw[zip_fst hlen];simp) (by rw[sV hlen];simpa[Function.comp_def]using r1)
  (e:=dJ P t) (fun e' s b i hk=>by simp[dJ,hk]) k1
 have hrun:(execOp ρ o).run P w= .ok (.value u) w':=by
  have e:(parts.toArray.map fun(i,x)=>(i,ρ x))=(parts.map fun p=>(p.1,ρ p.2)).toArray:=by simp
  simp only[execOp,ho,Sem.run_bind]
  rw[e,e1]
  rfl
 rw[hrun]
 exact⟨g2,d,S2,l1.trans l2,R2,e2,e3⟩
def Rr(P:Program)(w0:W0)(op:Op)(fr:List DV)(S:St)(K:DV→St→Prop):Prop:=match op with
 | .buildSlice t len parts=>gP S (parts.toList.map fun p=>ev fr p.2) fun ds S=>aR (tk P t) (zD P (dJ P t)) len ((parts.toList.map (·.1)).zip ds) fun d=>Dz d S K
 |op=>aJ P w0 op fr S K
def vy(P:Program)(w0:W0)(ops:Array Oper)(K:List DV→St→Prop):List Oper→List DV→St→Prop
 |[],fr,S=>K fr S
 |o::rest,fr,S=>cj ops fr o.guard (fun fr=>Rr P w0 o.op fr S fun d S'=>vy P w0 ops K rest (pt fr o.dst d) S') (fun fr=>vy P w0 ops K rest (pt fr o.dst ud) S)
theorem H3{o:Oper}{fr:List DV}{S:St}{K:DV→St→Prop}(hs:hJ o.op=true)(h:Rr P w0 o.op fr S K):an P w0 o (ev fr) S K:=by
 cases hop:o.op with
 |buildSlice t len parts=>rw[hop]at h;exact CL (parts:=parts.toList) (by simpa using hop) h
 |_=>rw[hop]at h;exact bH hs (by rw[hop];exact h)
theorem l7{ops:Array Oper}{K:List DV→St→Prop}:∀(l:List Oper) {fr:List DV} {S:St},l.all (fun o=>hJ o.op)=true→vy P w0 ops K l fr S→Ba P w0 ops K l fr S
 |[],fr,S,_,h=>h
 |o::rest,fr,S,hs,h=>by
  simp only[List.all_cons,Bool.and_eq_true]at hs
  refine iy (fun fr h=>?_) (fun fr h=>l7 rest hs.2 h) h
  exact aS (fun d S h=>l7 rest hs.2 h) (H3 hs.1 h)
theorem Yz{id:Nat}{l:List Oper}{fr:List DV}{S:St}{Q:Exit→List DV→St→Prop}(hs:l.all (fun o=>hJ o.op)=true)(h:vy P w0 l.toArray (fun fr S=>jx fr fun fr=>Q .normal fr S) l fr S):fW P w0 (.region id l.toArray false) fr S Q:=
 tL (l7 l hs h)
section
variable {ops:Array Oper} {fr:List DV} {S:St} {rest:List Oper} {dst:Option Tmp} {op:Op} {ty:TypeId} {pos:String} {aft:Array Edge} {K:List DV→St→Prop} {K2:DV→St→Prop}
theorem Xv:vy P w0 ops K [] fr S=K fr S:=rfl
theorem UW:vy P w0 ops K (⟨dst,op,ty,pos,aft,none⟩::rest) fr S=Rr P w0 op fr S fun d S'=>vy P w0 ops K rest (pt fr dst d) S':=rfl
theorem SO(t:TypeId)(x:Operand):Rr P w0 (.load t x) fr S K2=aJ P w0 (.load t x) fr S K2:=rfl
theorem K7(x:Operand):Rr P w0 (.assign x) fr S K2=aJ P w0 (.assign x) fr S K2:=rfl
theorem yF(t:TypeId)(len:Nat)(parts:List (Nat×Operand)):Rr P w0 (.buildSlice t len parts.toArray) fr S K2=(gP S (parts.map fun p=>ev fr p.2) fun ds S=>aR (tk P t) (zD P (dJ P t)) len ((parts.map (·.1)).zip ds) fun d=>Dz d S K2):=rfl
theorem Sy(s:Nat)(xs:List DV):Dz (.sl s true xs) S K2=∀l:FN S.acc,K2 (.acc l.n xs.length) ⟨S.box,(l.n,.arr s xs)::S.acc⟩:=sH S.acc fun l=>K2 (.acc l xs.length) ⟨S.box,(l,.arr s xs)::S.acc⟩
@[congr] theorem aar {fr':List DV} {S':St} (h1:fr=fr') (h2:S=S'):Rr P w0 op fr S K2=Rr P w0 op fr' S' K2:=by cases h1;cases h2;rfl
@[congr] theorem Zc {l:List Oper} {fr':List DV} {S':St} (h1:fr=fr') (h2:S=S'):vy P w0 ops K l fr S=vy P w0 ops K l fr' S':=by cases h1;cases h2;rfl
@[congr] theorem ZD {d d':DV} {S':St} (h1:d=d') (h2:S=S'):Dz d S K2=Dz d' S' K2:=by cases h1;cases h2;rfl
end
end
attribute [go_sem ↓] Xv UW SO K7 yF Sy
end Aml
namespace Aml
open Go Go.RowKit
section
variable {P:Program} {w0:W0}
theorem Mz{g:Gh}{S:St}{w:World}(h1:Rel w0 g S w){l:Nat}{xs:List DV}(hl:lk S.acc l=some (.arr 1 xs)){b c:Nat}(hval:g.acc l xs.length=some (.slice (some ⟨b,0,none⟩) xs.length c)){k:Nat}(hk:k<xs.length)
 {t e ty:TypeId} {z:Value} (hu:P.underlying t=some (.slice e)) (hv:∀w,(zeroValue e).run P w= .ok z w) (hz:z.cells= #[z]) (hz1:z.oneCell'=true) {zd:DV} (hrz:aM g zd z) (c':Nat):
 ∃w',(Builtin.clear_ #[t] ty #[.slice (some ⟨b,k,none⟩) (xs.length-k) c']).run P w= .ok (.tuple #[]) w'∧Rel w0 g ⟨S.box,up S.acc l (.arr 1 (xs.take k++List.replicate (xs.length-k) zd))⟩ w':=by
 obtain⟨ow,hO⟩:=h1.open_
 obtain⟨hs,⟨he,o2,ha⟩|⟨b',c0,cs,e0,q1,q2,q3,q4,q5,q6,q7,q8,qA,us,q9,q10,q11,q12⟩⟩:=hO.acc l _ (cz hl)
 ·rw[he]at hk;simp at hk
 have hval':=hval
 rw[q1]at hval'
 simp only[Option.some.injEq,Value.slice.injEq,Addr.mk.injEq,true_and,and_true]at hval'
 obtain⟨rfl,rfl⟩:=hval'
 have hzc:(Builtin.zeroCells z.cells (xs.length-k)).toList=List.replicate (xs.length-k) z:=by
  rw[hz]
  simp[Builtin.zeroCells]
  apply List.ext_getElem
  ·simp
  ·intro i h1 h2
   simp[Nat.mod_one]
 obtain⟨m,hm⟩:∃m,m+1=xs.length-k:=⟨xs.length-k-1,by omega⟩
 have hul:us.length=xs.length:=q9.len.symm
 have hst:=run_storeCells_at (P:=P) b' k e0 (List.replicate (xs.length-k) z) 0 cs w q5 (by simp;omega) (fun u hu=>by rw[List.eq_of_mem_replicate hu];exact hz1)
 have hle2:k+(List.replicate (xs.length-k) z).length≤cs.toList.length:=by simp;omega
 refine⟨w.setRow b' (aP cs.toList k (List.replicate (xs.length-k) z)).toArray,?_,?_⟩
 ·rw[cJ _ _ _ hle2]
  simp only[Nat.add_zero]at hst
  rw[←hm]at hst hzc ⊢
  simp[Builtin.clear_,run_underlying hu,hv,hzc,hst]
 ·have hxs:(xs.take k++List.replicate (xs.length-k) zd).length=xs.length:=by simp;omega
  refine h1.Nf (ys:=xs.take k++List.replicate (xs.length-k) zd) (us:=us.take k++List.replicate (xs.length-k) z) (b:=b') (c:=c0) (e:=e0) (cs:=(aP cs.toList k (List.replicate (xs.length-k) z)).toArray) hl hval hxs (by omega) ?_ ?_ ?_ ?_ ?_ ?_ ?_ ?_ ?_ ?_
  ·exact setRow_heap w b' cs _ e0 (0,0) q5
  ·rw[List.size_toArray,cJ _ _ _ hle2]
   simp only[List.length_append,List.length_take,List.length_drop,Array.length_toList]
   simp only[Array.length_toList]at hle2
   rw[←q6];omega
  ·exact h1.below.step ⟨rfl,rfl,rfl,by simp,fun k hk=>setRow_other w b' k _ (by omega),Nat.le_refl _⟩ b' (nv q5) fun k _ hne=>setRow_other w b' k _ hne
  ·simp
  ·intro k _ hkb;exact setRow_other w b' k _ hkb
  ·refine aj.append ?_ ?_
   ·exact⟨by simp[hul],fun i d u a1 a2=>by
     rw[List.getElem?_take]at a1 a2
     split at a1
     ·rename_i hlt;rw[if_pos hlt]at a2;exact q9.at_ i d u a1 a2
     ·cases a1⟩
   ·exact⟨by simp,fun i d u a1 a2=>by
     rw[List.getElem?_replicate]at a1 a2
     split at a1
     ·rename_i hlt;rw[if_pos hlt]at a2;cases a1;cases a2;exact hrz
     ·cases a1⟩
  ·intro j u hj
   rcases List.mem_append.1 (List.mem_of_getElem? hj)with hu|hu
   ·obtain⟨i,hi⟩:=List.mem_iff_getElem?.1 (List.mem_of_mem_take hu)
    exact q10 i u hi
   ·rw[List.eq_of_mem_replicate hu,hz];rfl
  ·intro u hu x hx
   rcases List.mem_append.1 hu with hu|hu
   ·exact q11 u (List.mem_of_mem_take hu) x hx
   ·rw[List.eq_of_mem_replicate hu,hz]at hx
    simp only[List.mem_singleton]at hx
    subst hx;exact hz1
  ·intro i u j x hi2 hj
   rw[List.getElem?_toArray,fX hle2]
   rcases Nat.lt_or_ge i k with hik|hik
   ·rw[List.getElem?_append_left (by simp;omega),List.getElem?_take,if_pos hik]at hi2
    have hjs:j<1:=by rw[←q10 i u hi2];exact(Array.getElem?_eq_some_iff.1 hj).1
    rw[if_neg (by simp;omega)]
    simpa using q12 i u j x hi2 hj
   ·have hlk:(us.take k).length=k:=by simp;omega
    rw[List.getElem?_append_right (by omega),hlk,List.getElem?_replicate]at hi2
    split at hi2
    ·rename_i hlt
     cases hi2
     rw[hz]at hj
     have hj0:j=0:=by
      have:=(Array.getElem?_eq_some_iff.1 hj).1
      simp at this;omega
     subst hj0
     rw[if_pos (by simp;omega),List.getElem?_replicate,if_pos (by omega)]
     simpa using hj
    ·cases hi2
  ·intro x hx
   rw[List.toList_toArray,cJ _ _ _ hle2]at hx
   rcases List.mem_append.1 hx with hx|hx
   ·rcases List.mem_append.1 hx with hx|hx
    ·exact qA x (List.mem_of_mem_take hx)
    ·rw[List.eq_of_mem_replicate hx];exact hz1
   ·exact qA x (List.mem_of_mem_drop hx)
theorem TM{id:Nat}{i p q r j:Nat}{t t1 t2 t3 t4:TypeId}{s1 s2 s3 s4:String}{a1 a2 a3 a4:Array Edge}{fr:List DV}{S:St}{Q:Exit→List DV→St→Prop}{l k:Nat}{xs:List DV}{kk:IntKind}{e by':Nat}{zd:Value}
 (hk:tk P t= .sl e 1 by' true) (hz:zD P e= .v zd) (hi:fr[i]? =some (.acc l xs.length)) (hj:fr[j]? =some (.v (.int kk k))) (hl:lk S.acc l=some (.arr 1 xs)) (hkx:k<xs.length)
 (hs:(decide (j≠i)&&decide (j≠p)&&decide (q≠p)&&decide (i≠p)&&decide (i≠q)&&decide (i≠r))=true) (hp:p<fr.length) (hq:q<fr.length) (hr:r<fr.length)
 (h:∀v u,Q .normal (((((fr.set i (.v v)).set p (.v v)).set q (.v (.int kk k))).set r (.v u)).set i (.acc l xs.length)) ⟨S.box,up S.acc l (.arr 1 (xs.take k++List.replicate (xs.length-k) (.v zd)))⟩):
 fW P w0 (.region id #[⟨some p,.move (.tmp i),t1,s1,a1,none⟩,⟨some q,.move (.tmp j),t2,s2,a2,none⟩,⟨some r,.slice t (.tmp p) (some (.tmp q)) none none,t3,s3,a3,none⟩,⟨none,.call ⟨.builtin .clear, #[.tmp r], #[t]⟩,t4,s4,a4,none⟩] false) fr S Q:=by
 simp only[Bool.and_eq_true,decide_eq_true_eq]at hs
 obtain⟨⟨⟨⟨⟨n1,n2⟩,n3⟩,n4⟩,n5⟩,n6⟩:=hs
 intro g a w h1 h2 h3
 have hilt:i<fr.length:=(List.getElem?_eq_some_iff.1 hi).1
 have hjlt:j<fr.length:=(List.getElem?_eq_some_iff.1 hj).1
 have hlen:fr.length=a.tmps.toList.length:=h2.len
 have hri:=h2.at_ i _ _ hi (List.getElem?_eq_getElem (by omega))
 obtain⟨v,hv⟩:∃v,v=a.tmps.toList[i]'(by omega):=⟨_,rfl⟩
 rw[←hv]at hri
 obtain⟨b,c,hval,hve⟩:∃b c,g.acc l xs.length=some (.slice (some ⟨b,0,none⟩) xs.length c)∧v= .slice (some ⟨b,0,none⟩) xs.length c∧xs.length≤c:=by
  obtain⟨ow,hO⟩:=h1.open_
  obtain⟨hs,⟨he,o2,ha⟩|⟨b',c0,cs,e0,q1,q2,q3,q4,q5,q6,q7,q8,qA,us,q9,q10,q11,q12⟩⟩:=hO.acc l _ (cz hl)
  ·rw[he]at hkx;simp at hkx
  ·refine⟨b',c0,q1,?_,q7⟩
   cases hri with
   |acc _ _ o c h=>rw[q1]at h;exact(Option.some.inj h).symm
 obtain⟨hve,hnc⟩:=hve
 let w1:W0:=⟨w0.w,g⟩
 have hsub:∀(g:Gh),g.sub g:=fun g=>⟨fun _ _ _ h=>h,fun _ _ _ h=>h,fun _ _ h=>h⟩
 have R1:Rel w1 g S w:=h1.av (w0':=w1) (ob:=g.obj) rfl h1.below.obj (hsub g)
 have ho:v.oneCell'=true:=by rw[hve];rfl
 have h2':aj g (fr.set i (.v v)) a.tmps.toList:=fp h2 (by rw[hv];exact List.getElem?_eq_getElem (by omega)) (.v _ ho)
 obtain⟨hu,hss,_,hei⟩:=eD hk
 obtain⟨ti,z,hii,hzz,hzs,hpos⟩:=cD hei
 have hsz:ti.size=1:=by simpa[Program.cellsOf,hii]using hss
 have hzD:zD P e=cv z:=by simp[zD,hii,hzz]
 have hzv:z=zd:=by
  have hr:=jq g z
  rw[←hzD,hz]at hr
  exact az hr
 have hz1:zd.oneCell'=true∧zd.cells= #[zd]:=by
  have hr:=jq g z
  rw[←hzD,hz]at hr
  have hone:=hr.one rfl
  rw[←hzv]
  rw[hsz]at hzs
  cases hr with
  |v _ h=>rw[hzv];exact⟨h,by cases zd <;>first|rfl|cases h⟩
 have hrun:=fun(w:World)=>(show(zeroValue e).run P w= .ok zd w by simp[zeroValue,typeInfo,hii,hzz,hzv])
 have hsize:∀w,(Go.sizeOf e).run P w= .ok 1 w:=fun w=>by simp[Go.sizeOf,typeInfo,hii,hsz]
 have g1:(fr.set i (.v v)).getD i ud= .v v:=by simp[List.getD_eq_getElem?_getD,hilt]
 have g2:((fr.set i (.v v)).set p (.v v)).getD j ud= .v (.int kk k):=by
  rw[List.getD_eq_getElem?_getD,List.getElem?_set_ne (fun e=>n2 e.symm),List.getElem?_set_ne (fun e=>n1 e.symm),hj];rfl
 have g3:(((fr.set i (.v v)).set p (.v v)).set q (.v (.int kk k))).getD p ud= .v v:=by
  rw[List.getD_eq_getElem?_getD,List.getElem?_set_ne n3,List.getElem?_set_self (by simpa using hp)];rfl
 have g4:(((fr.set i (.v v)).set p (.v v)).set q (.v (.int kk k))).getD q ud= .v (.int kk k):=by
  rw[List.getD_eq_getElem?_getD,List.getElem?_set_self (by simpa using hq)];rfl
 have g5:∀x,((((fr.set i (.v v)).set p (.v v)).set q (.v (.int kk k))).set r x).getD r ud=x:=fun x=>by
  rw[List.getD_eq_getElem?_getD,List.getElem?_set_self (by simpa using hr)];rfl
 have L:∀ops:Array Oper,Ba P w1 ops (fun fr' S'=>fr'[i]? =some (.v v)∧Q .normal (fr'.set i (.acc l xs.length)) S') [⟨some p,.move (.tmp i),t1,s1,a1,none⟩,⟨some q,.move (.tmp j),t2,s2,a2,none⟩,⟨some r,.slice t (.tmp p) (some (.tmp q)) none none,t3,s3,a3,none⟩,⟨none,.call ⟨.builtin .clear, #[.tmp r], #[t]⟩,t4,s4,a4,none⟩] (fr.set i (.v v)) S:=by
  intro ops
  refine Dt (P:=P) rfl ?_
  show Ba P w1 ops _ _ ((fr.set i (.v v)).set p ((fr.set i (.v v)).getD i ud)) S
  rw[g1]
  refine Dt (P:=P) rfl ?_
  show Ba P w1 ops _ _ (((fr.set i (.v v)).set p (.v v)).set q (((fr.set i (.v v)).set p (.v v)).getD j ud)) S
  rw[g2]
  show an P w1 _ _ S _
  intro ga wa ρ ra rb rc
  have hx:=rb (.tmp p) (by simp[Op.operands])
  have hy:=rb (.tmp q) (by simp[Op.operands])
  change aM ga ((((fr.set i (.v v)).set p (.v v)).set q (.v (.int kk k))).getD p ud) _ at hx
  change aM ga ((((fr.set i (.v v)).set p (.v v)).set q (.v (.int kk k))).getD q ud) _ at hy
  rw[g3]at hx
  rw[g4]at hy
  have hx:=az hx
  have hy:=az hy
  have hb:(Instr.sliceBounds true xs.length c (some (.int kk (k:Int))) none none).run P wa= .ok (k,xs.length,c) wa:=by
   have:(Instr.sliceBound (.int kk (k:Int)) xs.length .sliceB).run P wa= .ok k wa:=by
    have:=aB (P:=P) (k:=kk) (i:=(k:Int)) (y:=xs.length) (code:= .sliceB) (w:=wa) (by omega) (by omega)
    simpa using this
   simp[Instr.sliceBounds,this]
  have hck:¬c=k:=by omega
  have hrun3:(execOp ρ ⟨some r,.slice t (.tmp p) (some (.tmp q)) none none,t3,s3,a3,none⟩).run P wa= .ok (.value (.slice (some ⟨b,k,none⟩) (xs.length-k) (c-k))) wa:=by
   simp[execOp,hx,hve,Instr.sliceAt,Instr.slice,run_underlying hu,hy,hb,hsize,hck,Addr.add] <;>omega
  rw[hrun3]
  refine⟨ga,.v (.slice (some ⟨b,k,none⟩) (xs.length-k) (c-k)),S,.refl ga,ra,.v _ rfl,?_⟩
  show an P w1 _ _ S _
  intro gb wb ρ2 ra2 rb2 rc2
  have hx2:=rb2 (.tmp r) (by simp[Op.operands,Call.operands])
  change aM gb (((((fr.set i (.v v)).set p (.v v)).set q (.v (.int kk k))).set r _).getD r ud) _ at hx2
  rw[g5]at hx2
  have hx2:=az hx2
  obtain⟨w',e1,e2⟩:=Mz (P:=P) (ty:=t4) ra2 hl (ra2.below.kA.acc _ _ _ hval) hkx hu hrun hz1.2 hz1.1 (zd:= .v zd) (.v _ hz1.1) (c-k)
  have hrun4:(execOp ρ2 ⟨none,.call ⟨.builtin .clear, #[.tmp r], #[t]⟩,t4,s4,a4,none⟩).run P wb= .ok (.value (.tuple #[])) w':=by
   simp[execOp,resolve,invoke,builtin,hx2,e1]
  rw[hrun4]
  refine⟨gb,.any,_,.refl gb,e2,.any _,?_,h _ _⟩
  show(((((fr.set i (.v v)).set p (.v v)).set q (.v (.int kk k))).set r _)[i]? :Option DV)=_
  rw[List.getElem?_set_ne (fun e=>n6 e.symm),List.getElem?_set_ne (fun e=>n5 e.symm),List.getElem?_set_ne (fun e=>n4 e.symm),List.getElem?_set_self hilt]
 refine eM (jn fun ro=>lz (w0:=w1) (Q:=fun e fr' S'=>fr'[i]? =some (.v v)∧Q e (fr'.set i (.acc l xs.length)) S') _ _ S g a w (.refl g) R1 h2' h3 (L _)) ?_
 rintro e' a' w' ⟨hd,g',fr',S',k1,k2,k3,k5,k4⟩
 have hb0:w0.gh.sub g':=⟨fun _ _ _ h=>k2.below.kA.bS _ _ _ (h1.below.kA.bS _ _ _ h),fun _ _ _ h=>k2.below.kA.acc _ _ _ (h1.below.kA.acc _ _ _ h),fun _ _ h=>k2.below.kA.obj _ _ (h1.below.kA.obj _ _ h)⟩
 refine⟨hd,g',fr'.set i (.acc l xs.length),S',k1,k2.av (w0':=w0) (ob:=g'.obj) rfl k2.below.obj hb0,?_,k4⟩
 have hlt':i<a'.tmps.toList.length:=by rw[←k3.len];exact(List.getElem?_eq_some_iff.1 k5).1
 have hu':=List.getElem?_eq_getElem hlt'
 have hvi:=az (k3.at_ i _ _ k5 hu')
 refine fp k3 hu' ?_
 rw[hvi,hve]
 exact .acc _ _ _ _ (k1.acc _ _ _ hval)
end
end Aml
namespace Aml
open Go Go.RowKit
inductive Tr where
 |leaf|head (t:Tr)|snd (t:Tr)|both (t u:Tr)
def Vp(P:Program)(w0:W0)(K:List DV→St→Prop):Tr→List Oper→List DV→St→Prop
 | .leaf,[],fr,S=>K fr S
 | .head t,o::r,fr,S=>aJ P w0 o.op fr S fun d S'=>Vp P w0 K t r (pt fr o.dst d) S'
 | .snd t,p::o::r,fr,S=>aJ P w0 o.op fr S fun d S'=>Vp P w0 K t (p::r) (pt fr o.dst d) S'
 | .both t u,p::o::r,fr,S=>(aJ P w0 p.op fr S fun d S'=>Vp P w0 K t (o::r) (pt fr p.dst d) S')∧aJ P w0 o.op fr S fun d S'=>Vp P w0 K u (p::r) (pt fr o.dst d) S'
 |_,_,_,_=>False
section
variable {P:Program} {w0:W0}
section
variable {K:List DV→St→Prop} {fr:List DV} {S:St} {t u:Tr} {o p:Oper} {r:List Oper} {dst dst2:Option Tmp} {op op2:Op} {ty ty2:TypeId} {pos pos2:String} {aft aft2:Array Edge}
@[congr] theorem ZR {fr':List DV} {S':St} (h1:fr=fr') (h2:S=S'):Vp P w0 K t r fr S=Vp P w0 K t r fr' S':=by cases h1;cases h2;rfl
end
end
end Aml
namespace Aml
open Go Go.RowKit
section
variable {P:Program} {w0:W0}
theorem M4{o:Oper}{ρD:Operand→DV}{S:St}{r:DV}(h:an P w0 o ρD S fun d S'=>shr S' d fun d' S''=>d'=r∧Sub S S''):an P w0 o ρD S fun d S'=>d=r∧S'=S:=by
 intro g w ρ h1 h2 hcst
 have:=h g w ρ h1 h2 hcst
 split at this
 ·obtain⟨g',d,S',a,b,c,e⟩:=this
  obtain⟨g2,d2,S2,q1,q2,q3,q4,q5⟩:=mG b c e
  exact⟨g2,d2,S,a.trans q1,q2.forget q5.box q5.acc,q3,q4,rfl⟩
 ·obtain⟨g',S',a,b,e⟩:=this
  have e:ud=r∧Sub S S':=e
  exact⟨g',S,a,b.forget e.2.box e.2.acc,e.1,rfl⟩
 ·refine this.mono ?_
  rintro e w'' ⟨r',g',d,S',a,b,c,x,y⟩
  obtain⟨g2,d2,S2,q1,q2,q3,q4,q5⟩:=mG c x y
  exact⟨r',g2,d2,S,a,b.trans q1,q2.forget q5.box q5.acc,q3,q4,rfl⟩
 ·refine fun ro=>(this ro).mono ?_
  rintro e w'' ⟨r',g',d,S',a,b,c,x,y⟩
  obtain⟨g2,d2,S2,q1,q2,q3,q4,q5⟩:=mG c x y
  exact⟨r',g2,d2,S,a,b.trans q1,q2.forget q5.box q5.acc,q3,q4,rfl⟩
 ·exact this
def uJ(k:TK)(z x y:DV)(K:DV→Prop):Prop:=match k,x,y with
 | .sl _ s by' true,.v (.int _ n),.v (.int _ m)=>eK z=true∧0≤n∧n≤m∧m*by'≤140737488355328∧m≤9223372036854775807∧K (.sl s false (List.replicate n.toNat z))
 |_,_,_=>False
def ur(a b ke:TK)(x:DV)(K:DV→Prop):Prop:=match a,b,x with
 | .sl _ _ _ _,.str,.sl s _ xs=>ke= .int .u8∧s=1∧pn xs=true∧K (.v (.string (strOfNums (yX xs))))
 |a,b,x=>iW a b x K
def BW(P:Program)(w0:W0)(op:Op)(fr:List DV)(S:St)(K:DV→Prop):Prop:=match op with
 | .makeSlice t x y=>uJ (tk P t) (zD P (dJ P t)) (ev fr x) (ev fr y) K
 | .convert s d x=>ur (tk P s) (tk P d) (tk P (dJ P s)) (ev fr x) K
 |op=>aF P w0 op fr S K
def Wb:Op→Bool
 | .makeSlice ..=>true
 |op=>qg op
def LZ(P:Program)(w0:W0)(S:St)(ops:Array Oper)(K:List DV→St→Prop):List Oper→List DV→Prop
 |[],fr=>K fr S
 |o::rest,fr=>eO (Wb o.op) (cj ops fr o.guard (fun fr=>BW P w0 o.op fr S fun d=>LZ P w0 S ops K rest (pt fr o.dst d)) (fun fr=>LZ P w0 S ops K rest (pt fr o.dst ud))) (yD P w0 ops K (o::rest) fr S)
theorem wN{o:Oper}{fr:List DV}{S:St}{K:DV→Prop}(hs:hJ o.op=true)(h:BW P w0 o.op fr S K):∃d,QY P w0 S o fr d∧K d:=by
 cases hop:o.op with
 |makeSlice t x y=>
  rw[hop]at h
  simp only[BW,uJ]at h
  split at h
  ·rename_i e s by' k1 n k2 m hk hx hy
   obtain⟨q1,q2,q3,q4,q5,q6⟩:=h
   refine⟨_,M4 (rF hop ?_),q6⟩
   rw[hk,hx,hy]
   refine⟨q1,q2,q3,q4,q5,fun l hl=>?_⟩
   show shr _ _ _
   unfold shr nw
   simp only[lk,if_true,List.length_replicate,true_and]
   exact⟨List.Sublist.refl _,by show List.Sublist S.acc (up _ _ _);simp only[up,if_true];exact List.sublist_cons_self _ _⟩
  ·exact h.elim
 |convert s d x=>
  rw[hop]at h hs
  simp only[BW,ur]at h
  split at h
  ·rename_i e c b i s0 f xs hk hd hx
   obtain⟨q1,q2,q3,q4⟩:=h
   refine⟨_,Fe (K:=fun d S'=>d=_∧S'=S) hop ?_,q4⟩
   rw[hk,hd,hx]
   exact⟨q1,rfl,q2,q3,rfl,rfl⟩
  ·exact jU (by rw[hop];exact hs) (by rw[hop];exact h)
 |_=>rw[hop]at h hs;exact jU (by rw[hop];exact hs) (by rw[hop];exact h)
section
variable {ops:Array Oper} {K:List DV→St→Prop} {K2:DV→Prop} {fr:List DV} {S:St} {r:List Oper} {dst:Option Tmp} {op:Op} {ty:TypeId} {pos:String} {aft:Array Edge}
@[congr] theorem aa5 {fr':List DV} (h1:fr=fr'):LZ P w0 S ops K r fr=LZ P w0 S ops K r fr':=by cases h1;rfl
@[congr] theorem ZQ {fr':List DV} (h1:fr=fr'):BW P w0 op fr S K2=BW P w0 op fr' S K2:=by cases h1;rfl
@[congr] theorem Xy {k k':TK} {z z' x x' y y':DV} (h1:k=k') (h2:z=z') (h3:x=x') (h4:y=y'):uJ k z x y K2=uJ k' z' x' y' K2:=by cases h1;cases h2;cases h3;cases h4;rfl
@[congr] theorem Xs {k k' q q' ke ke':TK} {x x':DV} (h1:k=k') (h2:q=q') (h3:ke=ke') (h4:x=x'):ur k q ke x K2=ur k' q' ke' x' K2:=by cases h1;cases h2;cases h3;cases h4;rfl
end
end
attribute [go_sem] Wb
end Aml
namespace Aml.Z
open Go Go.RowKit
def kX:Op→Nat
 | .load ..=>1
 | .alloc _=>2
 | .call c=>match c.callee with
  | .value _=>1
  | .builtin .len=>0
  | .builtin .cap=>0
  | .builtin .min=>0
  | .builtin .max=>0
  |_=>3
 | .move _=>0
 | .assign _=>0
 | .pick ..=>0
 | .fieldAddr ..=>0
 | .indexAddr ..=>0
 | .index ..=>0
 | .field ..=>0
 | .extract ..=>0
 | .nilCheck _=>0
 | .binOp ..=>0
 | .unOp ..=>0
 | .convert ..=>0
 | .makeInterface ..=>0
 | .makeFunc ..=>0
 | .slice ..=>0
 | .build ..=>0
 | .buildSlice ..=>0
 | .makeSlice ..=>0
 |_=>3
def Fr(S:St)(B:List (Nat×List DV)):Prop:=∀x,x∈B→iX S.box x.1
def fi(P:Program)(w0:W0)(o:Oper)(fr:List DV)(S:St)(K:List DV→St→Prop):Prop:=
 (kX o.op=0∧∃d,(∀S',QY P w0 S' o fr d)∧K (pt fr o.dst d) S)∨
 (kX o.op=1∧∃d,(∀B,Fr S B→QY P w0 ⟨B++S.box,S.acc⟩ o fr d)∧K (pt fr o.dst d) S)∨
 (kX o.op=2∧∃t,o.op= .alloc t∧eK (zD P t)=true∧∀b,iX S.box b→K (pt fr o.dst (.v (.pointer (some ⟨b,0,none⟩)))) ⟨(b,cd (zD P t))::S.box,S.acc⟩)∨
 (kX o.op=3∧an P w0 o (ev fr) S fun d S'=>K (pt fr o.dst d) S')
def fA(P:Program)(w0:W0)(ops:Array Oper)(o:Oper)(fr:List DV)(S:St)(K:List DV→St→Prop):Prop:=
 (dz ops fr o.guard=some true∧fi P w0 o fr S K)∨(dz ops fr o.guard=some false∧K (pt fr o.dst ud) S)
def mZ(a b:Nat):Bool:=a==0||(a==1&&decide (b<3))
section
variable {P:Program} {w0:W0} {ops:Array Oper} {md:Region.Mode}
theorem jN{o:Oper}{fr:List DV}{S:St}{K K':List DV→St→Prop}(h:∀fr S,K fr S→K' fr S)(b:fi P w0 o fr S K):fi P w0 o fr S K':=by
 rcases b with⟨c,d,q,k⟩|⟨c,d,q,k⟩|⟨c,t,ht,hz,k⟩|⟨c,q⟩
 ·exact .inl ⟨c,d,q,h _ _ k⟩
 ·exact .inr (.inl ⟨c,d,q,h _ _ k⟩)
 ·exact .inr (.inr (.inl ⟨c,t,ht,hz,fun b hb=>h _ _ (k b hb)⟩))
 ·exact .inr (.inr (.inr ⟨c,aS (fun d S hk=>h _ _ hk) q⟩))
theorem gZ{o:Oper}{fr:List DV}{S:St}{K K':List DV→St→Prop}(h:∀fr S,K fr S→K' fr S)(b:fA P w0 ops o fr S K):fA P w0 ops o fr S K':=
 b.imp (fun⟨a,b⟩=>⟨a,jN h b⟩) fun⟨a,b⟩=>⟨a,h _ _ b⟩
theorem rh{o:Oper}{fr:List DV}{S:St}{K:List DV→St→Prop}{dst:Option Tmp}{e:DV}(h1:∀t,dst=some t→t∉o.looksAt ops)(h2:∀t,dst=some t→o.dst≠some t):
 fi P w0 o (pt fr dst e) S K↔fi P w0 o fr S fun fr' S'=>K (pt fr' dst e) S':=by
 have hq:∀S d,QY P w0 S o (pt fr dst e) d↔QY P w0 S o fr d:=fun S d=>
  ⟨aQ (fun x hx=>fb (ops:=ops) h1 x hx),aQ (fun x hx=>(fb (ops:=ops) h1 x hx).symm)⟩
 have hc:∀d,pt (pt fr dst e) o.dst d=pt (pt fr o.dst d) dst e:=fun d=>jV fr e d h2
 have hy:∀K,an P w0 o (ev (pt fr dst e)) S K↔an P w0 o (ev fr) S K:=fun K=>
  ⟨aQ (fun x hx=>fb (ops:=ops) h1 x hx),aQ (fun x hx=>(fb (ops:=ops) h1 x hx).symm)⟩
 unfold fi
 simp only[hq,hc,hy]
theorem jG{o:Oper}{fr:List DV}{S:St}{K:List DV→St→Prop}{dst:Option Tmp}{e:DV}(h1:∀t,dst=some t→t∉o.looksAt ops)(h2:∀t,dst=some t→o.dst≠some t):
 fA P w0 ops o (pt fr dst e) S K↔fA P w0 ops o fr S fun fr' S'=>K (pt fr' dst e) S':=by
 unfold fA
 rw[ix h1,rh h1 h2,jV fr e ud h2]
theorem mS{o:Oper}{fr:List DV}{S:St}{K K':List DV→St→Prop}(h:∀e S,K (pt fr o.dst e) S→K' (pt fr o.dst e) S)(b:fi P w0 o fr S K):fi P w0 o fr S K':=by
 rcases b with⟨c,d,q,k⟩|⟨c,d,q,k⟩|⟨c,t,ht,hz,k⟩|⟨c,q⟩
 ·exact .inl ⟨c,d,q,h _ _ k⟩
 ·exact .inr (.inl ⟨c,d,q,h _ _ k⟩)
 ·exact .inr (.inr (.inl ⟨c,t,ht,hz,fun b hb=>h _ _ (k b hb)⟩))
 ·exact .inr (.inr (.inr ⟨c,aS (fun d S hk=>h _ _ hk) q⟩))
theorem jA{o:Oper}{fr:List DV}{S:St}{K K':List DV→St→Prop}(h:∀e S,K (pt fr o.dst e) S→K' (pt fr o.dst e) S)(b:fA P w0 ops o fr S K):fA P w0 ops o fr S K':=
 b.imp (fun⟨a,b⟩=>⟨a,mS h b⟩) fun⟨a,b⟩=>⟨a,h _ _ b⟩
theorem qP{x y:Oper}(hap:x.apart ops y=true)(hk:mZ (kX x.op) (kX y.op)=true){fr:List DV}{S:St}{K:List DV→St→Prop}(h:fA P w0 ops x fr S fun fr S=>fA P w0 ops y fr S K):
 fA P w0 ops y fr S fun fr S=>fA P w0 ops x fr S K:=by
 obtain⟨b1,b2,b3⟩:=Oper.apart_spec hap
 have hw:∀e,dz ops (pt fr y.dst e) x.guard=dz ops fr x.guard:=fun e=>ix b3
 have hq:∀{S d e},QY P w0 S x fr d→QY P w0 S x (pt fr y.dst e) d:=fun{S d e} q=>aQ (fun z hz=>(fb (ops:=ops) b3 z hz).symm) q
 rcases h with⟨hg,hb⟩|⟨hg,hb⟩
 ·rcases hb with⟨c,d,q,k⟩|⟨c,d,q,k⟩|⟨c, -⟩|⟨c, -⟩
  ·rw[jG b1 b2]at k
   exact jA (fun e S' hk=> .inl ⟨by rw[hw];exact hg,.inl ⟨c,d,fun S''=>hq (q S''),hk⟩⟩) k
  ·rw[jG b1 b2]at k
   rcases k with⟨g2,k⟩|⟨g2,k⟩
   ·rcases k with⟨c2,d2,q2,k⟩|⟨c2,d2,q2,k⟩|⟨c2,t,ht,hz,k⟩|⟨c2, -⟩
    ·exact .inl ⟨g2,.inl ⟨c2,d2,q2,.inl ⟨by rw[hw];exact hg,.inr (.inl ⟨c,d,fun B hB=>hq (q B hB),k⟩)⟩⟩⟩
    ·exact .inl ⟨g2,.inr (.inl ⟨c2,d2,q2,.inl ⟨by rw[hw];exact hg,.inr (.inl ⟨c,d,fun B hB=>hq (q B hB),k⟩)⟩⟩)⟩
    ·refine .inl ⟨g2,.inr (.inr (.inl ⟨c2,t,ht,hz,fun b hb=> .inl ⟨by rw[hw];exact hg,.inr (.inl ⟨c,d,fun B hB=>hq ?_,k b hb⟩)⟩⟩))⟩
     have:=q (B++[(b,cd (zD P t))]) fun z hz'=>by
      rcases List.mem_append.1 hz' with h|h
      ·exact(hB z h).2.2
      ·simp only[List.mem_singleton]at h;subst h;exact hb
     rw[List.append_assoc]at this
     exact this
    ·rw[c,c2]at hk;exact absurd hk (by decide)
   ·exact .inr ⟨g2,.inl ⟨by rw[hw];exact hg,.inr (.inl ⟨c,d,fun B hB=>hq (q B hB),k⟩)⟩⟩
  ·rw[c]at hk;simp[mZ]at hk
  ·rw[c]at hk;simp[mZ]at hk
 ·rw[jG b1 b2]at hb
  exact jA (fun e S' hk=> .inr ⟨by rw[hw];exact hg,hk⟩) hb
def lh(P:Program)(w0:W0)(ops:Array Oper)(i:Nat)(fr:List DV)(S:St)(K:List DV→St→Prop):Prop:=match ops[i]? with
 |none=>K fr S
 |some o=>fA P w0 ops o fr S K
def IC(P:Program)(w0:W0)(md:Region.Mode)(ops:Array Oper)(K:List DV→St→Prop):Nat→Array Bool→List DV→St→Prop
 |0,listed,fr,S=>Region.ready md ops listed=[]∧K fr S
 |fuel+1,listed,fr,S=>(Region.ready md ops listed=[]→K fr S)∧∀i∈Region.ready md ops listed,lh P w0 ops i fr S (IC P w0 md ops K fuel (listed.setIfInBounds i true))
theorem qL{K:List DV→St→Prop}{i:Nat}{oi:Oper}(hi:ops[i]? =some oi):
 ∀(fuel:Nat) (listed:Array Bool) (fr:List DV) (S:St),
  (∀j oj,ops[j]? =some oj→j≠i→listed.getD j true=false→(∀e∈oj.after,Region.binds md e=true→e.on≠i)→oi.apart ops oj=true∧mZ (kX oi.op) (kX oj.op)=true)→
  (∀l:List Nat,l.Nodup→(∀k,k∈l→listed.getD k true=false)→l.length≤fuel+1)→
  i∈Region.ready md ops listed→fA P w0 ops oi fr S (IC P w0 md ops K fuel (listed.setIfInBounds i true))→IC P w0 md ops K (fuel+1) listed fr S:=by
 intro fuel
 induction fuel with
 |zero=>
  intro listed fr S _ hcnt hr H
  refine⟨fun h=>(by rw[h]at hr;cases hr),fun j hj=>?_⟩
  by_cases hji:j=i
  ·subst hji;unfold lh;simp only[hi];exact H
  ·exfalso
   have:=hcnt [i,j] (by simp[Ne.symm hji]) fun k hk=>by
    simp only[List.mem_cons,List.not_mem_nil,or_false]at hk
    rcases hk with rfl|rfl
    ·exact(mem_ready.1 hr).1
    ·exact(mem_ready.1 hj).1
   simp at this
 |succ fuel ih=>
  intro listed fr S hfree hcnt hr H
  refine⟨fun h=>(by rw[h]at hr;cases hr),fun j hj=>?_⟩
  by_cases hji:j=i
  ·subst hji;unfold lh;simp only[hi];exact H
  ·obtain⟨hjun,oj,hoj,hall⟩:=mem_ready.1 hj
   have hnot:∀e∈oj.after,Region.binds md e=true→e.on≠i:=fun e he hb heq=>by
    have h1:=hall e he hb
    have h0:=(mem_ready.1 hr).1
    rw[heq]at h1
    rcases Nat.lt_or_ge i listed.size with h'|h'
    ·simp[h']at h0 h1;rw[h0]at h1;cases h1
    ·simp[Array.getElem?_eq_none h']at h1
   have h1:fA P w0 ops oi fr S fun fr S=>fA P w0 ops oj fr S (IC P w0 md ops K fuel ((listed.setIfInBounds i true).setIfInBounds j true)):=
    gZ (fun fr S h=>by
     have:=h.2 j (ready_mono hj hji)
     unfold lh at this;simp only[hoj]at this;exact this) H
   have hc:=hfree j oj hoj hji hjun hnot
   have h2:=qP hc.1 hc.2 h1
   have hfree':∀k ok,ops[k]? =some ok→k≠i→(listed.setIfInBounds j true).getD k true=false→
    (∀e∈ok.after,Region.binds md e=true→e.on≠i)→oi.apart ops ok=true∧mZ (kX oi.op) (kX ok.op)=true:=fun k ok hk hki hun hno=>by
    refine hfree k ok hk hki ?_ hno
    by_cases hjk:j=k
    ·subst hjk;exact hjun
    ·rw[getD_set_ne true hjk]at hun;exact hun
   unfold lh
   simp only[hoj]
   have hcnt':∀l:List Nat,l.Nodup→(∀k,k∈l→(listed.setIfInBounds j true).getD k true=false)→l.length≤fuel+1:=by
    intro l hn hl
    have hjs:j<listed.size:=by
     rcases Nat.lt_or_ge j listed.size with h|h
     ·exact h
     ·rw[Array.getD_eq_getD_getElem?,Array.getElem?_eq_none h]at hjun;cases hjun
    have hjl:j∉l:=fun hj=>by
     have:=hl j hj
     rw[Array.getD_eq_getD_getElem?,Array.getElem?_setIfInBounds]at this
     simp[hjs]at this
    have:=hcnt (j::l) (List.nodup_cons.2 ⟨hjl,hn⟩) fun k hk=>by
     rcases List.mem_cons.1 hk with rfl|hk
     ·exact hjun
     ·have:=hl k hk
      rw[getD_set_ne true (show j≠k from fun e=>hjl (e▸hk))]at this
      exact this
    simp at this;omega
   refine gZ (fun fr S h=>ih (listed.setIfInBounds j true) fr S hfree' hcnt' (ready_mono hr (Ne.symm hji)) ?_) h2
   rw[Array.setIfInBounds_comm _ _ hji]
   exact h
def Bz(md:Region.Mode)(ops:Array Oper)(listed:Array Bool)(i:Nat):Bool:=(List.range ops.size).all fun j=>match ops[i]?,ops[j]? with
 |some oi,some oj=>j==i||listed.getD j true||oj.after.any (fun e=>Region.binds md e&&e.on==i)||(oi.apart ops oj&&mZ (kX oi.op) (kX oj.op))
 |_,_=>false
def qK(md:Region.Mode)(ops:Array Oper):Nat→Nat→Array Bool→Bool
 |0,_,listed=>(Region.ready md ops listed).isEmpty
 |n+1,k,listed=>(Region.ready md ops listed).contains k&&Bz md ops listed k&&qK md ops n (k+1) (listed.setIfInBounds k true)
theorem oB{listed:Array Bool}{i:Nat}{oi:Oper}(hi:ops[i]? =some oi)(h:Bz md ops listed i=true):∀j oj,ops[j]? =some oj→j≠i→listed.getD j true=false→(∀e∈oj.after,Region.binds md e=true→e.on≠i)→oi.apart ops oj=true∧mZ (kX oi.op) (kX oj.op)=true:=by
 intro j oj hj hji hun hno
 have hlt:j<ops.size:=(Array.getElem?_eq_some_iff.1 hj).1
 have:=List.all_eq_true.1 h j (List.mem_range.2 hlt)
 simp only[hi,hj,hun,Bool.or_false,Bool.or_eq_true,beq_iff_eq,Bool.and_eq_true]at this
 rcases this with(h|h)|h
 ·exact absurd h hji
 ·exfalso
  obtain⟨e,he,h⟩:=Array.any_eq_true'.1 h
  simp only[Bool.and_eq_true,beq_iff_eq]at h
  exact hno e he h.1 h.2
 ·exact h
def LX(P:Program)(w0:W0)(ops:Array Oper)(K:List DV→St→Prop):List Oper→List DV→St→Prop
 |[],fr,S=>K fr S
 |o::rest,fr,S=>fA P w0 ops o fr S (LX P w0 ops K rest)
theorem oZ{K:List DV→St→Prop}:∀(l:List Oper) (k:Nat) (listed:Array Bool) (fr:List DV) (S:St),(∀j,l[j]? =ops[k+j]?)→
 (∀l':List Nat,l'.Nodup→(∀k,k∈l'→listed.getD k true=false)→l'.length≤l.length)→
 qK md ops l.length k listed=true→LX P w0 ops K l fr S→IC P w0 md ops K l.length listed fr S
 |[],_,_,_,_,_,_,hB,h=>⟨by simpa[qK]using hB,h⟩
 |o::l,k,listed,fr,S,hl,hcnt,hB,h=>by
  have h0:ops[k]? =some o:=by simpa using(hl 0).symm
  simp only[List.length_cons,qK,Bool.and_eq_true]at hB
  obtain⟨⟨hr,hf⟩,hB'⟩:=hB
  have hr':k∈Region.ready md ops listed:=by simpa using hr
  have hun:=(mem_ready.1 hr').1
  refine qL h0 l.length listed fr S (oB h0 hf) (by simpa using hcnt) hr' ?_
  refine gZ (fun fr S h=>oZ l (k+1) _ fr S (fun j=>by have:=hl (j+1);simpa[Nat.add_assoc,Nat.add_comm 1 j]using this) ?_ hB' h) h
  intro l' hn hl'
  have hks:k<listed.size:=by
   rcases Nat.lt_or_ge k listed.size with h|h
   ·exact h
   ·rw[Array.getD_eq_getD_getElem?,Array.getElem?_eq_none h]at hun;cases hun
  have hkl:k∉l':=fun hk=>by
   have:=hl' k hk
   rw[Array.getD_eq_getD_getElem?,Array.getElem?_setIfInBounds]at this
   simp[hks]at this
  have:=hcnt (k::l') (List.nodup_cons.2 ⟨hkl,hn⟩) fun m hm=>by
   rcases List.mem_cons.1 hm with rfl|hm
   ·exact hun
   ·have:=hl' m hm
    rw[getD_set_ne true (show k≠m from fun e=>hkl (e▸hm))]at this
    exact this
  simp at this;omega
theorem l6{o:Oper}{fr:List DV}{S:St}{K:List DV→St→Prop}(h:fi P w0 o fr S K):an P w0 o (ev fr) S fun d S'=>K (pt fr o.dst d) S':=by
 rcases h with⟨c,d,q,k⟩|⟨c,d,q,k⟩|⟨c,t,ht,hz,k⟩|⟨c,q⟩
 ·exact aS (fun d' S' h=>by rw[h.1,h.2];exact k) (q S)
 ·have:=q [] (fun x hx=>by cases hx)
  exact aS (fun d' S' h=>by rw[h.1,h.2];exact k) this
 ·exact sn ht ⟨hz,k⟩
 ·exact q
theorem eG{ro:Option Nat}{g0:Gh}{Q:Exit→List DV→St→Prop}:∀(fuel:Nat) (listed:Array Bool) (fr:List DV) (S:St) (g:Gh) (a:Act) (w:World),g0.le g→Rel w0 g S w→aj g fr a.tmps.toList→Dk w0 g.obj a w→
 IC P w0 md ops (fun fr S=>Q .normal fr S) fuel listed fr S→wpAnyIn (fz ro) 0 P md ops (Good w0 g0 Q) fuel listed a w
 |0,listed,fr,S,g,a,w,k,h1,h2,h3,h=>⟨h.1,k.kd h3,g,fr,S,k,h1,h2,h.2⟩
 |fuel+1,listed,fr,S,g,a,w,k,h1,h2,h3,h=>by
  refine⟨fun h0=>⟨k.kd h3,g,fr,S,k,h1,h2,h.1 h0⟩,fun i hi=>?_⟩
  have hq:=h.2 i hi
  unfold lh at hq
  unfold wpOpIn
  split
  ·rename_i ho;simp only[ho]at hq;exact eG fuel _ fr S g a w k h1 h2 h3 hq
  ·rename_i o ho
   simp only[ho]at hq
   rcases hq with⟨hw,hb⟩|⟨hw,hk⟩
   ·have hw':=eE (o:=o) h2 hw
    rw[if_pos hw']
    refine dQ (l6 hb) h1 (fun x _=>nr h2 x) h3 fun g' d' u S' w' k1 k2 k3 k4 k5=>?_
    exact eG fuel _ _ _ g' _ _ (k.trans k1) k2 (dq (h2.mono k1) _ k3) (k1.dk k5) k4
   ·have hw':=eE (o:=o) h2 hw
    rw[if_neg (by simp[hw'])]
    exact⟨fun _ _=>trivial,eG fuel _ _ _ g _ _ k h1 (dq h2 _ (jL g)) (h3.keep (put_defers _ _ _) fun _ _ h _=>h) hk⟩
theorem qS{id:Nat}{l:List Oper}{fr:List DV}{S:St}{Q:Exit→List DV→St→Prop}(hm:P.follows .mixedOrders=true)(hB:qK .any l.toArray l.length 0 (Array.replicate l.length false)=true)(h:LX P w0 l.toArray (fun fr S=>Q .normal fr S) l fr S):fW P w0 (.region id l.toArray true) fr S Q:=by
 intro g a w h1 h2 h3
 refine gx hm fun ro=>?_
 have hR:Rel w0 g S {w with drawn:=w.drawn+1}:=h1.grow (l5 w)
 have hcnt:∀l':List Nat,l'.Nodup→(∀k,k∈l'→(Array.replicate l.length false).getD k true=false)→l'.length≤l.length:=by
  intro l' hn hl
  have hsub:∀k,k∈l'→k∈List.range l.length:=fun k hk=>by
   have:=hl k hk
   rw[List.mem_range]
   rcases Nat.lt_or_ge k l.length with h|h
   ·exact h
   ·rw[Array.getD_eq_getD_getElem?,Array.getElem?_eq_none (by simpa using h)]at this;cases this
  have:=hn.length_le_of_subset (l₂:=List.range l.length) hsub
  simpa using this
 have:=oZ (P:=P) (w0:=w0) (md:= .any) (ops:=l.toArray) l 0 (Array.replicate l.length false) fr S (by simp) hcnt hB h
 have:=eG (ro:=ro) (g0:=g) (Q:=Q) _ _ fr S g a _ (.refl g) hR h2 (h3.keep rfl fun _ _ h _=>h) this
 simpa using this
theorem pL{op:Op}(hk:kX op=0){fr:List DV}{S:St}{K:DV→Prop}(h:aF P w0 op fr S K):∃d,(∀S',aF P w0 op fr S' (·=d))∧K d:=by
 cases op with
 |move x=>exact⟨_,fun _=>rfl,h⟩
 |assign x=>exact⟨_,fun _=>rfl,h⟩
 |pick c a b=>obtain⟨d,q1,q2⟩:=tQ h;exact⟨d,fun _=>q1,q2⟩
 |fieldAddr t x f=>obtain⟨d,q1,q2⟩:=qG h;exact⟨d,fun _=>q1,q2⟩
 |indexAddr t x i=>obtain⟨d,q1,q2⟩:=ES h;exact⟨d,fun _=>q1,q2⟩
 |index t x i=>obtain⟨d,q1,q2⟩:=qI h;exact⟨d,fun _=>q1,q2⟩
 |field t x f=>obtain⟨d,q1,q2⟩:=ou h;exact⟨d,fun _=>q1,q2⟩
 |extract x i=>obtain⟨d,q1,q2⟩:=np h;exact⟨d,fun _=>q1,q2⟩
 |nilCheck x=>exact⟨_,fun _=>⟨h.1,rfl⟩,h.2⟩
 |binOp b t x y t'=>obtain⟨d,q1,q2⟩:=tM h.2;exact⟨d,fun _=>⟨h.1,q1⟩,q2⟩
 |unOp b t x=>obtain⟨d,q1,q2⟩:=B7 h;exact⟨d,fun _=>q1,q2⟩
 |convert s d x=>obtain⟨d,q1,q2⟩:=ui h;exact⟨d,fun _=>q1,q2⟩
 |makeInterface t x=>exact⟨_,fun _=>⟨h.1,h.2.1,rfl⟩,h.2.2⟩
 |makeFunc fn a b=>obtain⟨d,q1,q2⟩:=tT h;exact⟨d,fun _=>q1,q2⟩
 |slice t x lo hi mx=>obtain⟨d,q1,q2⟩:=qV h.2.2;exact⟨d,fun _=>⟨h.1,h.2.1,q1⟩,q2⟩
 |build t parts=>obtain⟨d,q1,q2⟩:=qm h.2;exact⟨d,fun _=>⟨h.1,q1⟩,q2⟩
 |buildSlice t len parts=>obtain⟨d,q1,q2⟩:=jB h.2;exact⟨d,fun _=>⟨h.1,q1⟩,q2⟩
 |call c=>
  obtain⟨callee,args,ts⟩:=c
  simp only[aF]at h ⊢
  split at h
  ·split at h
   ·obtain⟨d,q1,q2⟩:=yu h
    exact⟨d,fun _=>by simpa using q1,q2⟩
   ·exact h.elim
  ·split at h
   ·obtain⟨d,q1,q2⟩:=xZ h
    exact⟨d,fun _=>by simpa using q1,q2⟩
   ·exact h.elim
  ·split at h
   ·obtain⟨d,q1,q2⟩:=yM h
    exact⟨d,fun _=>by simpa using q1,q2⟩
   ·exact h.elim
  ·split at h
   ·obtain⟨d,q1,q2⟩:=yk h
    exact⟨d,fun _=>by simpa using q1,q2⟩
   ·exact h.elim
  ·cases hk
  ·cases hk
  ·exact h.elim
 |_=>first|exact h.elim|cases hk
theorem wP{op:Op}(hk:kX op=0){fr:List DV}{S:St}{K:DV→Prop}(h:BW P w0 op fr S K):∃d,(∀S',BW P w0 op fr S' (·=d))∧K d:=by
 cases op with
 |makeSlice t x y=>
  simp only[BW,uJ]at h ⊢
  split at h
  ·obtain⟨q1,q2,q3,q4,q5,q6⟩:=h
   exact⟨_,fun _=>⟨q1,q2,q3,q4,q5,rfl⟩,q6⟩
  ·exact h.elim
 |convert s d x=>
  simp only[BW]at h ⊢
  unfold ur at h ⊢
  split at h
  ·obtain⟨q1,q2,q3,q4⟩:=h
   exact⟨_,fun _=>⟨q1,q2,q3,rfl⟩,q4⟩
  ·obtain⟨dd,p1,p2⟩:=pL (P:=P) (w0:=w0) (op:= .convert s d x) (fr:=fr) (S:=S) (K:=K) rfl h
   exact⟨dd,p1,p2⟩
 |_=>exact pL (P:=P) (w0:=w0) (S:=S) (fr:=fr) hk h
theorem CI{S:St}{B:List (Nat×List DV)}(hB:Fr S B){b:Nat}{ds:List DV}(h:lk S.box b=some ds):lk (B++S.box) b=some ds:=by
 induction B with
 |nil=>exact h
 |cons x B ih=>
  have h1:=hB x List.mem_cons_self
  have hne:¬x.1=b:=fun e=>by rw[e]at h1;rw[ng h1]at h;cases h
  obtain⟨k,y⟩:=x
  show lk ((k,y)::(B++S.box)) b=_
  rw[pQ hne]
  exact ih fun z hz=>hB z (List.mem_cons_of_mem _ hz)
theorem tO{k:TK}{S:St}{x:DV}{K:DV→Prop}{B:List (Nat×List DV)}(hB:Fr S B)(h:bR k S x K):bR k ⟨B++S.box,S.acc⟩ x K:=by
 unfold bR at*
 split at h
 ·split at h
  ·rename_i ds hb
   simp only[CI hB hb]
   exact h
  ·exact h.elim
 ·exact h
 ·exact h
 ·exact h.elim
end
def QX(P:Program)(w0:W0)(f:FuncId)(ds:List DV)(S:St)[K:Cn (DV→Prop)]:Prop:=∃d,(∀B,Fr S B→aa P w0 f ds ⟨B++S.box,S.acc⟩ fun d' S'=>d'=d∧S'=⟨B++S.box,S.acc⟩)∧K.k d
def ib(P:Program)(w0:W0)(cal:DV)(ds:List DV)(S:St)(K:DV→Prop):Prop:=match cal with
 | .v (.func (.func f) a cap)=>a.size=0∧okF P f=true∧cap.toList.all (fun u=>u.oneCell')=true∧ds.all gu=true∧@QX P w0 f (ds++cap.toList.map .v) S ⟨K⟩
 |_=>False
def nT(P:Program)(w0:W0)(op:Op)(fr:List DV)(S:St)(K:DV→St→Prop):Prop:=match op with
 | .load t x=>bR (tk P t) S (ev fr x) (K · S)
 | .alloc t=>eK (zD P t)=true∧EJ S (zD P t) K
 | .call ⟨.value cal,args,_⟩=>ib P w0 (ev fr cal) (args.toList.map (ev fr)) S (K · S)
 |op=>eO (kX op==0) (BW P w0 op fr S (K · S)) (aJ P w0 op fr S K)
def oO(P:Program)(w0:W0)(ops:Array Oper)(K:List DV→St→Prop):List Oper→List DV→St→Prop
 |[],fr,S=>K fr S
 |o::rest,fr,S=>cj ops fr o.guard (fun fr=>nT P w0 o.op fr S fun d S'=>oO P w0 ops K rest (pt fr o.dst d) S') (fun fr=>oO P w0 ops K rest (pt fr o.dst ud) S)
section
variable {P:Program} {w0:W0} {ops:Array Oper} {md:Region.Mode}
theorem qx{o:Oper}{fr:List DV}{S:St}{K:List DV→St→Prop}(hs:hJ o.op=true)(h:nT P w0 o.op fr S fun d S'=>K (pt fr o.dst d) S'):fi P w0 o fr S K:=by
 have gen:∀(h:eO (kX o.op==0) (BW P w0 o.op fr S fun d=>K (pt fr o.dst d) S) (aJ P w0 o.op fr S fun d S'=>K (pt fr o.dst d) S')),kX o.op=0∨kX o.op=3→fi P w0 o fr S K:=by
  intro h hk
  rcases hk with hk|hk
  ·rw[hk]at h
   obtain⟨d,q1,q2⟩:=wP hk (show BW P w0 o.op fr S fun d=>K (pt fr o.dst d) S from h)
   exact .inl ⟨hk,d,fun S'=>by
    obtain⟨d',k1,k2⟩:=wN hs (q1 S')
    subst k2;exact k1,q2⟩
  ·rw[hk]at h
   exact .inr (.inr (.inr ⟨hk,bH hs h⟩))
 cases hop:o.op with
 |load t x=>
  rw[hop]at h hs
  obtain⟨d,q1,q2⟩:=pa (show bR (tk P t) S (ev fr x) (fun d=>K (pt fr o.dst d) S)from h)
  refine .inr (.inl ⟨by rw[hop];rfl,d,fun B hB=>?_,q2⟩)
  exact bH (by rw[hop];exact hs) (by rw[hop];simpa[aJ]using tO hB q1)
 |alloc t=>
  rw[hop]at h
  exact .inr (.inr (.inl ⟨by rw[hop];rfl,t,hop,h.1,h.2⟩))
 |call c=>
  obtain⟨callee,args,ts⟩:=c
  cases callee with
  |value cal=>
   rw[hop]at h hs
   simp only[nT,ib]at h
   split at h
   ·rename_i f a cap hcal
    obtain⟨h1,h2,h3,h4,d,h5,h6⟩:=h
    refine .inr (.inl ⟨by rw[hop];rfl,d,fun B hB=>?_,h6⟩)
    exact bH (by rw[hop];exact hs) (by rw[hop];simp only[aJ,hcal];exact o8 h1 h3 (by rw[h2,Le];exact mP h4 (h5 B hB)))
   ·exact h.elim
  |builtin b=>
   refine gen (by rw[hop]at h ⊢;exact h) ?_
   rw[hop]
   cases b <;>first|exact .inl rfl|exact .inr rfl
  |invoke r m=>
   refine gen (by rw[hop]at h ⊢;exact h) ?_
   rw[hop];exact .inr rfl
 |_=>refine gen (by rw[hop]at h ⊢;exact h) ?_;rw[hop];first|exact .inl rfl|exact .inr rfl
theorem fR{K:List DV→St→Prop}:∀(l:List Oper) {fr:List DV} {S:St},l.all (fun o=>hJ o.op)=true→oO P w0 ops K l fr S→LX P w0 ops K l fr S
 |[],fr,S,_,h=>h
 |o::rest,fr,S,hs,h=>by
  simp only[List.all_cons,Bool.and_eq_true]at hs
  rcases j8 h with⟨hw,ha⟩|⟨hw,hb⟩
  ·exact .inl ⟨hw,jN (fun fr S h=>fR rest hs.2 h) (qx hs.1 ha)⟩
  ·exact .inr ⟨hw,fR rest hs.2 hb⟩
def XB(l:List Oper):Bool:=l.all (fun o=>hJ o.op)&&qK .any l.toArray l.length 0 (Array.replicate l.length false)
theorem Jp{id:Nat}{l:List Oper}{fr:List DV}{S:St}{Q:Exit→List DV→St→Prop}(hm:P.follows .mixedOrders=true)(hB:XB l=true)(h:oO P w0 l.toArray (fun fr S=>jx fr fun fr=>Q .normal fr S) l fr S):fW P w0 (.region id l.toArray true) fr S Q:=by
 simp only[XB,Bool.and_eq_true]at hB
 exact qS hm hB.2 (fR l hB.1 h)
theorem KE{f:FuncId}{args args':List DV}{S:St}{K:DV→Prop}{r:DV}(h:∀B,Fr S B→aa P w0 f args' ⟨B++S.box,S.acc⟩ (fun d S'=>d=r∧S'=⟨B++S.box,S.acc⟩))(hk:K r)(ha:gk args args':=by exact gk.refl _):@QX P w0 f args S ⟨K⟩:=
 ⟨r,fun B hB=>kR (h B hB) ha ⟨rfl,rfl⟩,hk⟩
end
end Aml.Z
namespace Aml.Z
open Go Go.RowKit
section
variable {P:Program} {w0:W0} {ops:Array Oper} {fr:List DV} {S:St} {rest:List Oper} {dst:Option Tmp} {op:Op} {ty:TypeId} {pos:String} {aft:Array Edge}
section
variable {K:List DV→St→Prop}
theorem L2:oO P w0 ops K [] fr S=K fr S:=rfl
theorem B4:oO P w0 ops K (⟨dst,op,ty,pos,aft,none⟩::rest) fr S=nT P w0 op fr S fun d S'=>oO P w0 ops K rest (pt fr dst d) S':=rfl
end
variable {K:DV→St→Prop}
theorem B1(t:TypeId)(x:Operand):nT P w0 (.load t x) fr S K=bR (tk P t) S (ev fr x) (K · S):=rfl
theorem xr(t:TypeId):nT P w0 (.alloc t) fr S K=(eK (zD P t)=true∧EJ S (zD P t) K):=rfl
theorem DS(cal:Operand)(a:List Operand)(ts:Array TypeId):nT P w0 (.call ⟨.value cal,a.toArray,ts⟩) fr S K=ib P w0 (ev fr cal) (a.map (ev fr)) S (K · S):=rfl
theorem yC(f:FuncId)(a cap:Array Value)(ds:List DV)(K:DV→Prop):ib P w0 (.v (.func (.func f) a cap)) ds S K=(a.size=0∧okF P f=true∧cap.toList.all (fun u=>u.oneCell')=true∧ds.all gu=true∧@QX P w0 f (ds++cap.toList.map .v) S ⟨K⟩):=rfl
@[congr] theorem K1 {cal cal':DV} {ds ds':List DV} {S':St} {K:DV→Prop} (h1:cal=cal') (h2:ds=ds') (h3:S=S'):ib P w0 cal ds S K=ib P w0 cal' ds' S' K:=by cases h1;cases h2;cases h3;rfl
theorem Cv(x:Operand):nT P w0 (.move x) fr S K=aF P w0 (.move x) fr S (K · S):=rfl
theorem tj(x:Operand):nT P w0 (.assign x) fr S K=aF P w0 (.assign x) fr S (K · S):=rfl
theorem mQ(t:TypeId)(x:Operand)(f:Nat):nT P w0 (.fieldAddr t x f) fr S K=aF P w0 (.fieldAddr t x f) fr S (K · S):=rfl
theorem rj(x:Operand)(i:Nat):nT P w0 (.extract x i) fr S K=aF P w0 (.extract x i) fr S (K · S):=rfl
theorem oN(x:Operand):nT P w0 (.nilCheck x) fr S K=aF P w0 (.nilCheck x) fr S (K · S):=rfl
theorem xL(b:BinOp)(t:TypeId)(x y:Operand)(t':TypeId):nT P w0 (.binOp b t x y t') fr S K=aF P w0 (.binOp b t x y t') fr S (K · S):=rfl
theorem xR(t:TypeId)(parts:Array (Nat×Operand)):nT P w0 (.build t parts) fr S K=aF P w0 (.build t parts) fr S (K · S):=rfl
theorem yx(t:TypeId)(x y:Operand):nT P w0 (.store t x y) fr S K=aJ P w0 (.store t x y) fr S K:=rfl
theorem yJ(a:Array Operand)(ts:Array TypeId):nT P w0 (.call ⟨.builtin .len,a,ts⟩) fr S K=aF P w0 (.call ⟨.builtin .len,a,ts⟩) fr S (K · S):=rfl
end
attribute [go_sem ↓] L2 B4 B1 xr DS yC Cv tj mQ rj oN xL xR yx yJ
theorem xy(b:Bool):(b==false)=!b:=by cases b <;>rfl
attribute [go_sem] xy
end Aml.Z
namespace Aml
open Go Go.RowKit
section
variable {P:Program} {w0:W0}
end
theorem Af(k k':Value)(d:DV):∀es:List (Value×DV×Nat),((es.map (qF k d)).find? fun e=>@decide (e.1=k') (Classical.propDecidable _))=(es.find? fun e=>@decide (e.1=k') (Classical.propDecidable _)).map (qF k d):=by
 intro es
 rw[List.find?_map]
 congr 2
 funext e
 simp only[Function.comp]
 rcases Classical.em (e.1=k)with h|h
 ·rw[xI h]
 ·rw[ye h]
theorem kv(es:List (Value×DV×Nat))(clk:Nat)(k:Value)(d:DV):iQ (jS es clk k d) k=some d:=by
 unfold jS
 cases hg:iQ es k with
 |none=>
  simp only[Option.isSome_none,Bool.false_eq_true,if_false]
  unfold iQ at hg ⊢
  rw[List.find?_append]
  rw[Option.map_eq_none_iff]at hg
  rw[hg]
  simp
 |some x=>
  simp only[Option.isSome_some,if_true]
  unfold iQ at hg ⊢
  rw[Af]
  obtain⟨y,hy,_⟩:=Option.map_eq_some_iff.1 hg
  rw[hy]
  have:=List.find?_some hy
  simp only[decide_eq_true_eq]at this
  simp[xI this]
theorem rQ(es:List (Value×DV×Nat))(clk:Nat){k k':Value}(e:k'≠k)(d:DV):iQ (jS es clk k d) k'=iQ es k':=by
 unfold jS
 cases hg:iQ es k with
 |none=>
  simp only[Option.isSome_none,Bool.false_eq_true,if_false]
  unfold iQ
  rw[List.find?_append]
  have:List.find? (fun e=>@decide (e.1=k') (Classical.propDecidable _)) [(k,d,clk)]=none:=by
   rw[List.find?_eq_none]
   intro x hx
   rw[List.mem_singleton]at hx;subst hx
   simp;exact fun h=>e h.symm
  rw[this,Option.or_none]
 |some x=>
  simp only[Option.isSome_some,if_true]
  unfold iQ
  rw[Af]
  cases hf:es.find? fun e=>@decide (e.1=k') (Classical.propDecidable _)with
  |none=>rfl
  |some y=>
   have:=List.find?_some hf
   simp only[decide_eq_true_eq]at this
   simp only[Option.map_some]
   rw[ye (by rw[this];exact e)]
end Aml
namespace Go.Proofs.YtpjenciplibdnaaGreatDoor
open Aml Go
@[go_sem] def dL (l:List Int):DV:= .sl 1 false (l.map dI)
theorem bq{α:Type}{l:List α}{k:Nat}{a b:α}(h:l[k]? =some a)(h':l[k]? =some b):a=b:=by rw[h]at h';exact Option.some.inj h'
def mq(a b:ByteArray):Bool:=Op.bytesLess a.data.toList b.data.toList||decide (a.data.toList=b.data.toList)
def cI(a b:ByteArray):Bool:=Op.bytesLess a.data.toList b.data.toList
def fh(a b:ByteArray):Bool:=decide (a.data.toList=b.data.toList)
@[go_sem] theorem Z4 (a b:ByteArray) (K:DV→Prop):j2 .eql a b K=K (.v (.bool (fh a b))):=rfl
@[go_sem] theorem Z6 (a b:ByteArray) (K:DV→Prop):j2 .neq a b K=K (.v (.bool (!fh a b))):=rfl
@[go_sem] theorem aas (a b:ByteArray) (K:DV→Prop):j2 .lss a b K=K (.v (.bool (cI a b))):=rfl
@[go_sem] theorem aad (a b:ByteArray) (K:DV→Prop):j2 .leq a b K=K (.v (.bool (mq a b))):=rfl
@[go_sem] theorem Z7 (a b:ByteArray) (K:DV→Prop):j2 .geq a b K=K (.v (.bool (!cI a b))):=rfl
def need(z:Int):Nat:=if 16<z∧z≤400 then((z+118)/119).toNat else 0
theorem sE(z:Int):need z≤4:=by unfold need;split <;>omega
theorem Xo(w0:W0)(z:Int)(S:St):aa Tryz.prog w0 107 [dI z] S (fun d S'=>d=dI (need z)∧S'=S):=by
 refine aY [] mx Tryz.func107 rfl rfl (by kernel_rfl) ?_;(refine @ab _ ?_;refine ao @Tryz.ntmps107 ?_)
 have hn:=sE z
 refine aA [] (need z) [0,3] (fun k=>[(3,dI k)]) (fun _=>S) (fun _=>True) mx (by kernel_rfl) ?_ ?_
 ·(refine @ab _ ?_;exact aK)
 ·intro k hk _
  (refine @ab _ ?_;refine au ?_)
  have e1:IntKind.i64.wrap ((k:Int)*119)=(k:Int)*119:=ba (by omega) (by omega)
  have e2:IntKind.i64.wrap ((k:Int)+1)=((k+1:Nat):Int):=by rw[ba (by omega) (by omega)];omega
  simp only[e1,e2]
  have hneed:16<z∧z≤400→(need z:Int)=(z+118)/119:=fun h=>by unfold need;rw[if_pos h];omega
  have hno:¬(16<z∧z≤400)→need z=0:=fun h=>by unfold need;rw[if_neg h]
  refine⟨fun h1=>⟨fun h2=>⟨fun h3=>⟨?_,trivial⟩,fun h3=>?_⟩,fun h2=>?_⟩,fun h1=>?_⟩
  ·have:=hneed ⟨h1,h2⟩;omega
  ·have:=hneed ⟨h1,h2⟩;omega
  ·have:=hno (by omega);omega
  ·have:=hno (by omega);omega
def Bd(l:List Int):Prop:=l.length≤1048576∧∀x,x∈l→0≤x∧x≤1048576
theorem NC:∀(l:List Int),(∀x,x∈l→0≤x∧x≤1048576)→0≤l.sum∧l.sum≤1048576*l.length
 |[],_=>by simp
 |a::l,h=>by
  have h1:=NC l fun x hx=>h x (List.mem_cons_of_mem _ hx)
  have h2:=h a List.mem_cons_self
  simp only[List.sum_cons,List.length_cons]
  omega
theorem Bd.take{l:List Int}(h:Bd l)(k:Nat):Bd (l.take k):=⟨by rw[List.length_take];have:=h.1;omega,fun x hx=>h.2 x (List.mem_of_mem_take hx)⟩
theorem Bd.drop{l:List Int}(h:Bd l)(k:Nat):Bd (l.drop k):=⟨by rw[List.length_drop];have:=h.1;omega,fun x hx=>h.2 x (List.mem_of_mem_drop hx)⟩
theorem Bd.sum{l:List Int}(h:Bd l):0≤l.sum∧l.sum≤1099511627776:=by
 have:=NC l h.2
 have:=h.1
 omega
theorem AM{l:List Int}{k:Nat}{a:Int}(h:l[k]? =some a):(l.take (k+1)).sum=(l.take k).sum+a:=by
 rw[List.take_add_one,h];simp
def fv(l:List Int)(at_:Nat):Int:=if(l.take at_).sum>(l.drop at_).sum then(l.take at_).sum else(l.drop at_).sum
def wD(l:List Int):Nat→Nat
 |0=>1
 |j+1=>if fv l (j+2)<fv l (wD l j)then j+2 else wD l j
theorem CQ(l:List Int):∀j,1≤wD l j∧wD l j≤j+1
 |0=>⟨Nat.le_refl _,Nat.le_refl _⟩
 |j+1=>by
  have:=CQ l j
  simp only[wD]
  split <;>omega
def atR(l:List Int):Nat:=if l.sum≤122∨l.length<2 then 0 else wD l (l.length-2)
theorem LL(l:List Int)(h:atR l≠0):1≤atR l∧atR l<l.length:=by
 unfold atR at*
 split at h
 ·exact absurd rfl h
 ·rename_i hn
  rw[if_neg hn]
  have:=CQ l (l.length-2)
  have:¬l.length<2:=fun h=>hn (.inr h)
  omega
def Dp(l:List Int):Bool:=decide (l.sum<30)
def Xm(m k:Int):Int:=if k+1<m then k+1 else k-1
mutual
inductive N where
 |mk (ak:Int) (leaf:Bool) (l:List C)
inductive C where
 |mk (key data:ByteArray) (ai:List Int) (kid:List N)
end
def N.ak:N→Int| .mk p _ _=>p
def N.leaf:N→Bool| .mk _ b _=>b
def N.l:N→List C| .mk _ _ l=>l
def C.key:C→ByteArray| .mk k _ _ _=>k
def C.data:C→ByteArray| .mk _ d _ _=>d
def C.ai:C→List Int| .mk _ _ p _=>p
def C.kid:C→List N| .mk _ _ _ k=>k
theorem N.eta(n:N):n= .mk n.ak n.leaf n.l:=by cases n;rfl
theorem C.eta(c:C):c= .mk c.key c.data c.ai c.kid:=by cases c;rfl
mutual
def dN:N→DV
 | .mk p b l=> .agg [dI p,dB b,.sl 4 false (V1 l)]
def dC:C→DV
 | .mk k d ps kid=> .agg [dS k,dS d,.sl 1 false (ps.map dI),.sl 3 false (Xt kid)]
def V1:List C→List DV
 |[]=>[]
 |c::l=>dC c::V1 l
def Xt:List N→List DV
 |[]=>[]
 |n::l=>dN n::Xt l
end
theorem Fs:∀l,V1 l=l.map dC
 |[]=>by simp[V1]
 |c::l=>by simp[V1,Fs l]
theorem FO:∀l,Xt l=l.map dN
 |[]=>by simp[Xt]
 |c::l=>by simp[Xt,FO l]
@[go_sem] def eN (n:N):DV:= .agg [dI n.ak,dB n.leaf,.sl 4 false (n.l.map dC)]
@[go_sem] def eC (c:C):DV:= .agg [dS c.key,dS c.data,.sl 1 false (c.ai.map dI),.sl 3 false (c.kid.map dN)]
@[go_sem] theorem Z1 (n:N):dN n=eN n:=by
 cases n;simp only[dN,Fs];rfl
@[go_sem] theorem XD (c:C):dC c=eC c:=by
 cases c;simp only[dC,FO];rfl
@[go_sem] theorem N.FJ (p:Int) (b:Bool) (l:List C):(N.mk p b l).ak=p:=rfl
@[go_sem] theorem N.ny (p:Int) (b:Bool) (l:List C):(N.mk p b l).leaf=b:=rfl
@[go_sem] theorem N.eB (p:Int) (b:Bool) (l:List C):(N.mk p b l).l=l:=rfl
@[go_sem] theorem C.lE (k d:ByteArray) (p:List Int) (q:List N):(C.mk k d p q).key=k:=rfl
@[go_sem] theorem C.QW (k d:ByteArray) (p:List Int) (q:List N):(C.mk k d p q).data=d:=rfl
@[go_sem] theorem C.Jr (k d:ByteArray) (p:List Int) (q:List N):(C.mk k d p q).ai=p:=rfl
@[go_sem] theorem C.uw (k d:ByteArray) (p:List Int) (q:List N):(C.mk k d p q).kid=q:=rfl
mutual
def okN:N→Prop
 | .mk _ b l=>(b=false→l≠[])∧VT l b
def ux:C→Bool→Prop
 | .mk _ _ _ kid,b=>b=false→kid.length=1∧VR kid
def VT:List C→Bool→Prop
 |[],_=>True
 |c::l,b=>ux c b∧VT l b
def VR:List N→Prop
 |[]=>True
 |n::l=>okN n∧VR l
end
mutual
def bd:N→Nat
 | .mk _ _ l=>za l
def lX:C→Nat
 | .mk _ _ _ kid=>1+zr kid
def za:List C→Nat
 |[]=>0
 |c::l=>lX c+za l
def zr:List N→Nat
 |[]=>0
 |n::l=>bd n+zr l
end
theorem wS:∀l,za l=(l.map lX).sum
 |[]=>by simp[za]
 |c::l=>by simp[za,wS l]
theorem wU:∀l,zr l=(l.map bd).sum
 |[]=>by simp[zr]
 |c::l=>by simp[zr,wU l]
theorem yb(n:N):bd n=(n.l.map lX).sum:=by cases n;simp only[bd,wS];rfl
theorem eU(c:C):lX c=1+(c.kid.map bd).sum:=by cases c;simp only[lX,wU];rfl
mutual
def Y1:N→Nat
 | .mk _ b l=>if b then 0 else 1+Rw l
def YH:C→Nat
 | .mk _ _ _ kid=>R6 kid
def Rw:List C→Nat
 |[]=>0
 |c::l=>max (YH c) (Rw l)
def R6:List N→Nat
 |[]=>0
 |n::l=>max (Y1 n) (R6 l)
end
mutual
def QF:N→Prop
 | .mk _ _ l=>LI l
def V2:C→Prop
 | .mk k d ps kid=>k.size≤16∧d.size≤400∧ps.length≤4∧Jy kid
def LI:List C→Prop
 |[]=>True
 |c::l=>V2 c∧LI l
def Jy:List N→Prop
 |[]=>True
 |n::l=>QF n∧Jy l
end
theorem AA:∀l,LI l↔∀c,c∈l→V2 c
 |[]=>by simp[LI]
 |n::l=>by simp[LI,AA l]
theorem AD:∀l,Jy l↔∀n,n∈l→QF n
 |[]=>by simp[Jy]
 |n::l=>by simp[Jy,AD l]
theorem sx(n:N):QF n↔∀c,c∈n.l→V2 c:=by cases n;simp only[QF,AA];rfl
theorem sP(c:C):V2 c↔c.key.size≤16∧c.data.size≤400∧c.ai.length≤4∧∀n,n∈c.kid→QF n:=by cases c;simp only[V2,AD];rfl
theorem bj(n:N):n.l.length≤bd n:=by
 rw[yb]
 generalize n.l=l
 induction l with
 |nil=>exact Nat.zero_le _
 |cons c l ih=>simp only[List.length_cons,List.map_cons,List.sum_cons,eU];omega
def aX(b:Bool)(c:C):Int:=if b then(if(need c.data.size:Int)>0∨(c.data.size:Int)>400 then 7+c.key.size else 3+c.key.size+c.data.size)else 4+c.key.size
def ae(n:N):List Int:=n.l.map (aX n.leaf)
theorem k8(n:N)(h:QF n)(ht:n.l.length≤1048576):Bd (ae n):=by
 refine⟨by unfold ae;rw[List.length_map];exact ht,fun x hx=>?_⟩
 obtain⟨c,hc,rfl⟩:=List.mem_map.1 hx
 have:=(sP c).1 ((sx n).1 h c hc)
 unfold aX
 repeat' split <;>omega
def ml(l:List C)(key:ByteArray):Nat→Nat
 |0=>0
 |i+1=>match l[i+1]? with
  |some c=>if mq c.key key then i+1 else ml l key i
  |none=>ml l key i
theorem EH(l:List C)(key:ByteArray):∀i,ml l key i≤i
 |0=>Nat.le_refl _
 |i+1=>by
  have:=EH l key i
  simp only[ml]
  split
  ·split <;>omega
  ·omega
def fU(l:List C)(key:ByteArray):Nat:=ml l key (l.length-1)
theorem gN{l:List C}(h:l≠[])(key:ByteArray):fU l key<l.length:=by
 have:=EH l key (l.length-1)
 have:=List.length_pos_iff.2 h
 unfold fU;omega
def aE(l:List C)(i:Nat)(some_:List C):List C:=l.take i++some_++l.drop (i+1)
def aZ:ByteArray:=ByteArray.empty
def af(key:ByteArray)(kid:N):C:= .mk key aZ [] [kid]
def bG(key:ByteArray):List C→List C
 |[]=>[]
 |c::l=> .mk key c.data c.ai c.kid::l
def keyOf:List C→ByteArray
 |[]=>aZ
 |c::_=>c.key
def aV(n kid:N)(k:Nat)(key:ByteArray):N×Bool:=
 let i:=atR (ae kid)
 if i=0 then(n,false)else
 let r:=kid.l.drop i
 (.mk 0 false (aE n.l k [af key (.mk 0 kid.leaf (kid.l.take i)),af (keyOf r) (.mk 0 kid.leaf (if kid.leaf then r else bG aZ r))]),true)
def ay(c:C):N:=c.kid.headD (.mk 0 true [])
def cellAt(l:List C)(k:Nat):C:=l.getD k (.mk aZ aZ [] [])
theorem vW{l:List C}{k:Nat}{c:C}(h:l[k]? =some c):cellAt l k=c:=by unfold cellAt;rw[List.getD_eq_getElem?_getD,h];rfl
theorem bl{c:C}{k:N}(h:c.kid=[k]):ay c=k:=by unfold ay;rw[h];rfl
def bM(a b:N)(key:ByteArray):N:= .mk 0 a.leaf (a.l++if b.leaf then b.l else bG key b.l)
def cC(n:N)(k:Nat):N:=
 let c:=cellAt n.l k
 let p:=aV n (ay c) k c.key
 if p.2 then p.1 else
 if !Dp (ae (ay c))||decide (n.l.length<2)then n else
 let j:=if k+1<n.l.length then k else k-1
 let both:=bM (ay (cellAt n.l j)) (ay (cellAt n.l (j+1))) (cellAt n.l (j+1)).key
 (aV (.mk 0 false (aE (aE n.l (j+1) []) j [af (cellAt n.l j).key both])) both j (cellAt n.l j).key).1
theorem Cp(key:ByteArray)(l:List C):(bG key l).length=l.length:=by cases l <;>rfl
structure aa6(n:N):Prop where
 len:n.l.length≤524288
 kid:∀c,c∈n.l→∃k,c.kid=[k]∧QF k∧k.l.length≤524288
 key:∀c,c∈n.l→c.key.size≤16
def jT:N→N
 | .mk p false [.mk ck cd cp (k::r)]=>jT k
 |n=>if atR (ae n)=0 then n else cC (.mk 0 false [af aZ n]) 0
termination_by n=>SizeOf.sizeOf n
decreasing_by simp;omega
def bk(l:List C)(key:ByteArray):Nat:=(l.takeWhile fun c=>cI c.key key).length
theorem Lw(l:List C)(key:ByteArray):bk l key≤l.length:=by
 unfold bk;exact(List.takeWhile_sublist _).length_le
def cO(l:List C)(key val:ByteArray):List C:=
 let i:=bk l key
 match l[i]? with
 |some c=>if fh c.key key then aE l i [.mk key val [] []]else l.take i++[.mk key val [] []]++l.drop i
 |none=>l.take i++[.mk key val [] []]++l.drop i
def ct(key val:ByteArray):N→N
 | .mk p true l=> .mk 0 true (cO l key val)
 | .mk p false l=>match h:l[fU l key]? with
  |some (.mk ck cd cp (k::r))=>cC (.mk 0 false (aE l (fU l key) [af ck (ct key val k)])) (fU l key)
  |_=> .mk 0 true []
termination_by n=>SizeOf.sizeOf n
decreasing_by
 have h1:=List.sizeOf_lt_of_mem (List.mem_of_getElem? h)
 simp at h1 ⊢;omega
theorem fV(key val:ByteArray)(n:N)(h:n.leaf=true):ct key val n= .mk 0 true (cO n.l key val):=by
 cases n with|mk p b l=>simp only[N.leaf]at h;subst h;rw[ct];rfl
theorem jZ(key val:ByteArray)(n:N)(h:n.leaf=false){c:C}{k:N}(hc:n.l[fU n.l key]? =some c)(hk:c.kid=[k]):ct key val n=cC (.mk 0 false (aE n.l (fU n.l key) [af c.key (ct key val k)])) (fU n.l key):=by
 cases n with|mk p b l=>
 simp only[N.leaf]at h;subst h
 cases c with|mk ck cd cp cr=>
 simp only[C.kid]at hk;subst hk
 simp only[N.l]at hc ⊢
 rw[ct]
 split
 ·rename_i h1;rw[hc]at h1;cases h1;rfl
 ·rename_i h1;exact absurd hc (h1 _ _ _ _ _)
theorem kZ(n:N)(h:n.leaf=false){c:C}{k:N}(hc:n.l=[c])(hk:c.kid=[k]):jT n=jT k:=by
 cases n with|mk p b l=>
 cases c with|mk ck cd cp cr=>
 simp only[N.leaf,N.l,C.kid]at *;subst h;subst hc;subst hk
 rw[jT]
theorem cW(n:N)(h:n.leaf=true∨n.l.length≠1):jT n=if atR (ae n)=0 then n else cC (.mk 0 false [af aZ n]) 0:=by
 cases n with|mk p b l=>
 rw[jT]
 intro p' ck cd cp k r e
 simp only[N.mk.injEq]at e
 rcases h with h|h
 ·simp only[N.leaf]at h;rw[h]at e;exact absurd e.2.1 (by simp)
 ·simp only[N.l]at h;rw[e.2.2]at h;simp at h
theorem dH{n:N}{c:C}{k:N}(h:c∈n.l)(hk:c.kid=[k]):bd k+n.l.length≤bd n:=by
 rw[yb n]
 have:∀l:List C,c∈l→bd k+l.length≤(l.map lX).sum:=by
  intro l
  induction l with
  |nil=>intro h;cases h
  |cons a l ih=>
   intro h
   simp only[List.map_cons,List.sum_cons,List.length_cons]
   have h1:∀l:List C,l.length≤(l.map lX).sum:=by
    intro l
    induction l with
    |nil=>exact Nat.zero_le _
    |cons c l ih=>simp only[List.length_cons,List.map_cons,List.sum_cons,eU];omega
   rcases List.mem_cons.1 h with rfl|h
   ·have:=h1 l
    rw[eU,hk];simp;omega
   ·have:=ih h
    have:=eU a
    omega
 exact this _ h
theorem bC:aZ.size=0:=rfl
theorem cG{l m:List C}{i:Nat}(h:i<l.length):(aE l i m).length+1=l.length+m.length:=by
 unfold aE;simp only[List.length_append,List.length_take,List.length_drop];omega
theorem fY{l m:List C}{i:Nat}{c:C}(h:c∈aE l i m):c∈l∨c∈m:=by
 unfold aE at h
 rcases List.mem_append.1 h with h|h
 ·rcases List.mem_append.1 h with h|h
  ·exact .inl (List.mem_of_mem_take h)
  ·exact .inr h
 ·exact .inl (List.mem_of_mem_drop h)
theorem j5{l:List C}{key val:ByteArray}{c:C}(h:c∈cO l key val):c∈l∨c= .mk key val [] []:=by
 have h2:c∈l.take (bk l key)++[.mk key val [] []]++l.drop (bk l key)→c∈l∨c= .mk key val [] []:=fun h=>by
  rcases List.mem_append.1 h with h|h
  ·rcases List.mem_append.1 h with h|h
   ·exact .inl (List.mem_of_mem_take h)
   ·exact .inr (List.mem_singleton.1 h)
  ·exact .inl (List.mem_of_mem_drop h)
 unfold cO at h
 simp only at h
 split at h
 ·split at h
  ·exact(fY h).imp id List.mem_singleton.1
  ·exact h2 h
 ·exact h2 h
theorem A8(l:List C)(key val:ByteArray):(cO l key val).length≤l.length+1:=by
 have h2:(l.take (bk l key)++[C.mk key val [] []]++l.drop (bk l key)).length≤l.length+1:=by
  simp only[List.length_append,List.length_take,List.length_drop,List.length_cons,List.length_nil];omega
 unfold cO
 simp only
 split
 ·rename_i c hc
  split
  ·have:=cG (m:=[C.mk key val [] []]) (List.getElem?_eq_some_iff.1 hc).1
   simp only[List.length_cons,List.length_nil]at this;omega
  ·exact h2
 ·exact h2
def Sh(c:C):Prop:=c.key.size≤16∧c.data.size≤400∧c.ai.length≤4
def Sl(c:C):Prop:=c.key.size≤16∧c.data.size≤400∧c.ai.length≤0
theorem Sl.sh{c:C}(h:Sl c):Sh c:=⟨h.1,h.2.1,Nat.le_trans h.2.2 (Nat.zero_le 4)⟩
def Nd:Nat→N→Prop
 |0,n=>n.leaf=true∧∀c,c∈n.l→Sh c∧c.kid=[]
 |d+1,n=>n.leaf=false∧n.l≠[]∧∀c,c∈n.l→Sl c∧∃k,c.kid=[k]∧Nd d k
theorem tw:∀{d:Nat} {n:N},Nd d n→QF n
 |0,n,h=>(sx n).2 fun c hc=>(sP c).2 (by
  obtain⟨h1,h2⟩:=h.2 c hc
  exact⟨h1.1,h1.2.1,h1.2.2,fun k hk=>by rw[h2]at hk;cases hk⟩)
 |d+1,n,h=>(sx n).2 fun c hc=>(sP c).2 (by
  obtain⟨h1,k,hk,hn⟩:=h.2.2 c hc
  exact⟨h1.1,h1.2.1,h1.sh.2.2,fun k' hk'=>by rw[hk,List.mem_singleton]at hk';rw[hk'];exact tw hn⟩)
theorem Rp{d:Nat}{n:N}(h:Nd d n):∀c,c∈n.l→Sh c:=fun c hc=>by
 cases d with
 |zero=>exact(h.2 c hc).1
 |succ d=>exact(h.2.2 c hc).1.sh
theorem uX{d:Nat}{n:N}(h:Nd d n)(p:Int){l:List C}(hl:∀c,c∈l→c∈n.l)(hn:l≠[]):Nd d (.mk p n.leaf l):=by
 cases d with
 |zero=>exact⟨h.1,fun c hc=>h.2 c (hl c hc)⟩
 |succ d=>exact⟨h.1,hn,fun c hc=>h.2.2 c (hl c hc)⟩
theorem wm{d:Nat}{p:Int}{b:Bool}{l:List C}{key:ByteArray}(hk:key.size≤16)(h:Nd d (.mk p b l)):Nd d (.mk p b (bG key l)):=by
 cases l with
 |nil=>exact h
 |cons a l=>
  cases d with
  |zero=>
   refine⟨h.1,fun c hc=>?_⟩
   rcases List.mem_cons.1 hc with rfl|hc
   ·have:=h.2 a List.mem_cons_self
    exact⟨⟨hk,this.1.2⟩,this.2⟩
   ·exact h.2 c (List.mem_cons_of_mem _ hc)
  |succ d=>
   refine⟨h.1,by simp[bG,N.l],fun c hc=>?_⟩
   rcases List.mem_cons.1 hc with rfl|hc
   ·have:=h.2.2 a List.mem_cons_self
    exact⟨⟨hk,this.1.2⟩,this.2⟩
   ·exact h.2.2 c (List.mem_cons_of_mem _ hc)
theorem dG{d:Nat}{key:ByteArray}{k:N}(hk:key.size≤16)(h:Nd d k):Sl (af key k)∧∃k',(af key k).kid=[k']∧Nd d k':=
 ⟨⟨hk,by show aZ.size≤400;rw[bC];omega,by simp[af,C.ai]⟩,k,rfl,h⟩
theorem CM{l:List C}(h:∀c,c∈l→Sh c):(keyOf l).size≤16:=by
 cases l with
 |nil=>show aZ.size≤16;rw[bC];omega
 |cons a l=>exact(h a List.mem_cons_self).1
theorem AI{l m:List C}{i:Nat}(h:1<l.length∨m≠[])(hi:i<l.length):aE l i m≠[]:=by
 intro e
 have:=cG (m:=m) hi
 rw[e]at this
 rcases h with h|h
 ·simp at this;omega
 ·have:=List.length_pos_iff.2 h;simp at *;omega
theorem wO{d:Nat}{n kid:N}{k:Nat}{key:ByteArray}(hn:Nd (d+1) n)(hk:Nd d kid)(hkey:key.size≤16)(hlt:k<n.l.length):Nd (d+1) (aV n kid k key).1:=by
 unfold aV
 simp only
 split
 ·exact hn
 ·rename_i h0
  obtain⟨_,h1,h2⟩:=hn
  have ha:=LL _ h0
  have hl:(ae kid).length=kid.l.length:=by unfold ae;rw[List.length_map]
  rw[hl]at ha
  generalize atR (ae kid)=i at*
  refine⟨rfl,AI (.inr (by simp)) hlt,fun c hc=>?_⟩
  rcases fY hc with hc|hc
  ·exact h2 c hc
  ·rcases List.mem_cons.1 hc with rfl|hc
   ·exact dG hkey (uX hk _ (fun c hc=>List.mem_of_mem_take hc) fun e=>by have:=congrArg List.length e;rw[List.length_take,List.length_nil]at this;omega)
   ·rw[List.mem_singleton]at hc
    subst hc
    have hr:Nd d (.mk 0 kid.leaf (kid.l.drop i)):=uX hk _ (fun c hc=>List.mem_of_mem_drop hc) fun e=>by have:=congrArg List.length e;rw[List.length_drop,List.length_nil]at this;omega
    refine dG (CM fun c hc=>Rp hk c (List.mem_of_mem_drop hc)) ?_
    split
    ·exact hr
    ·exact wm (by rw[bC];omega) hr
theorem cb{d:Nat}{n:N}(hn:Nd (d+1) n){k:Nat}(hk:k<n.l.length):∃c kid,n.l[k]? =some c∧cellAt n.l k=c∧ay c=kid∧c.kid=[kid]∧c.key.size≤16∧Nd d kid:=by
 obtain⟨c,hc⟩:∃c,n.l[k]? =some c:=⟨_,List.getElem?_eq_getElem hk⟩
 obtain⟨q1,kid,hkid,hnd⟩:=hn.2.2 c (List.mem_of_getElem? hc)
 exact⟨c,kid,hc,vW hc,bl hkid,hkid,q1.1,hnd⟩
theorem lM:∀{d:Nat} {a b:N},Nd d a→Nd d b→a.leaf=b.leaf
 |0,a,b,ha,hb=>ha.1.trans hb.1.symm
 |d+1,a,b,ha,hb=>ha.1.trans hb.1.symm
theorem xj{d:Nat}{a b:N}{key:ByteArray}(ha:Nd d a)(hb:Nd d b)(hk:key.size≤16):Nd d (bM a b key):=by
 have hl:=lM ha hb
 unfold bM
 by_cases hbl:b.l=[]
 ·have:(if b.leaf then b.l else bG key b.l)=[]:=by rw[hbl];split <;>rfl
  rw[this,List.append_nil]
  cases d with
  |zero=>exact ha
  |succ d=>exact absurd hbl hb.2.1
 ·have hb':Nd d (.mk 0 a.leaf (if b.leaf then b.l else bG key b.l)):=by
   have:Nd d (.mk 0 a.leaf b.l):=hl▸uX hb 0 (fun _ h=>h) hbl
   split
   ·exact this
   ·exact wm hk this
  generalize (if b.leaf then b.l else bG key b.l)=r at*
  cases d with
  |zero=>
   refine⟨ha.1,fun c hc=>?_⟩
   rcases List.mem_append.1 hc with hc|hc
   ·exact ha.2 c hc
   ·exact hb'.2 c hc
  |succ d=>
   refine⟨ha.1,fun e=>ha.2.1 (List.append_eq_nil_iff.1 e).1,fun c hc=>?_⟩
   rcases List.mem_append.1 hc with hc|hc
   ·exact ha.2.2 c hc
   ·exact hb'.2.2 c hc
theorem il{d:Nat}{n:N}(hn:Nd (d+1) n){i:Nat}(hi:i<n.l.length)(p:Int){m:List C}(h1:1<n.l.length∨m≠[])(hm:∀c,c∈m→Sl c∧∃k,c.kid=[k]∧Nd d k):Nd (d+1) (.mk p false (aE n.l i m)):=
 ⟨rfl,AI h1 hi,fun c hc=>(fY hc).elim (hn.2.2 c) (hm c)⟩
theorem so{d:Nat}{n:N}{k:Nat}(hn:Nd (d+1) n)(hlt:k<n.l.length):Nd (d+1) (cC n k):=by
 obtain⟨c,kid,hc,e1,e2,hkid,hkey,hnd⟩:=cb hn hlt
 unfold cC
 simp only[e1,e2]
 split
 ·exact wO hn hnd hkey hlt
 ·split
  ·exact hn
  ·rename_i h1 h2
   simp only[Bool.or_eq_true,decide_eq_true_eq,not_or]at h2
   have hj:(if k+1<n.l.length then k else k-1)+1<n.l.length:=by split <;>omega
   generalize (if k+1<n.l.length then k else k-1)=j at*
   obtain⟨c0,k0,hc0,f1,f2,hk0,hkey0,hnd0⟩:=cb hn (k:=j) (by omega)
   obtain⟨c1,k1,hc1,g1,g2,hk1,hkey1,hnd1⟩:=cb hn hj
   rw[f1,f2,g1,g2]
   have hbo:=xj hnd0 hnd1 hkey1
   have hw1:Nd (d+1) (.mk 0 false (aE n.l (j+1) [])):=il hn hj 0 (.inl (by omega)) (fun c hc=>by cases hc)
   have hwl:=cG (m:=[]) hj
   simp only[List.length_nil]at hwl
   have hw2:=il hw1 (i:=j) (by simp only[N.eB];omega) 0 (m:=[af c0.key (bM k0 k1 c1.key)]) (.inr (by simp)) fun c hc=>by
    rw[List.mem_singleton]at hc;subst hc;exact dG hkey0 hbo
   refine wO hw2 hbo hkey0 ?_
   have:=cG (l:=aE n.l (j+1) []) (i:=j) (m:=[af c0.key (bM k0 k1 c1.key)]) (by omega)
   simp only[N.eB,List.length_cons,List.length_nil]at this ⊢;omega
theorem gJ{key val:ByteArray}(hk:key.size≤16)(hv:val.size≤400):∀{d:Nat} {n:N},Nd d n→Nd d (ct key val n)
 |0,n,h=>by
  rw[fV _ _ _ h.1]
  refine⟨rfl,fun c hc=>?_⟩
  rcases j5 hc with hc|rfl
  ·exact h.2 c hc
  ·exact⟨⟨hk,hv,by simp[C.ai]⟩,rfl⟩
 |d+1,n,h=>by
  have hw:=gN h.2.1 key
  obtain⟨c,kid,hc,_,_,hkid,hkey,hnd⟩:=cb h hw
  rw[jZ _ _ _ h.1 hc hkid]
  have h1:=il h hw 0 (m:=[af c.key (ct key val kid)]) (.inr (by simp)) fun c' hc'=>by
   rw[List.mem_singleton]at hc';subst hc';exact dG hkey (gJ hk hv hnd)
  have:=cG (m:=[af c.key (ct key val kid)]) hw
  exact so h1 (by simp only[N.eB,List.length_cons,List.length_nil]at *;omega)
theorem KM:∀{d:Nat} {n:N},Nd d n→∃d',d'≤d+1∧Nd d' (jT n):=by
 have one:∀{d:Nat} {n:N},Nd d n→∃d',d'≤d+1∧Nd d' (if atR (ae n)=0 then n else cC (.mk 0 false [af aZ n]) 0):=fun{d n} h=>by
  split
  ·exact⟨d,by omega,h⟩
  ·refine⟨d+1,Nat.le_refl _,so ⟨rfl,by simp[N.l],fun c hc=>?_⟩ (by simp[N.l])⟩
   simp only[N.eB,List.mem_singleton]at hc
   subst hc
   exact dG (by rw[bC];omega) h
 intro d
 induction d with
 |zero=>intro n h;rw[cW _ (.inl h.1)];exact one h
 |succ d ih=>
  intro n h
  by_cases h1:n.l.length=1
  ·obtain⟨c,hc⟩:=List.length_eq_one_iff.1 h1
   obtain⟨_,k,hk,hn⟩:=h.2.2 c (by rw[hc];exact List.mem_singleton_self c)
   rw[kZ n h.1 hc hk]
   obtain⟨d',h2,h3⟩:=ih hn
   exact⟨d',by omega,h3⟩
  ·rw[cW _ (.inr h1)];exact one h
def kC(l:List C):Nat:=(l.map lX).sum
theorem jW(a b:List C):kC (a++b)=kC a+kC b:=by unfold kC;rw[List.map_append,List.sum_append]
theorem bh(c:C)(l:List C):kC (c::l)=lX c+kC l:=by unfold kC;rw[List.map_cons,List.sum_cons]
theorem lI:kC []=0:=rfl
theorem aH(n:N):bd n=kC n.l:=yb n
theorem kf(p:Int)(b:Bool)(l:List C):bd (.mk p b l)=kC l:=by rw[aH];rfl
theorem jz(key:ByteArray)(k:N):lX (af key k)=1+bd k:=by rw[eU];simp[af,C.kid]
theorem cA{c:C}{k:N}(h:c.kid=[k]):lX c=1+bd k:=by rw[eU,h];simp
theorem wW(l:List C)(i:Nat):kC (l.take i)+kC (l.drop i)=kC l:=by rw[←jW,List.take_append_drop]
theorem kT{l m:List C}{i:Nat}{c:C}(h:l[i]? =some c):kC (aE l i m)+lX c=kC l+kC m:=by
 have h1:=wW l i
 have h2:l.drop i=c::l.drop (i+1):=by
  obtain⟨hlt,rfl⟩:=List.getElem?_eq_some_iff.1 h
  exact List.drop_eq_getElem_cons hlt
 rw[h2,bh]at h1
 unfold aE
 rw[jW,jW]
 omega
theorem u6(key:ByteArray)(l:List C):kC (bG key l)=kC l:=by
 cases l with
 |nil=>rfl
 |cons a l=>simp only[bG,bh,eU,C.uw]
theorem uC{n kid:N}{k:Nat}{c:C}(hc:n.l[k]? =some c)(hk:c.kid=[kid])(key:ByteArray):bd (aV n kid k key).1≤bd n+1:=by
 unfold aV
 simp only
 split
 ·simp
 ·have h1:=wW kid.l (atR (ae kid))
  have h2:=kT (m:=[af key (.mk 0 kid.leaf (kid.l.take (atR (ae kid)))),af (keyOf (kid.l.drop (atR (ae kid)))) (.mk 0 kid.leaf (if kid.leaf then(kid.l.drop (atR (ae kid)))else bG aZ (kid.l.drop (atR (ae kid)))))]) hc
  have h3:kC (if kid.leaf then(kid.l.drop (atR (ae kid)))else bG aZ (kid.l.drop (atR (ae kid))))=kC (kid.l.drop (atR (ae kid))):=by
   split
   ·rfl
   ·exact u6 _ _
  rw[bh,bh,lI,jz,jz,kf,kf,cA hk,aH kid,h3]at h2
  rw[kf,aH n]
  omega
theorem vg{l m:List C}{i:Nat}{c:C}(hi:i<l.length):(aE l i (c::m))[i]? =some c:=by
 unfold aE
 rw[List.append_assoc,List.getElem?_append_right (by rw[List.length_take];omega),List.length_take,show i-min i l.length=0 by omega]
 rfl
theorem uD{d:Nat}{n:N}{k:Nat}(hn:Nd (d+1) n)(hlt:k<n.l.length):bd (cC n k)≤bd n+1:=by
 obtain⟨c,kid,hc,e1,e2,hkid,hkey,hnd⟩:=cb hn hlt
 unfold cC
 simp only[e1,e2]
 split
 ·exact uC hc hkid _
 ·split
  ·omega
  ·rename_i h1 h2
   simp only[Bool.or_eq_true,decide_eq_true_eq,not_or]at h2
   have hj:(if k+1<n.l.length then k else k-1)+1<n.l.length:=by split <;>omega
   generalize (if k+1<n.l.length then k else k-1)=j at*
   obtain⟨c0,k0,hc0,f1,f2,hk0,hkey0,hnd0⟩:=cb hn (k:=j) (by omega)
   obtain⟨c1,k1,hc1,g1,g2,hk1,hkey1,hnd1⟩:=cb hn hj
   rw[f1,f2,g1,g2]
   have hwl:=cG (m:=[]) hj
   simp only[List.length_nil]at hwl
   have hj2:j<(aE n.l (j+1) []).length:=by omega
   refine Nat.le_trans (uC (c:=af c0.key (bM k0 k1 c1.key)) (vg hj2) rfl _) ?_
   have t1:=kT (m:=[]) hc1
   have hat:(aE n.l (j+1) [])[j]? =some c0:=by
    unfold aE
    rw[List.append_assoc,List.getElem?_append_left (by rw[List.length_take];omega),List.getElem?_take,if_pos (by omega)]
    exact hc0
   have t2:=kT (m:=[af c0.key (bM k0 k1 c1.key)]) hat
   have t3:bd (bM k0 k1 c1.key)=bd k0+bd k1:=by
    unfold bM
    rw[aH,N.eB,jW,aH k0,aH k1]
    split
    ·rfl
    ·rw[u6]
   rw[bh,lI,jz,t3,cA hk0]at t2
   rw[lI,cA hk1]at t1
   rw[aH,aH n,N.eB]
   omega
theorem Bk{l:List C}(h:∀c,c∈l→c.kid=[])(key val:ByteArray):kC (cO l key val)≤kC l+1:=by
 have ht:∀l:List C,(∀c,c∈l→c.kid=[])→kC l=l.length:=by
  intro l
  induction l with
  |nil=>intro _;rfl
  |cons a l ih=>
   intro h
   rw[bh,eU,h a List.mem_cons_self,ih fun c hc=>h c (List.mem_cons_of_mem _ hc),List.length_cons]
   simp;omega
 rw[ht l h,ht _ fun c hc=>(j5 hc).elim (h c) fun e=>by rw[e];rfl]
 exact A8 l key val
theorem sj{key val:ByteArray}(hk:key.size≤16)(hv:val.size≤400):∀{d:Nat} {n:N},Nd d n→bd (ct key val n)≤bd n+1+d
 |0,n,h=>by
  rw[fV _ _ _ h.1,aH,aH n,N.eB]
  have:=Bk (fun c hc=>(h.2 c hc).2) key val
  omega
 |d+1,n,h=>by
  have hw:=gN h.2.1 key
  obtain⟨c,kid,hc,_,_,hkid,hkey,hnd⟩:=cb h hw
  rw[jZ _ _ _ h.1 hc hkid]
  have h1:=il h hw 0 (m:=[af c.key (ct key val kid)]) (.inr (by simp)) fun c' hc'=>by
   rw[List.mem_singleton]at hc';subst hc';exact dG hkey (gJ hk hv hnd)
  have h2:=cG (m:=[af c.key (ct key val kid)]) hw
  have h3:=uD h1 (k:=fU n.l key) (by simp only[N.eB,List.length_cons,List.length_nil]at *;omega)
  have h4:=kT (m:=[af c.key (ct key val kid)]) hc
  have h5:=sj hk hv hnd
  rw[bh,lI,jz,cA hkid]at h4
  rw[aH (.mk 0 false _),N.eB]at h3
  rw[aH n]
  omega
theorem FF{d:Nat}:∀{n:N},Nd d n→bd (jT n)≤bd n+2:=by
 have one:∀{d:Nat} {n:N},Nd d n→bd (if atR (ae n)=0 then n else cC (.mk 0 false [af aZ n]) 0)≤bd n+2:=fun{d n} h=>by
  split
  ·omega
  ·have:=uD (d:=d) (n:= .mk 0 false [af aZ n]) (k:=0) ⟨rfl,by simp[N.l],fun c hc=>by
    simp only[N.eB,List.mem_singleton]at hc
    subst hc
    exact dG (by rw[bC];omega) h⟩ (by simp[N.l])
   rw[aH (.mk 0 false _),N.eB,bh,lI,jz]at this
   omega
 induction d with
 |zero=>intro n h;rw[cW _ (.inl h.1)];exact one h
 |succ d ih=>
  intro n h
  by_cases h1:n.l.length=1
  ·obtain⟨c,hc⟩:=List.length_eq_one_iff.1 h1
   obtain⟨_,k,hk,hn⟩:=h.2.2 c (by rw[hc];exact List.mem_singleton_self c)
   rw[kZ n h.1 hc hk]
   have:=ih hn
   have:=dH (c:=c) (k:=k) (n:=n) (by rw[hc];exact List.mem_singleton_self c) hk
   omega
  ·rw[cW _ (.inr h1)];exact one h
def ld(key val:ByteArray)(n:N):N:=jT (ct key val n)
theorem Tl{key val:ByteArray}(hk:key.size≤16)(hv:val.size≤400){d:Nat}{n:N}(h:Nd d n):∃d',d'≤d+1∧Nd d' (ld key val n)∧bd (ld key val n)≤bd n+d+3:=by
 have h1:=gJ hk hv h
 obtain⟨d',h2,h3⟩:=KM h1
 have:=sj hk hv h
 have:=FF h1
 exact⟨d',h2,h3,by unfold ld;omega⟩
def cF(key:ByteArray):N→Option ByteArray
 | .mk p true l=>(l.find? fun c=>fh c.key key).map C.data
 | .mk p false l=>match h:l[fU l key]? with
  |some (.mk ck cd cp (k::r))=>cF key k
  |_=>none
termination_by n=>SizeOf.sizeOf n
decreasing_by
 have h1:=List.sizeOf_lt_of_mem (List.mem_of_getElem? h)
 simp at h1 ⊢;omega
theorem oH(key:ByteArray)(n:N)(h:n.leaf=true):cF key n=(n.l.find? fun c=>fh c.key key).map C.data:=by
 cases n with|mk p b l=>simp only[N.leaf]at h;subst h;rw[cF];rfl
theorem vn(key:ByteArray)(n:N)(h:n.leaf=false){c:C}{k:N}(hc:n.l[fU n.l key]? =some c)(hk:c.kid=[k]):cF key n=cF key k:=by
 cases n with|mk p b l=>
 simp only[N.leaf]at h;subst h
 cases c with|mk ck cd cp cr=>
 simp only[C.kid]at hk;subst hk
 simp only[N.l]at hc
 rw[cF]
 split
 ·rename_i h1;rw[hc]at h1;cases h1;rfl
 ·rename_i h1;exact absurd hc (h1 _ _ _ _ _)
def aD(key:ByteArray):N→N
 | .mk p true l=> .mk 0 true (l.filter fun c=>!fh c.key key)
 | .mk p false l=>match h:l[fU l key]? with
  |some (.mk ck cd cp (k::r))=>cC (.mk 0 false (l.set (fU l key) (.mk ck cd cp [aD key k]))) (fU l key)
  |_=> .mk 0 true []
termination_by n=>SizeOf.sizeOf n
decreasing_by
 have h1:=List.sizeOf_lt_of_mem (List.mem_of_getElem? h)
 simp at h1 ⊢;omega
theorem cn(key:ByteArray)(n:N)(h:n.leaf=true):aD key n= .mk 0 true (n.l.filter fun c=>!fh c.key key):=by
 cases n with|mk p b l=>simp only[N.leaf]at h;subst h;rw[aD];rfl
theorem fk(key:ByteArray)(n:N)(h:n.leaf=false){c:C}{k:N}(hc:n.l[fU n.l key]? =some c)(hk:c.kid=[k]):aD key n=cC (.mk 0 false (n.l.set (fU n.l key) (.mk c.key c.data c.ai [aD key k]))) (fU n.l key):=by
 cases n with|mk p b l=>
 simp only[N.leaf]at h;subst h
 cases c with|mk ck cd cp cr=>
 simp only[C.kid]at hk;subst hk
 simp only[N.l]at hc ⊢
 rw[aD]
 split
 ·rename_i h1;rw[hc]at h1;cases h1;rfl
 ·rename_i h1;exact absurd hc (h1 _ _ _ _ _)
theorem mem_set{α:Type}:∀{l:List α} {i:Nat} {a b:α},b∈l.set i a→b∈l∨b=a
 |[],_,_,_,h=>by simp at h
 |x::l,0,a,b,h=>by
  rw[List.set_cons_zero]at h
  rcases List.mem_cons.1 h with rfl|h
  ·exact .inr rfl
  ·exact .inl (List.mem_cons_of_mem _ h)
 |x::l,i+1,a,b,h=>by
  rw[List.set_cons_succ]at h
  rcases List.mem_cons.1 h with rfl|h
  ·exact .inl List.mem_cons_self
  ·exact(mem_set h).imp (List.mem_cons_of_mem _) id
theorem qH{d:Nat}{n:N}(hn:Nd (d+1) n){i:Nat}(hi:i<n.l.length){c':C}(h:Sl c'∧∃k,c'.kid=[k]∧Nd d k):Nd (d+1) (.mk 0 false (n.l.set i c')):=
 ⟨rfl,fun e=>by have:=congrArg List.length e;simp only[N.eB,List.length_set,List.length_nil]at this;omega,fun c hc=>by
  rcases mem_set hc with hc|rfl
  ·exact hn.2.2 c hc
  ·exact h⟩
theorem EZ{l:List C}{i:Nat}{c c':C}(h:l[i]? =some c):kC (l.set i c')+lX c=kC l+lX c':=by
 induction l generalizing i with
 |nil=>simp at h
 |cons a l ih=>
  cases i with
  |zero=>simp at h;subst h;rw[List.set_cons_zero,bh,bh];omega
  |succ i=>rw[List.set_cons_succ,bh,bh];have:=ih (i:=i) (by simpa using h);omega
theorem cL{key:ByteArray}:∀{d:Nat} {n:N},Nd d n→Nd d (aD key n)
 |0,n,h=>by
  rw[cn _ _ h.1]
  exact⟨rfl,fun c hc=>h.2 c (List.mem_filter.1 hc).1⟩
 |d+1,n,h=>by
  have hw:=gN h.2.1 key
  obtain⟨c,kid,hc,_,_,hkid,hkey,hnd⟩:=cb h hw
  rw[fk _ _ h.1 hc hkid]
  refine so (qH h hw ⟨(h.2.2 c (List.mem_of_getElem? hc)).1,_,rfl,cL hnd⟩) ?_
  simp only[N.eB,List.length_set];exact hw
theorem Ej(p:C→Bool)(l:List C):kC (l.filter p)≤kC l:=by
 induction l with
 |nil=>exact Nat.le_refl _
 |cons a l ih=>
  rw[List.filter_cons,bh]
  split
  ·rw[bh];omega
  ·omega
theorem j1{key:ByteArray}:∀{d:Nat} {n:N},Nd d n→bd (aD key n)≤bd n+d
 |0,n,h=>by
  rw[cn _ _ h.1,kf,aH n]
  exact Ej _ _
 |d+1,n,h=>by
  have hw:=gN h.2.1 key
  obtain⟨c,kid,hc,_,_,hkid,hkey,hnd⟩:=cb h hw
  rw[fk _ _ h.1 hc hkid]
  have h1:=qH h hw (c':= .mk c.key c.data c.ai [aD key kid]) ⟨(h.2.2 c (List.mem_of_getElem? hc)).1,_,rfl,cL hnd⟩
  have h2:=uD h1 (k:=fU n.l key) (by simp only[N.eB,List.length_set];exact hw)
  have h3:=EZ hc (c':= .mk c.key c.data c.ai [aD key kid])
  have h4:=j1 hnd (key:=key)
  rw[cA hkid,cA (k:=aD key kid) rfl]at h3
  rw[kf]at h2
  rw[aH n]
  omega
def mg(key:ByteArray)(n:N):N:=if(cF key n).isSome then jT (aD key n)else n
theorem SB{key:ByteArray}{d:Nat}{n:N}(h:Nd d n):∃d',d'≤d+1∧Nd d' (mg key n)∧bd (mg key n)≤bd n+d+3:=by
 unfold mg
 split
 ·have h1:=cL (key:=key) h
  obtain⟨d',h2,h3⟩:=KM h1
  have:=j1 h (key:=key)
  have:=FF h1
  exact⟨d',h2,h3,by omega⟩
 ·exact⟨d,by omega,h,by omega⟩
theorem vY:∀(a:List UInt8),Op.bytesLess a a=false
 |[]=>rfl
 |x::a=>by simp[Op.bytesLess,vY a]
theorem zM:∀{a b c:List UInt8},Op.bytesLess a b=true→Op.bytesLess b c=true→Op.bytesLess a c=true
 |[],[],_,h,_=>by simp[Op.bytesLess]at h
 |[],_::_,[],_,h=>by simp[Op.bytesLess]at h
 |[],_::_,_::_,_,_=>by simp[Op.bytesLess]
 |_::_,[],_,h,_=>by simp[Op.bytesLess]at h
 |_::_,_::_,[],_,h=>by simp[Op.bytesLess]at h
 |x::a,y::b,z::c,h1,h2=>by
  simp only[Op.bytesLess,Bool.or_eq_true,decide_eq_true_eq,Bool.and_eq_true,beq_iff_eq]at h1 h2 ⊢
  rcases h1 with h1|⟨rfl,h1⟩
  ·rcases h2 with h2|⟨rfl,h2⟩
   ·exact .inl (UInt8.lt_trans h1 h2)
   ·exact .inl h1
  ·rcases h2 with h2|⟨rfl,h2⟩
   ·exact .inl h2
   ·exact .inr ⟨rfl,zM h1 h2⟩
theorem MY:∀(a b:List UInt8),Op.bytesLess a b=true∨a=b∨Op.bytesLess b a=true
 |[],[]=> .inr (.inl rfl)
 |[],_::_=> .inl (by simp[Op.bytesLess])
 |_::_,[]=> .inr (.inr (by simp[Op.bytesLess]))
 |x::a,y::b=>by
  simp only[Op.bytesLess,Bool.or_eq_true,decide_eq_true_eq,Bool.and_eq_true,beq_iff_eq]
  rcases UInt8.lt_or_lt_of_ne (a:=x) (b:=y)|>fun f=>Classical.em (x=y) |>.elim (fun h=>Or.inr h) fun h=>Or.inl (f h)with h|rfl
  ·rcases h with h|h
   ·exact .inl (.inl h)
   ·exact .inr (.inr (.inl h))
  ·rcases MY a b with h|rfl|h
   ·exact .inl (.inr ⟨rfl,h⟩)
   ·exact .inr (.inl rfl)
   ·exact .inr (.inr (.inr ⟨rfl,h⟩))
theorem CY{a b:ByteArray}(h:a.data.toList=b.data.toList):a=b:=by
 cases a;cases b;simp only[ByteArray.mk.injEq];exact Array.toList_inj.1 h
theorem cR{a b:ByteArray}:fh a b=true↔a=b:=by
 unfold fh
 rw[decide_eq_true_eq]
 exact⟨CY,fun h=>h▸rfl⟩
theorem fE(a:ByteArray):fh a a=true:=cR.2 rfl
theorem dc{a b:ByteArray}:fh a b=false↔a≠b:=by rw[←Bool.not_eq_true,cR]
theorem cK(a:ByteArray):cI a a=false:=vY _
theorem fT{a b c:ByteArray}(h:cI a b=true)(k:cI b c=true):cI a c=true:=zM h k
theorem nC(a b:ByteArray):cI a b=true∨a=b∨cI b a=true:=(MY a.data.toList b.data.toList).imp id (Or.imp CY id)
theorem fm{a b:ByteArray}(h:cI a b=true):cI b a=false:=by
 rw[←Bool.not_eq_true];intro k
 have:=fT h k
 rw[cK]at this;cases this
theorem bP{a b:ByteArray}(h:cI a b=true):a≠b:=by rintro rfl;rw[cK]at h;cases h
theorem Ky(a b:ByteArray):mq a b=!cI b a:=by
 unfold mq
 rcases nC a b with h|rfl|h
 ·rw[fm h,show Op.bytesLess a.data.toList b.data.toList=true from h];rfl
 ·rw[cK];simp
 ·have h1:=fm h
  have h2:¬a.data.toList=b.data.toList:=fun e=>bP h (CY e).symm
  rw[h,show Op.bytesLess a.data.toList b.data.toList=false from h1,decide_eq_false h2];rfl
theorem im{a b:ByteArray}:mq a b=true↔cI b a=false:=by rw[Ky];simp
theorem pd(a:ByteArray):mq a a=true:=im.2 (cK a)
theorem s6{a b:ByteArray}:mq a b=false↔cI b a=true:=by rw[Ky];simp
theorem rf{a b:ByteArray}(h:cI a b=true):mq a b=true:=im.2 (fm h)
theorem lY{a b c:ByteArray}(h:mq a b=true)(k:cI b c=true):cI a c=true:=by
 rcases nC a b with h1|rfl|h1
 ·exact fT h1 k
 ·exact k
 ·rw[im.1 h]at h1;cases h1
theorem iu{a b c:ByteArray}(h:cI a b=true)(k:mq b c=true):cI a c=true:=by
 rcases nC b c with h1|rfl|h1
 ·exact fT h h1
 ·exact h
 ·rw[im.1 k]at h1;cases h1
theorem od(a:ByteArray):mq aZ a=true:=by
 rw[im];unfold cI;show Op.bytesLess _ []=false;cases a.data.toList <;>rfl
theorem tA(l:List Int):∀j p,1≤p→p≤j+1→fv l (wD l j)≤fv l p
 |0,p,h1,h2=>by have:p=1:=by omega
                subst this;exact Int.le_refl _
 |j+1,p,h1,h2=>by
  simp only[wD]
  split
  ·rename_i h
   rcases Nat.lt_or_ge p (j+2)with h3|h3
   ·have:=tA l j p h1 (by omega);omega
   ·have:p=j+2:=by omega
    subst this;exact Int.le_refl _
  ·rename_i h
   rcases Nat.lt_or_ge p (j+2)with h3|h3
   ·exact tA l j p h1 (by omega)
   ·have:p=j+2:=by omega
    subst this;omega
theorem ku(l:List Int)(p:Nat):(l.take p).sum+(l.drop p).sum=l.sum:=by
 rw[←List.sum_append,List.take_append_drop]
theorem Fv{l:List Int}(h:∀x,x∈l→0≤x):0≤l.sum:=by
 induction l with
 |nil=>exact Int.le_refl _
 |cons a l ih=>have:=ih fun x hx=>h x (List.mem_cons_of_mem _ hx);have:=h a List.mem_cons_self;rw[List.sum_cons];omega
theorem half{m:Int}(hm:0≤m):∀(l:List Int),(∀x,x∈l→0≤x∧x≤m)→∀u:Int,0≤u→u≤2*l.sum→∃p,p≤l.length∧2*(l.take p).sum≤u+m∧u≤2*(l.take p).sum+m:=by
 intro l
 induction l with
 |nil=>intro _ u h0 h1;exact⟨0,Nat.le_refl _,by simp at *;omega,by simp at *;omega⟩
 |cons a l ih=>
  intro h u h0 h1
  obtain⟨a0,am⟩:=h a List.mem_cons_self
  rw[List.sum_cons]at h1
  by_cases ht:u≤a
  ·exact⟨0,Nat.zero_le _,by simp;omega,by simp;omega⟩
  ·by_cases hta:u≤2*a
   ·exact⟨1,by simp,by simp;omega,by simp;omega⟩
   ·obtain⟨p,p1,p2,p3⟩:=ih (fun x hx=>h x (List.mem_cons_of_mem _ hx)) (u-2*a) (by omega) (by omega)
    exact⟨p+1,by simp;omega,by rw[List.take_succ_cons,List.sum_cons];omega,by rw[List.take_succ_cons,List.sum_cons];omega⟩
theorem Hc{l:List Int}{m:Int}(h:∀x,x∈l→0≤x∧x≤m)(h0:122<l.sum)(hm0:0≤m)(hm:m≤35):
 1≤atR l∧atR l<l.length∧2*(l.take (atR l)).sum≤l.sum+m∧2*(l.drop (atR l)).sum≤l.sum+m:=by
 obtain⟨p,p1,p2,p3⟩:=half hm0 l h l.sum (by omega) (by omega)
 have hp0:p≠0:=by rintro rfl;simp at p3;omega
 have hpl:p≠l.length:=by rintro rfl;rw[List.take_length]at p2;omega
 have hb:=tA l (l.length-2) p (by omega) (by omega)
 have hat:atR l=wD l (l.length-2):=by unfold atR;rw[if_neg];rintro(h|h) <;>omega
 have hle:=CQ l (l.length-2)
 rw[hat]
 generalize wD l (l.length-2)=q at*
 have sp:=ku l p
 have sq:=ku l q
 refine⟨hle.1,by omega,?_,?_⟩
 ·unfold fv at hb
  split at hb <;>split at hb <;>omega
 ·unfold fv at hb
  split at hb <;>split at hb <;>omega
theorem o7{l:List Int}(h:l.sum≤122):atR l=0:=by unfold atR;rw[if_pos (.inl h)]
mutual
def de:N→List C
 | .mk _ b l=>QP b l
def iU(b:Bool):C→List C
 | .mk k d ps kid=>if b then [.mk k d ps kid]else Zd kid
def QP(b:Bool):List C→List C
 |[]=>[]
 |c::l=>iU b c++QP b l
def Zd:List N→List C
 |[]=>[]
 |n::_=>de n
end
theorem G2(b:Bool)(l:List C):QP b l=l.flatMap (iU b):=by
 induction l with
 |nil=>rfl
 |cons c l ih=>rw[QP,ih,List.flatMap_cons]
theorem ca(n:N):de n=n.l.flatMap (iU n.leaf):=by cases n;rw[de,G2];rfl
theorem fP(p:Int)(b:Bool)(l:List C):de (.mk p b l)=l.flatMap (iU b):=by rw[ca];rfl
theorem JH(c:C):iU true c=[c]:=by cases c;rfl
theorem bc{c:C}{k:N}(h:c.kid=[k]):iU false c=de k:=by
 cases c with|mk a b d e=>
 simp only[C.uw]at h
 subst h;rfl
theorem cZ(key:ByteArray)(k:N):iU false (af key k)=de k:=bc rfl
theorem fZ(l:List C):l.flatMap (iU true)=l:=by
 induction l with
 |nil=>rfl
 |cons c l ih=>rw[List.flatMap_cons,JH,ih];rfl
theorem cm{n:N}(h:n.leaf=true):de n=n.l:=by rw[ca,h,fZ]
def ZK(c:C):Prop:=c.key≠aZ∧c.key.size≤16∧c.data.size≤400∧(c.ai≠[]→16<c.data.size)∧c.ai.length≤4∧c.kid=[]
def ShK(c:C):Prop:=c.key.size≤16∧c.data=aZ∧c.ai=[]
def RC(c c':C):Prop:=cI c.key c'.key=true∧∀x,x∈iU false c→cI x.key c'.key=true
def dj(l:List C):Prop:=l.Pairwise fun a b=>cI a.key b.key=true
def Fits(n:N):Prop:=30≤(ae n).sum∧(ae n).sum≤122
def iE(G F:N→Prop)(c:C):Prop:=ShK c∧(∀x,x∈iU false c→mq c.key x.key=true)∧∃k,c.kid=[k]∧G k∧F k
structure RR(G:N→Prop)(l:List C):Prop where
 k0:keyOf l=aZ
 pw:l.Pairwise RC
 cell:∀c,c∈l→iE G Fits c
def Good:Nat→N→Prop
 |0,n=>n.leaf=true∧dj n.l∧∀c,c∈n.l→ZK c
 |d+1,n=>n.leaf=false∧n.l≠[]∧RR (Good d) n.l
structure SN(d:Nat)(A:List C)(c:C)(B:List C):Prop where
 k0:keyOf (A++c::B)=aZ
 pw:(A++c::B).Pairwise RC
 ahead:∀x,x∈A→iE (Good d) Fits x
 behind:∀x,x∈B→iE (Good d) Fits x
 own:iE (Good d) (fun k=>(ae k).sum≤167) c
theorem aw:∀{d:Nat} {n:N},Good d n→Nd d n
 |0,n,h=>⟨h.1,fun c hc=>by obtain⟨h1,h2,h3,h4,h5,h6⟩:=h.2.2 c hc;exact⟨⟨h2,h3,h5⟩,h6⟩⟩
 |d+1,n,h=>⟨h.1,h.2.1,fun c hc=>by
  obtain⟨⟨h1,h2,h3⟩,h4,k,h5,h6,h7⟩:=h.2.2.cell c hc
  exact⟨⟨h1,by rw[h2,bC];omega,by rw[h3];exact Nat.le_refl _⟩,k,h5,aw h6⟩⟩
theorem fL(c:C):aX false c=4+c.key.size:=rfl
theorem size_leaf{c:C}(h:c.key.size≤16∧c.data.size≤400):0≤aX true c∧aX true c≤35:=by
 unfold aX need
 simp only[if_true]
 split
 ·split <;>omega
 ·split <;>omega
theorem cw(p:Int)(b:Bool)(l:List C):ae (.mk p b l)=l.map (aX b):=rfl
theorem gY:∀{d:Nat} {n:N},Good d n→∀x,x∈ae n→0≤x∧x≤(if d=0 then 35 else 20)
 |0,n,h,x,hx=>by
  unfold ae at hx
  obtain⟨c,hc,rfl⟩:=List.mem_map.1 hx
  obtain⟨h1,h2,h3,_⟩:=h.2.2 c hc
  rw[h.1]
  exact size_leaf ⟨h2,h3⟩
 |d+1,n,h,x,hx=>by
  unfold ae at hx
  obtain⟨c,hc,rfl⟩:=List.mem_map.1 hx
  have:=(h.2.2.cell c hc).1.1
  rw[h.1,fL,if_neg (by omega)]
  omega
theorem pc{n:N}(h:Fits n):n.l≠[]:=by
 intro e
 have:=h.1
 unfold ae at this
 rw[e]at this
 simp at this
theorem yd:∀{d:Nat} {n:N},Good d n→n.l≠[]→de n≠[]
 |0,n,h,hn=>by rw[cm h.1];exact hn
 |d+1,n,h,hn=>by
  obtain⟨c,l,hl⟩:∃c l,n.l=c::l:=by cases hx:n.l with|nil=>exact absurd hx hn|cons c l=>exact⟨c,l,rfl⟩
  obtain⟨_,_,k,h5,h6,h7⟩:=h.2.2.cell c (by rw[hl];exact List.mem_cons_self)
  have:=yd h6 (pc h7)
  rw[ca,h.1,hl,List.flatMap_cons,bc h5]
  intro e
  exact this (List.append_eq_nil_iff.1 e).1
theorem lK{d:Nat}{c:C}(h:iE (Good d) Fits c):∃x,x∈iU false c:=by
 obtain⟨_,_,k,h5,h6,h7⟩:=h
 rw[bc h5]
 exact List.exists_mem_of_ne_nil _ (yd h6 (pc h7))
theorem jE(key:ByteArray){a:C}(l:List C):bG key (a::l)= .mk key a.data a.ai a.kid::l:=rfl
theorem lQ(key:ByteArray)(c:C):iU false (.mk key c.data c.ai c.kid)=iU false c:=by cases c;simp[iU,C.kid]
theorem mL(key:ByteArray)(l:List C):(bG key l).flatMap (iU false)=l.flatMap (iU false):=by
 cases l with
 |nil=>rfl
 |cons a l=>rw[jE,List.flatMap_cons,List.flatMap_cons,lQ]
theorem OJ{G:N→Prop}{l:List C}(h1:l.Pairwise RC)(h2:∀c,c∈l→dj (iU false c)∧∀x,x∈iU false c→mq c.key x.key=true):dj (l.flatMap (iU false)):=by
 unfold dj
 induction l with
 |nil=>exact List.Pairwise.nil
 |cons c l ih=>
  rw[List.pairwise_cons]at h1
  rw[List.flatMap_cons,List.pairwise_append]
  refine⟨(h2 c List.mem_cons_self).1,ih h1.2 fun x hx=>h2 x (List.mem_cons_of_mem _ hx),fun x hx y hy=>?_⟩
  obtain⟨c',hc',hy⟩:=List.mem_flatMap.1 hy
  exact iu ((h1.1 c' hc').2 x hx) ((h2 c' (List.mem_cons_of_mem _ hc')).2 y hy)
theorem wu:∀{d:Nat} {n:N},Good d n→dj (de n)
 |0,n,h=>by rw[cm h.1];exact h.2.1
 |d+1,n,h=>by
  rw[ca,h.1]
  refine OJ (G:=Good d) h.2.2.pw fun c hc=>?_
  obtain⟨_,h4,k,h5,h6,h7⟩:=h.2.2.cell c hc
  exact⟨by rw[bc h5];exact wu h6,h4⟩
theorem eS{l m:List C}{R:C→C→Prop}:(l++m).Pairwise R↔l.Pairwise R∧m.Pairwise R∧∀a,a∈l→∀b,b∈m→R a b:=List.pairwise_append
theorem gj(A:List C)(c:C)(B m:List C):aE (A++c::B) A.length m=A++m++B:=by
 unfold aE
 rw[List.take_left',List.append_assoc,List.append_assoc,show A.length+1=(A++[c]).length by simp,show A++c::B=(A++[c])++B by simp,List.drop_left']
 ·rfl
 ·rfl
theorem qo{A B B':List C}(h:keyOf B=keyOf B')(hB:B≠[])(hB':B'≠[]):keyOf (A++B)=keyOf (A++B'):=by
 cases A with
 |nil=>exact h
 |cons a A=>rfl
theorem Ps{d:Nat}{A B m:List C}{c:C}(h:SN d A c B)(hm:m≠[])(h0:keyOf m=c.key)(hp:m.Pairwise RC)(hcell:∀x,x∈m→iE (Good d) Fits x)(hle:∀x,x∈m→mq c.key x.key=true)
 (hU:∀b,b∈B→∀x,x∈m→RC x b):RR (Good d) (A++m++B):=by
 obtain⟨p1,p2,p3⟩:=eS.1 h.pw
 rw[List.pairwise_cons]at p2
 refine⟨?_,?_,?_⟩
 ·rw[←h.k0,List.append_assoc]
  refine qo ?_ (by simp[hm]) (by simp)
  cases m with
  |nil=>exact absurd rfl hm
  |cons x m=>exact h0
 ·rw[List.append_assoc,eS,eS]
  refine⟨p1,⟨hp,p2.2,fun x hx b hb=>hU b hb x hx⟩,fun a ha x hx=>?_⟩
  rcases List.mem_append.1 hx with hx|hx
  ·have:=p3 a ha c List.mem_cons_self
   exact⟨iu this.1 (hle x hx),fun y hy=>iu (this.2 y hy) (hle x hx)⟩
  ·exact p3 a ha x (List.mem_cons_of_mem _ hx)
 ·intro x hx
  rcases List.mem_append.1 hx with hx|hx
  ·rcases List.mem_append.1 hx with hx|hx
   ·exact h.ahead x hx
   ·exact hcell x hx
  ·exact h.behind x hx
theorem Eo(n:N)(i:Nat):(n.l.take i).map (aX n.leaf)=(ae n).take i:=by unfold ae;rw[List.map_take]
theorem C8(n:N)(i:Nat):(n.l.drop i).map (aX n.leaf)=(ae n).drop i:=by unfold ae;rw[List.map_drop]
theorem QJ{d:Nat}{n:N}(h:Good d n)(h0:122<(ae n).sum)(h1:(ae n).sum≤167){i:Nat}(hi:i=atR (ae n)){r:List C}(hr:r=n.l.drop i):
 i≠0∧Good d (.mk 0 n.leaf (n.l.take i))∧Fits (.mk 0 n.leaf (n.l.take i))∧Good d (.mk 0 n.leaf (if n.leaf then r else bG aZ r))∧Fits (.mk 0 n.leaf (if n.leaf then r else bG aZ r))∧
 de (.mk 0 n.leaf (n.l.take i))++de (.mk 0 n.leaf (if n.leaf then r else bG aZ r))=de n∧(keyOf r).size≤16∧(∀x,x∈de (.mk 0 n.leaf (n.l.take i))→cI x.key (keyOf r)=true)∧
 (∀x,x∈de (.mk 0 n.leaf (if n.leaf then r else bG aZ r))→mq (keyOf r) x.key=true)∧(∃y,y∈de n∧mq (keyOf r) y.key=true):=by
 have hs:=gY h
 have hm:∀x,x∈ae n→0≤x∧x≤35:=fun x hx=>by have:=hs x hx;split at this <;>omega
 obtain⟨a1,a2,a3,a4⟩:=Hc (m:=if d=0 then 35 else 20) hs h0 (by split <;>omega) (by split <;>omega)
 have asum:=ku (ae n) (atR (ae n))
 rw[←hi]at a1 a2 a3 a4 asum
 have hlen:(ae n).length=n.l.length:=by unfold ae;rw[List.length_map]
 obtain⟨c,r',hc⟩:∃c r',r=c::r':=by
  cases hx:r with
  |nil=>have:=congrArg List.length (hr.symm.trans hx);rw[List.length_drop]at this;simp at this;omega
  |cons c r'=>exact⟨c,r',rfl⟩
 have happ:n.l.take i++(c::r')=n.l:=by rw[←hc,hr,List.take_append_drop]
 have hcm:c∈n.l:=by rw[←happ];simp
 have htk:n.l.take i≠[]:=fun e=>by have:=congrArg List.length e;rw[List.length_take,List.length_nil]at this;omega
 have st:=congrArg List.sum (Eo n i)
 have sd:=congrArg List.sum (C8 n i)
 rw[←hr]at sd
 cases d with
 |zero=>
  have hlf:=h.1
  rw[hlf]at st sd ⊢
  simp only[if_true]at*
  have hrise:=h.2.1
  unfold dj at hrise
  rw[←happ,eS]at hrise
  obtain⟨q1,q2,q3⟩:=hrise
  rw[hc]
  refine⟨by omega,⟨rfl,q1,fun x hx=>h.2.2 x (List.mem_of_mem_take hx)⟩,⟨?_,?_⟩,⟨rfl,q2,fun x hx=>h.2.2 x (by rw[←happ];exact List.mem_append_right _ hx)⟩,⟨?_,?_⟩,?_,(h.2.2 c hcm).2.1,?_,?_,c,by rw[cm hlf];exact hcm,pd _⟩
  ·rw[cw,st];omega
  ·rw[cw,st];omega
  ·rw[cw,←hc,sd];omega
  ·rw[cw,←hc,sd];omega
  ·rw[fP,fP,fZ,fZ,cm hlf,happ]
  ·intro x hx
   rw[fP,fZ]at hx
   exact q3 x hx c List.mem_cons_self
  ·intro x hx
   rw[fP,fZ]at hx
   rcases List.mem_cons.1 hx with rfl|hx
   ·exact pd _
   ·rw[List.pairwise_cons]at q2
    exact rf (q2.1 x hx)
 |succ d=>
  have hlf:=h.1
  have hB:=h.2.2
  rw[hlf]at st sd ⊢
  simp only[Bool.false_eq_true,if_false,show¬(d+1=0)by omega]at*
  have hpw:=hB.pw
  rw[←happ,eS]at hpw
  obtain⟨q1,q2,q3⟩:=hpw
  rw[List.pairwise_cons]at q2
  have hcG:=hB.cell c hcm
  obtain⟨x0,hx0⟩:=lK hcG
  have hk:∀x,x∈(c::r').flatMap (iU false)→mq c.key x.key=true:=fun x hx=>by
   obtain⟨c',hc',hx2⟩:=List.mem_flatMap.1 hx
   rcases List.mem_cons.1 hc' with e|hc'
   ·rw[e]at hx2;exact hcG.2.1 x hx2
   ·exact rf (iu (q2.1 c' hc').1 ((hB.cell c' (by rw[←happ];simp[hc'])).2.1 x hx2))
  rw[hc]
  have hsz:=hcG.1.1
  have e1:((bG aZ (c::r')).map (aX false)).sum=((c::r').map (aX false)).sum-c.key.size:=by
   rw[jE,List.map_cons,List.sum_cons,List.map_cons,List.sum_cons,fL,fL,C.lE,bC];omega
  have en:(n.l.take i).flatMap (iU false)++(c::r').flatMap (iU false)=de n:=by rw[ca,hlf,←List.flatMap_append,happ]
  refine⟨by omega,⟨rfl,htk,⟨?_,q1,fun x hx=>hB.cell x (List.mem_of_mem_take hx)⟩⟩,⟨?_,?_⟩,⟨rfl,by simp[bG,N.l],⟨rfl,?_,?_⟩⟩,⟨?_,?_⟩,?_,hsz,?_,?_,?_⟩
  ·rw[←hB.k0]
   show keyOf (n.l.take i)=keyOf n.l
   obtain⟨a,t,ht⟩:∃a t,n.l.take i=a::t:=by cases hx:n.l.take i with|nil=>exact absurd hx htk|cons a t=>exact⟨a,t,rfl⟩
   rw[ht]at happ ⊢
   rw[←happ];rfl
  ·rw[cw,st];omega
  ·rw[cw,st];omega
  ·show(bG aZ (c::r')).Pairwise RC
   rw[jE,List.pairwise_cons]
   refine⟨fun b hb=>⟨lY (od _) (q2.1 b hb).1,fun x hx=>?_⟩,q2.2⟩
   rw[lQ]at hx
   exact(q2.1 b hb).2 x hx
  ·intro x hx
   rcases List.mem_cons.1 hx with rfl|hx
   ·obtain⟨⟨w1,w2,w3⟩,w4,w5⟩:=hcG
    exact⟨⟨by show aZ.size≤16;rw[bC];omega,w2,w3⟩,fun y _=>od _,w5⟩
   ·exact hB.cell x (by rw[←happ];simp[hx])
  ·rw[cw,e1,←hc,sd];omega
  ·rw[cw,e1,←hc,sd];omega
  ·rw[fP,fP,mL,en]
  ·intro x hx
   rw[fP]at hx
   obtain⟨c',hc',hx⟩:=List.mem_flatMap.1 hx
   exact(q3 c' hc' c List.mem_cons_self).2 x hx
  ·intro x hx
   rw[fP,mL]at hx
   exact hk x hx
  ·exact⟨x0,by rw[←en];exact List.mem_append_right _ (List.mem_flatMap.2 ⟨c,List.mem_cons_self,hx0⟩),hcG.2.1 x0 hx0⟩
theorem qQ{d:Nat}{p:Int}{A B:List C}{c:C}{kid:N}(h:SN d A c B)(hk:c.kid=[kid]){m:N×Bool}(hm:m=aV (.mk p false (A++c::B)) kid A.length c.key):
 (m.2=false∧m.1= .mk p false (A++c::B)∧(ae kid).sum≤122)∨(m.2=true∧m.1.leaf=false∧m.1.l.length=A.length+B.length+2∧RR (Good d) m.1.l∧de m.1=(A++c::B).flatMap (iU false)∧m.1.ak=0∧(ae m.1).sum≤((A++c::B).map (aX false)).sum+20):=by
 obtain⟨o1,o2,kid',o3,o4,o5⟩:=h.own
 rw[hk]at o3;cases o3
 rw[bc hk]at o2
 have hs:=gY o4
 rcases Int.lt_or_le 122 (ae kid).sum with h0|h0
 ·refine .inr ?_
  obtain⟨i,hi⟩:∃i,i=atR (ae kid):=⟨_,rfl⟩
  obtain⟨r,hr⟩:∃r,r=kid.l.drop i:=⟨_,rfl⟩
  obtain⟨q0,q1,q2,q3,q4,q5,q6,q7,q8,y,q9,q10⟩:=QJ o4 h0 o5 hi hr
  unfold aV at hm
  simp only[←hi,if_neg q0,←hr]at hm
  rw[hm]
  generalize hX:(N.mk 0 kid.leaf (List.take i kid.l))=X at*
  generalize hY:(N.mk 0 kid.leaf (if kid.leaf=true then r else bG aZ r))=Y at*
  simp only[N.eB,N.ny,N.FJ,gj]
  have hne:de X≠[]:=yd q1 (pc q2)
  obtain⟨x0,hx0⟩:=List.exists_mem_of_ne_nil _ hne
  have hX':∀x,x∈de X→x∈de kid:=fun x hx=>by rw[←q5];exact List.mem_append_left _ hx
  have hY':∀x,x∈de Y→x∈de kid:=fun x hx=>by rw[←q5];exact List.mem_append_right _ hx
  obtain⟨p1,p2,p3⟩:=eS.1 h.pw
  rw[List.pairwise_cons]at p2
  refine⟨trivial,trivial,by simp;omega,?_,?_,trivial,?_⟩
  ·have hck:cI c.key (keyOf r)=true:=lY (o2 x0 (hX' x0 hx0)) (q7 x0 hx0)
   refine Ps h (by simp) rfl ?_ ?_ ?_ ?_
   ·rw[List.pairwise_cons]
    refine⟨fun b hb=>?_,List.pairwise_singleton _ _⟩
    rw[List.mem_singleton]at hb;subst hb
    refine⟨hck,fun x hx=>?_⟩
    rw[cZ]at hx
    exact q7 x hx
   ·intro x hx
    rcases List.mem_cons.1 hx with rfl|hx
    ·exact⟨⟨o1.1,rfl,rfl⟩,fun x hx=>by rw[cZ]at hx;exact o2 x (hX' x hx),X,rfl,q1,q2⟩
    ·rw[List.mem_singleton]at hx;subst hx
     exact⟨⟨q6,rfl,rfl⟩,fun x hx=>by rw[cZ]at hx;exact q8 x hx,Y,rfl,q3,q4⟩
   ·intro x hx
    rcases List.mem_cons.1 hx with rfl|hx
    ·exact pd _
    ·rw[List.mem_singleton]at hx;subst hx
     exact rf hck
   ·intro b hb x hx
    have hcb:=p2.1 b hb
    rw[RC,bc hk]at hcb
    rcases List.mem_cons.1 hx with rfl|hx
    ·exact⟨hcb.1,fun x hx=>by rw[cZ]at hx;exact hcb.2 x (hX' x hx)⟩
    ·rw[List.mem_singleton]at hx;subst hx
     exact⟨lY q10 (hcb.2 y q9),fun x hx=>by rw[cZ]at hx;exact hcb.2 x (hY' x hx)⟩
  ·rw[fP,List.flatMap_append,List.flatMap_append,List.flatMap_append,List.flatMap_cons,List.flatMap_cons,List.flatMap_cons,List.flatMap_nil,cZ,cZ,bc hk,←q5]
   simp
  ·rw[cw]
   simp only[List.map_append,List.map_cons,List.map_nil,List.sum_append,List.sum_cons,List.sum_nil,fL,af,C.lE]
   omega
 ·refine .inl ?_
  unfold aV at hm
  simp only[o7 h0,if_true]at hm
  rw[hm]
  exact⟨rfl,rfl,h0⟩
end Go.Proofs.YtpjenciplibdnaaGreatDoor
