/-
  Less is said of a value than is known: at calls, at results, at loops; More forms of functions; Statements whose order is open, once more: what reads no store may come at any time, and so may what makes a box that nothing ahead looks at; Statements whose order is open: how the reckoning goes; Ranges over functions; A row that a statement builds, as one that grows; The end of a growing slice, cleared; Few statements whose order is open, each order walked; Statements whose order is open, with rows made and turned to texts: what is made is frozen at once; Statements whose order is open, once more: what reads no store may come at any time, and so may what makes a box that nothing ahead looks at; Statements whose order is open: how the reckoning goes; What is known of a map that is owned; Rows of ints, as the walk speaks of them; Sizes, and where nodes are parted: what the reference computes; Trees of the reference; Nodes parted and put together: what the reference computes; Branches mended: what the reference computes; Putting: what the reference computes; Trees stay trees; keys and values short; depth and number of entries: plain laws; How many entries a tree has: plain laws; Putting, walked; Finding and deleting, walked; The order of texts; where rows of sizes are parted: plain laws; Trees that may be: their entries, their order, their sizes; mending keeps them: plain laws; Mending, putting and deleting keep trees that may be, and their entries: plain laws. By an AI agent.
-/
import Derived.Test.YtpjenciplibdnaaGreatDoorMO3
set_option linter.unusedVariables false
set_option linter.unusedSimpArgs false
set_option maxRecDepth 100000
set_option maxHeartbeats 16000000
namespace Aml
open Go Go.RowKit
def Wk(d e:DV):Prop:=∀g u,aK g d u→aK g e u
def gC:List DV→List DV→Prop
 |[],[]=>True
 |d::ds,e::es=>Wk d e∧gC ds es
 |_,_=>False
theorem Wk.refl(d:DV):Wk d d:=fun _ _ h=>h
theorem Wk.trans{a b c:DV}(h:Wk a b)(k:Wk b c):Wk a c:=fun g u r=>k g u (h g u r)
theorem Wk.any(d:DV):Wk d .any:=fun g u _=> .any u
theorem Wk.nil(s s':Nat)(f:Bool):Wk (.sl s true []) (.sl s' f []):=fun g u r=>by
 obtain⟨o,h⟩:=eD r
 rw[h];exact .nil _ _ _ _ fun _=>rfl
theorem Wk.full(s:Nat)(f:Bool)(xs:List DV):Wk (.sl s f xs) (.sl s false xs):=fun g u r=>by
 cases r with
 |nil _ _ o c hc=>exact .nil _ _ _ _ (by simp)
 |sl _ _ _ b o c us hl hf hc hm hr hz h1 hi=>exact .sl _ _ _ _ _ _ us hl (by simp) hc hm hr hz h1 hi
theorem gC.refl:∀ds,gC ds ds
 |[]=>trivial
 |d::ds=>⟨.refl d,gC.refl ds⟩
theorem gC.spec:∀{ds es:List DV},gC ds es→∀{g:Gh} {us:List Value},ai g ds us→ai g es us
 |[],[],_,_,_,r=>r
 |d::ds,e::es,h,g,us,r=>by
  obtain⟨u,us',rfl,r1,r2⟩:=r.bP
  exact ai.cons (h.1 _ _ r1) (gC.spec h.2 r2)
theorem gC.length:∀{ds es:List DV},gC ds es→ds.length=es.length
 |[],[],_=>rfl
 |d::ds,e::es,h=>by simp[gC.length h.2]
theorem gC.trans:∀{a b c:List DV},gC a b→gC b c→gC a c
 |[],[],[],_,_=>trivial
 |_::_,_::_,_::_,h,k=>⟨h.1.trans k.1,h.2.trans k.2⟩
theorem Wk.agg{ds es:List DV}(h:gC ds es):Wk (.agg ds) (.agg es):=fun g u r=>by
 cases r with
 |agg _ us hl hr h1=>
  have:=h.spec (g:=g) (us:=us) ⟨hl,hr⟩
  exact .agg _ _ this.len this.at_ h1
theorem Wk.bD{ds es:List DV}(h:gC ds es):Wk (.bD ds) (.bD es):=fun g u r=>by
 cases r with
 |bD _ us hl hr=>
  have:=h.spec (g:=g) (us:=us) ⟨hl,hr⟩
  exact .bD _ _ this.len this.at_
theorem Wk.jM{t:TypeId}{d e:DV}(h:Wk d e):Wk (.jM t d) (.jM t e):=fun g u r=>by
 cases r with
 |jM _ _ u r=>exact .jM _ _ _ (h _ _ r)
theorem Wk.sl{s:Nat}{f:Bool}{xs ys:List DV}(h:gC xs ys):Wk (.sl s f xs) (.sl s f ys):=fun g u r=>by
 cases r with
 |nil _ _ o c hc=>
  cases ys with
  |nil=>exact .nil _ _ _ _ hc
  |cons y ys=>exact h.elim
 |sl _ _ _ b o c us hl hf hc hm hr hz h1 hi=>
  have:=h.spec (g:=g) (us:=us) ⟨hl,hr⟩
  exact .sl _ _ _ _ _ _ us this.len hf hc hm this.at_ hz h1 hi
theorem S9{ds es:List DV}(h:gC ds es):Wk (.bD ds) (.bD es)=True:=eq_true (Wk.bD h)
theorem Sd{ds es:List DV}(h:gC ds es):Wk (.agg ds) (.agg es)=True:=eq_true (Wk.agg h)
theorem gC.map{α:Type}{f g:α→DV}(h:∀a,Wk (f a) (g a)):∀(l:List α),gC (l.map f) (l.map g)
 |[]=>trivial
 |a::l=>⟨h a,gC.map h l⟩
theorem gC.nil:gC [] []:=trivial
theorem gC.cons{d e:DV}{ds es:List DV}(h:Wk d e)(k:gC ds es):gC (d::ds) (e::es):=⟨h,k⟩
theorem IK(d e:DV)(ds es:List DV):gC (d::ds) (e::es)=(Wk d e∧gC ds es):=rfl
theorem Nh:gC [] []=True:=rfl
theorem Tc(a0 a1 a2 a3 a4 a5 a6 a7 a8 a9 bS bZ a12 cz cJ cQ:DV)(b0 b1 b2 b3 b4 b5 b6 b7 b8 b9 b10 b11 b12 b13 b14 b15:DV)(l m:List DV):gC (rc ⟨a0,a1,a2,a3,a4,a5,a6,a7,a8,a9,bS,bZ,a12,cz,cJ,cQ⟩ l) (rc ⟨b0,b1,b2,b3,b4,b5,b6,b7,b8,b9,b10,b11,b12,b13,b14,b15⟩ m)=(Wk a0 b0∧Wk a1 b1∧Wk a2 b2∧Wk a3 b3∧Wk a4 b4∧Wk a5 b5∧Wk a6 b6∧Wk a7 b7∧Wk a8 b8∧Wk a9 b9∧Wk bS b10∧Wk bZ b11∧Wk a12 b12∧Wk cz b13∧Wk cJ b14∧Wk cQ b15∧gC l m):=rfl
theorem Wk.eq{d e:DV}(h:d=e):Wk d e:=h▸ .refl d
theorem sj(d:DV):Wk d d=True:=eq_true (.refl d)
theorem SD{u u':Value}(h:u.oneCell'=true):Wk (.v u) (.v u')↔u=u':=
 ⟨fun k=>by have:=k ⟨fun _ _=>none,fun _ _=>none,fun _=>none⟩ u (.v u h);cases this;rfl,fun e=>e▸ .refl _⟩
theorem SW(k:IntKind)(a b:Int):Wk (.v (.int k a)) (.v (.int k b))=(a=b):=propext ((SD rfl).trans ⟨fun h=>(Value.int.inj h).2,fun h=>by rw[h]⟩)
theorem Nj(a b:Bool):Wk (.v (.bool a)) (.v (.bool b))=(a=b):=propext ((SD rfl).trans ⟨fun h=>Value.bool.inj h,fun h=>by rw[h]⟩)
theorem Uj(a b:ByteArray):Wk (.v (.string a)) (.v (.string b))=(a=b):=propext ((SD rfl).trans ⟨fun h=>Value.string.inj h,fun h=>by rw[h]⟩)
theorem NF(s:Nat)(f:Bool)(xs:List DV):Wk (.sl s f xs) (.sl s false xs)=True:=eq_true (.full s f xs)
theorem Rz(s s':Nat)(f:Bool):Wk (.sl s true []) (.sl s' f [])=True:=eq_true (.nil s s' f)
section
variable {P:Program} {w0:W0}
theorem vY{f:FuncId}{args args':List DV}{S:St}{K K':DV→St→Prop}(h:aa P w0 f args' S K')(ha:gC args args')(hk:∀d S',K' d S'→∃e,Wk d e∧K e S'):aa P w0 f args S K:=
 fun g vs w h1 h2=>(h g vs w h1 (ha.spec h2)).mono fun e w' ⟨r,g',d,S',q1,q2,q3,q4,q5⟩=>
  let⟨e',k1,k2⟩:=hk _ _ q5
  ⟨r,g',e',S',q1,q2,q3,k1 _ _ q4,k2⟩
theorem kN{f:FuncId}{args args':List DV}{S:St}{K:DV→St→Prop}{r:DV}(h:aa P w0 f args' S (fun d S'=>d=r∧S'=S))(ha:gC args args')(hk:K r S):aa P w0 f args S K:=
 vY h ha fun d S' ⟨h1,h2⟩=>⟨d,.refl d,by rw[h1,h2];exact hk⟩
theorem ao{f:FuncId}{args args':List DV}{S:St}{K:DV→St→Prop}{r:DV}(h:aa P w0 f args' S (fun d S'=>d=r∧S'=S))(hk:K r S)(ha:gC args args':=by exact gC.refl _):@AC P w0 f args S ⟨K⟩:=kN h ha hk
theorem bA{f:FuncId}{args args':List DV}{S:St}{K K':DV→St→Prop}(h:aa P w0 f args' S K')(hk:∀d S',K' d S'→K d S')(ha:gC args args':=by exact gC.refl _):@AC P w0 f args S ⟨K⟩:=vY h ha fun d S' q=>⟨d,.refl d,hk d S' q⟩
theorem aS{f:FuncId}{args args':List DV}{S:St}{K:DV→Prop}{r:DV}(h:aa P w0 f args' S (fun d S'=>d=r∧S'=S))(hk:K r)(ha:gC args args':=by exact gC.refl _):@QC P w0 f args S ⟨K⟩:=
 ⟨r,kN h ha ⟨rfl,rfl⟩,hk⟩
structure Sub(S S':St):Prop where
 box:S.box.Sublist S'.box
 acc:S.acc.Sublist S'.acc
theorem Sub.refl(S:St):Sub S S:=⟨List.Sublist.refl _,List.Sublist.refl _⟩
theorem Sub.bu{S:St}{B:List (Nat×List DV)}{A:List (Nat×Ob)}{x:Nat×List DV}(h:Sub S ⟨B,A⟩):Sub S ⟨x::B,A⟩:=⟨h.box.cons _,h.acc⟩
theorem Sub.pr{S:St}{B:List (Nat×List DV)}{A:List (Nat×Ob)}{x:Nat×Ob}(h:Sub S ⟨B,A⟩):Sub S ⟨B,x::A⟩:=⟨h.box,h.acc.cons _⟩
theorem Sub.Rq{B B':List (Nat×List DV)}{A A':List (Nat×Ob)}{x:Nat×Ob}(h:Sub ⟨B,A⟩ ⟨B',A'⟩):Sub ⟨B,x::A⟩ ⟨B',x::A'⟩:=⟨h.box,h.acc.cons_cons _⟩
theorem uI(S:St):Sub S S=True:=eq_true (.refl S)
theorem Tv{B B':List (Nat×List DV)}{A A':List (Nat×Ob)}(x:Nat×Ob)(h:Sub ⟨B,A⟩ ⟨B',A'⟩):Sub ⟨B,x::A⟩ ⟨B',x::A'⟩=True:=eq_true h.Rq
theorem Si(S:St){B:List (Nat×List DV)}{A:List (Nat×Ob)}(x:Nat×List DV)(h:Sub S ⟨B,A⟩):Sub S ⟨x::B,A⟩=True:=eq_true h.bu
theorem SS(S:St){B:List (Nat×List DV)}{A:List (Nat×Ob)}(x:Nat×Ob)(h:Sub S ⟨B,A⟩):Sub S ⟨B,x::A⟩=True:=eq_true h.pr
def ug:List Nat→List DV→St→(List DV→St→Prop)→Prop
 |[],fr,S,K=>K fr S
 |i::is,fr,S,K=>oK (fr[i]?) fun d=>shr S d fun d S=>ug is (fr.set i d) S K
theorem H0(fr:List DV)(S:St)(K:List DV→St→Prop):ug [] fr S K=K fr S:=rfl
theorem CD(i:Nat)(is:List Nat)(fr:List DV)(S:St)(K:List DV→St→Prop):ug (i::is) fr S K=oK (fr[i]?) fun d=>shr S d fun d S=>ug is (fr.set i d) S K:=rfl
theorem Aj{K:List DV→St→Prop}:∀(is:List Nat) {fr:List DV} {S:St} {g:Gh} {w:World} {us:List Value},Rel w0 g S w→ai g fr us→ug is fr S K→∃g' fr' S',g.le g'∧Rel w0 g' S' w∧ai g' fr' us∧K fr' S'
 |[],fr,S,g,w,us,h1,h2,h=>⟨g,fr,S,.refl g,h1,h2,h⟩
 |i::is,fr,S,g,w,us,h1,h2,h=>by
  unfold ug at h
  cases hi:fr[i]? with
  |none=>rw[hi]at h;exact h.elim
  |some d=>
   rw[hi,wP]at h
   have hlt:i<us.length:=by rw[←h2.len];exact(List.getElem?_eq_some_iff.1 hi).1
   have hr:=h2.at_ i _ _ hi (List.getElem?_eq_getElem hlt)
   obtain⟨g1,d',S1,k1,k2,k3,k4⟩:=mI h1 hr h
   obtain⟨g2,fr2,S2,q1,q2,q3,q4⟩:=Aj is k2 (fj (h2.mono k1) (List.getElem?_eq_getElem hlt) k3) k4
   exact⟨g2,fr2,S2,k1.trans q1,q2,q3,q4⟩
theorem QL{σ:Type}(live:List Nat)(fg:σ→List (Nat×DV))(st:σ→St)(inv:σ→Prop)(meas:σ→Nat)(s0:σ){c:Code}{fr:List DV}{S:St}{Q:Exit→List DV→St→Prop}
 (h0:inv s0∧gC (wk live fr) (nK (wk live fr) (fg s0))∧Sub (st s0) S)
 (round:∀s,inv s→gk P w0 c (nK (wk live fr) (fg s)) (st s) (jU (fun fr' S'=>∃s',inv s'∧meas s'<meas s∧gC (wk live fr') (nK (wk live fr) (fg s'))∧Sub (st s') S') Q)):
 gk P w0 (.loop c) fr S Q:=by
 intro g a w h1 h2 h3
 refine ya (fun m a w=>Dk w0 g.obj a w∧∃g' s,g.le g'∧Rel w0 g' (st s) w∧ai g' (nK (wk live fr) (fg s)) a.tmps.toList∧inv s∧meas s=m) (m:=meas s0) ⟨h3,g,s0,.refl g,h1.forget h0.2.2.box h0.2.2.acc,h0.2.1.spec (wY live h2),h0.1,rfl⟩ ?_
 rintro m a w ⟨hd,g',s,k1,k2,k3,k4,rfl⟩
 refine eK (round s k4 g' a w k2 k3 (k1.dk hd)) ?_
 rintro e a' w' ⟨hd',g'',fr'',S'',q1,q2,q3,q4⟩
 cases e with
 |normal=>
  obtain⟨s',hi,hm,hf,hS⟩:=q4
  exact⟨meas s',hm,k1.kd hd',g'',s',k1.trans q1,q2.forget hS.box hS.acc,hf.spec (wY live q3),hi,rfl⟩
 |exit n=>exact⟨k1.kd hd',g'',fr'',S'',k1.trans q1,q2,q3,q4⟩
 |goto n=>exact⟨k1.kd hd',g'',fr'',S'',k1.trans q1,q2,q3,q4⟩
 |ret=>exact⟨k1.kd hd',g'',fr'',S'',k1.trans q1,q2,q3,q4⟩
 |panic ch=>exact⟨k1.kd hd',g'',fr'',S'',k1.trans q1,q2,q3,q4⟩
 |outgrown=>exact⟨k1.kd hd',g'',fr'',S'',k1.trans q1,q2,q3,q4⟩
theorem jR{σ:Type}(ss:List Nat:=[])(live:List Nat)(fg:σ→List (Nat×DV))(st:σ→St)(inv:σ→Prop)(meas:σ→Nat)(s0:σ){c:Code}{fr:List DV}{S:St}{Q:Exit→List DV→St→Prop}(hm:P.follows .mixedOrders=true)(hc:ua ss c=true)
 (h0:inv s0∧gC (wk live fr) (nK (wk live fr) (fg s0))∧Sub (st s0) S)
 (round:∀s,inv s→vw P w0 ss c (nK (wk live fr) (fg s)) (st s) (jU (fun fr' S'=>∃s',inv s'∧meas s'<meas s∧gC (wk live fr') (nK (wk live fr) (fg s'))∧Sub (st s') S') Q)):
 gk P w0 (.loop c) fr S Q:=QL live fg st inv meas s0 h0 fun s hs=>de hm c hc (round s hs)
theorem Yg{σ:Type}(ss:List Nat:=[])(live:List Nat)(fg:σ→List (Nat×DV))(st:σ→St)(inv:σ→Prop){c:Code}{fr:List DV}{S:St}{Q:Exit→List DV→St→Prop}(hm:P.follows .mixedOrders=true)(hc:ua ss c=true)
 (h1:vw P w0 ss c fr S (jU (fun fr' S'=>∃s,inv s∧gC (wk live fr') (nK (wk live fr) (fg s))∧Sub (st s) S') Q))
 (h2:∀s,inv s→Q .normal (nK (wk live fr) (fg s)) (st s)):gk P w0 c fr S Q:=by
 intro g a w q1 q2 q3
 refine eK (de hm c hc h1 g a w q1 q2 q3) ?_
 rintro e a' w' ⟨hd,g',fr',S',k1,k2,k3,k4⟩
 cases e with
 |normal=>
  obtain⟨s,hi,hw,hS⟩:=k4
  exact⟨hd,g',_,_,k1,k2.forget hS.box hS.acc,hw.spec (wY live k3),h2 s hi⟩
 |exit n=>exact⟨hd,g',fr',S',k1,k2,k3,k4⟩
 |goto n=>exact⟨hd,g',fr',S',k1,k2,k3,k4⟩
 |ret=>exact⟨hd,g',fr',S',k1,k2,k3,k4⟩
 |panic ch=>exact⟨hd,g',fr',S',k1,k2,k3,k4⟩
 |outgrown=>exact⟨hd,g',fr',S',k1,k2,k3,k4⟩
theorem On(ss:List Nat:=[]){c:Code}{fr:List DV}{S:St}{Q:Exit→List DV→St→Prop}(hm:P.follows .mixedOrders=true)(hc:ua ss c=true)(h:vw P w0 ss c fr S Q):gk P w0 c fr S Q:=de hm c hc h
theorem aF(ss:List Nat:=[])(n:Nat)(live:List Nat)(fg:Nat→List (Nat×DV))(st:Nat→St)(inv:Nat→Prop){c:Code}{fr:List DV}{S:St}{Q:Exit→List DV→St→Prop}(hm:P.follows .mixedOrders=true)(hc:ua ss c=true)
 (h0:inv 0∧gC (wk live fr) (nK (wk live fr) (fg 0))∧Sub (st 0) S)
 (round:∀k,k≤n→inv k→vw P w0 ss c (nK (wk live fr) (fg k)) (st k) (jU (fun fr' S'=>k<n∧inv (k+1)∧gC (wk live fr') (nK (wk live fr) (fg (k+1)))∧Sub (st (k+1)) S') Q)):
 gk P w0 (.loop c) fr S Q:=by
 refine QL live fg st (fun k=>k≤n∧inv k) (fun k=>n-k) 0 ⟨⟨Nat.zero_le _,h0.1⟩,h0.2⟩ ?_
 rintro k ⟨h1,h2⟩
 refine(de hm c hc (round k h1 h2)).mono ?_
 intro e fr' S' q
 cases e with
 |normal=>
  obtain⟨q1,q2,q3,q4⟩:=q
  exact⟨k+1,⟨q1,q2⟩,by omega,q3,q4⟩
 |exit n=>exact q
 |goto n=>exact q
 |ret=>exact q
 |panic ch=>exact q
 |outgrown=>exact q
theorem aZ(ss:List Nat:=[]){f:FuncId}{fn:Func}{c:Code}{rs:List ResultVar}{args:List DV}{S:St}{r:DV}(hm:P.follows .mixedOrders=true)(hf:P.funcs[f]? =some fn)(hb:fn.body=some c)(hrs:fn.results=rs.toArray)(hc:ua ss c=true)
 (h:vw P w0 ss c (fm (args++List.replicate (fn.ntmps-args.length) ud)) S fun e fr S'=>(e= .normal∨e= .ret)∧tO P fr S' rs fun d=>oC S' d fun d S''=>Wk d r∧Sub S S''):aa P w0 f args S (fun d S'=>d=r∧S'=S):=by
 have h1:aa P w0 f args S (fun d S'=>oC S' d fun d S''=>Wk d r∧Sub S S''):=uP hf hb hrs (de hm c hc h)
 intro g vs w k1 k2
 refine(h1 g vs w k1 k2).mono ?_
 rintro e w' ⟨v,g',d,S',q1,q2,q3,q4,q5⟩
 obtain⟨g2,d',S2,p1,p2,p3,p4,p5⟩:=sy q3 q4 q5
 exact⟨v,g2,r,S,q1,q2.trans p1,p2.forget p5.box p5.acc,p4 _ _ p3,rfl,rfl⟩
theorem zp(i:Nat){s:Nat}(hs:0<s){xs:List DV}{c:Code}{fr:List DV}{S:St}{Q:Exit→List DV→St→Prop}(hi:fr[i]? =some (.sl s true xs))
 (h:∀l,jD S.acc l→gk P w0 c (fr.set i (.acc l xs.length)) ⟨S.box,(l,.tl s xs)::S.acc⟩ Q):gk P w0 c fr S Q:=by
 intro g a w h1 h2 h3
 have hlt:i<a.tmps.toList.length:=by rw[←h2.len];exact(List.getElem?_eq_some_iff.1 hi).1
 have hr:=h2.at_ i _ _ hi (List.getElem?_eq_getElem hlt)
 obtain⟨l,g',hle,hne,hR,hA⟩:=h1.rf hs hr (.tl s xs) (.inl rfl)
 have hfr:=fj (h2.mono hle) (List.getElem?_eq_getElem hlt) hA
 exact eK (h l (dn hne) g' a w hR hfr (hle.dk h3)) fun _ _ _ k=>k.of_le hle
theorem _root_.Aml.Rel.Rw{g:Gh}{S:St}{w:World}(h:Rel w0 g S w){b:Nat}{ds ds':List DV}(hl:lk S.box b=some ds)(hw:∀us e,w.heap[b]? =some (.cells us e (0,0))→ai g ds us.toList→ai g ds' us.toList):Rel w0 g ⟨up S.box b ds',S.acc⟩ w:=by
 refine⟨h.below,h.bM,by rw[od];exact h.nb,h.na,h.gq,h.fresh,h.top,?_⟩
 obtain⟨ow,o1,o2⟩:=h.own
 refine⟨ow,fun b' e hm=>?_,o2⟩
 rcases iN h.nb hm with he|⟨hm,_⟩
 ·cases he
  obtain⟨q1,q2,q3,us,e,q4,q5,q6⟩:=o1 _ _ (cn hl)
  exact⟨q1,q2,q3,us,e,q4,hw _ _ q4 q5,q6⟩
 ·exact o1 _ _ hm
theorem ib(b j s:Nat)(hs:0<s){c:Code}{fr:List DV}{S:St}{Q:Exit→List DV→St→Prop}{ds:List DV}{s0:Nat}(hb:lk S.box b=some ds)(hi:ds[j]? =some (.sl s0 true []))
 (h:∀l:FN S.acc,gk P w0 c fr ⟨up S.box b (ds.set j (.acc l.n 0)),(l.n,.arr s [])::S.acc⟩ Q):gk P w0 c fr S Q:=by
 intro g a w h1 h2 h3
 obtain⟨ow,o1,o2⟩:=h1.own
 obtain⟨q1,q2,q3,us,e,q4,q5,q6⟩:=o1 _ _ (cn hb)
 have hlt:j<us.toList.length:=by rw[←q5.len];exact(List.getElem?_eq_some_iff.1 hi).1
 have hr:=q5.at_ j _ _ hi (List.getElem?_eq_getElem hlt)
 have hr':aK g (.sl s true []) us.toList[j]:=by obtain⟨o',ho'⟩:=eD hr;rw[ho'];exact .nil _ _ _ _ fun _=>rfl
 obtain⟨l,g',hle,hne,hR,hA⟩:=h1.rf hs hr' (.arr s []) (.inr ⟨rfl,rfl⟩)
 have hR':=hR.Rw (ds':=ds.set j (.acc l 0)) (b:=b) hb ?_
 ·exact eK (h ⟨l,dn hne⟩ g' a w hR' (h2.mono hle) (hle.dk h3)) fun _ _ _ k=>k.of_le hle
 ·intro us' e' hh hr2
  rw[hh]at q4
  cases q4
  exact fj hr2 (List.getElem?_eq_getElem hlt) hA
theorem JI(i:Nat){s:Nat}{xs:List DV}{c:Code}{fr:List DV}{S:St}{Q:Exit→List DV→St→Prop}(hi:fr[i]? =some (.sl s true xs))(hs:0<s)
 (h:∀l:FN S.acc,gk P w0 c (fr.set i (.acc l.n xs.length)) ⟨S.box,(l.n,.tl s xs)::S.acc⟩ Q):gk P w0 c fr S Q:=zp i hs hi fun l hl=>h ⟨l,hl⟩
theorem nV(i s:Nat){c:Code}{fr:List DV}{S:St}{Q:Exit→List DV→St→Prop}{s0:Nat}(hi:fr[i]? =some (.sl s0 true []))(hs:0<s)
 (h:∀l:FN S.acc,gk P w0 c (fr.set i (.acc l.n 0)) ⟨S.box,(l.n,.arr s [])::S.acc⟩ Q):gk P w0 c fr S Q:=Md i s hs hi fun l hl=>h ⟨l,hl⟩
theorem lE(ss:List Nat:=[])(is:List Nat){c:Code}{fr:List DV}{S:St}{Q:Exit→List DV→St→Prop}(hm:P.follows .mixedOrders=true)(hc:ua ss c=true)(h:ug is fr S fun fr S=>vw P w0 ss c fr S Q):gk P w0 c fr S Q:=by
 intro g a w h1 h2 h3
 obtain⟨g',f',S',k1,k2,k3,k4⟩:=Aj is h1 h2 h
 exact eK (de hm c hc k4 g' a w k2 k3 (k1.dk h3)) fun _ _ _ k=>k.of_le k1
theorem gU{f:FuncId}{args:List DV}{S:St}{K K':DV→St→Prop}(h:aa P w0 f args S K')(s:Nat)(hs:0<s)
 (hk:∀d S',K' d S'→K d S'∨((∃s0,d= .sl s0 true [])∧∀l,jD S'.acc l→K (.acc l 0) ⟨S'.box,(l,.arr s [])::S'.acc⟩)):aa P w0 f args S K:=by
 intro g vs w h1 h2
 refine(h g vs w h1 h2).mono ?_
 rintro e w' ⟨r,g',d,S',q1,q2,q3,q4,q5⟩
 rcases hk d S' q5 with h|⟨⟨s0,rfl⟩,h⟩
 ·exact⟨r,g',d,S',q1,q2,q3,q4,h⟩
 ·have hr':aK g' (.sl s true []) r:=by obtain⟨o',ho'⟩:=eD q4;rw[ho'];exact .nil _ _ _ _ fun _=>rfl
  obtain⟨l,g2,hle,hne,hR,hA⟩:=q3.rf hs hr' (.arr s []) (.inr ⟨rfl,rfl⟩)
  exact⟨r,g2,_,_,q1,q2.trans hle,hR,hA,h l (dn hne)⟩
theorem Ko{f:FuncId}{args:List DV}{S:St}{xs:List DV}(s:Nat)(hs:0<s)(h:aa P w0 f args S fun d S'=>(xs=[]∧(∃s0,d= .sl s0 true [])∧S'=S)∨∃l:FN S.acc,d= .acc l.n xs.length∧S'=⟨S.box,(l.n,.arr s xs)::S.acc⟩):
 aa P w0 f args S fun d S'=>∃l:FN S.acc,d= .acc l.n xs.length∧S'=⟨S.box,(l.n,.arr s xs)::S.acc⟩:=by
 refine gU h s hs ?_
 rintro d S' (⟨rfl,⟨s0,rfl⟩,rfl⟩|h)
 ·exact .inr ⟨⟨s0,rfl⟩,fun l hl=>⟨⟨l,hl⟩,rfl,rfl⟩⟩
 ·exact .inl h
end
attribute [go_sem high] uI Tv
attribute [go_sem low] S9 Sd
attribute [go_sem] Tc Si SS IK Nh sj SW Nj Uj NF Rz
attribute [go_sem ↓] H0 CD
structure Wr(P:Prop):Prop where
 h:P
theorem ab(P:Prop)(w:Wr P):P:=w.h
theorem au{P Q:Prop}(q:Q)(e:(P↔Q):=by simp(maxDischargeDepth:=12) (maxSteps:=1000000) -implicitDefEqProofs only[go_sem,Nat.reduceAdd,Nat.reduceSub,Nat.reduceMul,Nat.reduceLeDiff,Nat.reduceEqDiff,Nat.reduceGT,Nat.reduceBEq,reduceCtorEq,↓reduceIte,Int.reduceToNat,Int.reduceLE,Int.reduceLT,Int.reduceNe,Int.reduceEq] <;>exact Iff.rfl):Wr P:=⟨Iff.mpr e q⟩
theorem aV{P:Prop}(e:(P↔True):=by simp(maxDischargeDepth:=12) (maxSteps:=1000000) -implicitDefEqProofs only[go_sem,Nat.reduceAdd,Nat.reduceSub,Nat.reduceMul,Nat.reduceLeDiff,Nat.reduceEqDiff,Nat.reduceGT,Nat.reduceBEq,reduceCtorEq,↓reduceIte,Int.reduceToNat,Int.reduceLE,Int.reduceLT,Int.reduceNe,Int.reduceEq]):Wr P:=⟨of_iff_true e⟩
theorem an{X1 P Q:Prop}(x1:X1)(q:Q)(e:X1→(P↔Q):=by intro z1;simp(maxDischargeDepth:=12) (maxSteps:=1000000) -implicitDefEqProofs only[go_sem,Nat.reduceAdd,Nat.reduceSub,Nat.reduceMul,Nat.reduceLeDiff,Nat.reduceEqDiff,Nat.reduceGT,Nat.reduceBEq,reduceCtorEq,↓reduceIte,Int.reduceToNat,Int.reduceLE,Int.reduceLT,Int.reduceNe,Int.reduceEq,z1] <;>exact Iff.rfl):Wr P:=⟨Iff.mpr (e x1) q⟩
theorem mc{X1 P:Prop}(x1:X1)(e:X1→(P↔True):=by intro z1;simp(maxDischargeDepth:=12) (maxSteps:=1000000) -implicitDefEqProofs only[go_sem,Nat.reduceAdd,Nat.reduceSub,Nat.reduceMul,Nat.reduceLeDiff,Nat.reduceEqDiff,Nat.reduceGT,Nat.reduceBEq,reduceCtorEq,↓reduceIte,Int.reduceToNat,Int.reduceLE,Int.reduceLT,Int.reduceNe,Int.reduceEq,z1]):Wr P:=⟨of_iff_true (e x1)⟩
theorem ba{X1 X2 P Q:Prop}(x1:X1)(x2:X2)(q:Q)(e:X1→X2→(P↔Q):=by intro z1 z2;simp(maxDischargeDepth:=12) (maxSteps:=1000000) -implicitDefEqProofs only[go_sem,Nat.reduceAdd,Nat.reduceSub,Nat.reduceMul,Nat.reduceLeDiff,Nat.reduceEqDiff,Nat.reduceGT,Nat.reduceBEq,reduceCtorEq,↓reduceIte,Int.reduceToNat,Int.reduceLE,Int.reduceLT,Int.reduceNe,Int.reduceEq,z1,z2] <;>exact Iff.rfl):Wr P:=⟨Iff.mpr (e x1 x2) q⟩
theorem qd{X1 X2 P:Prop}(x1:X1)(x2:X2)(e:X1→X2→(P↔True):=by intro z1 z2;simp(maxDischargeDepth:=12) (maxSteps:=1000000) -implicitDefEqProofs only[go_sem,Nat.reduceAdd,Nat.reduceSub,Nat.reduceMul,Nat.reduceLeDiff,Nat.reduceEqDiff,Nat.reduceGT,Nat.reduceBEq,reduceCtorEq,↓reduceIte,Int.reduceToNat,Int.reduceLE,Int.reduceLT,Int.reduceNe,Int.reduceEq,z1,z2]):Wr P:=⟨of_iff_true (e x1 x2)⟩
theorem eW{X1 X2 X3 P Q:Prop}(x1:X1)(x2:X2)(x3:X3)(q:Q)(e:X1→X2→X3→(P↔Q):=by intro z1 z2 z3;simp(maxDischargeDepth:=12) (maxSteps:=1000000) -implicitDefEqProofs only[go_sem,Nat.reduceAdd,Nat.reduceSub,Nat.reduceMul,Nat.reduceLeDiff,Nat.reduceEqDiff,Nat.reduceGT,Nat.reduceBEq,reduceCtorEq,↓reduceIte,Int.reduceToNat,Int.reduceLE,Int.reduceLT,Int.reduceNe,Int.reduceEq,z1,z2,z3] <;>exact Iff.rfl):Wr P:=⟨Iff.mpr (e x1 x2 x3) q⟩
theorem VS{X1 X2 X3 P:Prop}(x1:X1)(x2:X2)(x3:X3)(e:X1→X2→X3→(P↔True):=by intro z1 z2 z3;simp(maxDischargeDepth:=12) (maxSteps:=1000000) -implicitDefEqProofs only[go_sem,Nat.reduceAdd,Nat.reduceSub,Nat.reduceMul,Nat.reduceLeDiff,Nat.reduceEqDiff,Nat.reduceGT,Nat.reduceBEq,reduceCtorEq,↓reduceIte,Int.reduceToNat,Int.reduceLE,Int.reduceLT,Int.reduceNe,Int.reduceEq,z1,z2,z3]):Wr P:=⟨of_iff_true (e x1 x2 x3)⟩
theorem DW{X1 X2 X3 X4 P Q:Prop}(x1:X1)(x2:X2)(x3:X3)(x4:X4)(q:Q)(e:X1→X2→X3→X4→(P↔Q):=by intro z1 z2 z3 z4;simp(maxDischargeDepth:=12) (maxSteps:=1000000) -implicitDefEqProofs only[go_sem,Nat.reduceAdd,Nat.reduceSub,Nat.reduceMul,Nat.reduceLeDiff,Nat.reduceEqDiff,Nat.reduceGT,Nat.reduceBEq,reduceCtorEq,↓reduceIte,Int.reduceToNat,Int.reduceLE,Int.reduceLT,Int.reduceNe,Int.reduceEq,z1,z2,z3,z4] <;>exact Iff.rfl):Wr P:=⟨Iff.mpr (e x1 x2 x3 x4) q⟩
theorem y7{X1 X2 X3 X4 X5 P Q:Prop}(x1:X1)(x2:X2)(x3:X3)(x4:X4)(x5:X5)(q:Q)(e:X1→X2→X3→X4→X5→(P↔Q):=by intro z1 z2 z3 z4 z5;simp(maxDischargeDepth:=12) (maxSteps:=1000000) -implicitDefEqProofs only[go_sem,Nat.reduceAdd,Nat.reduceSub,Nat.reduceMul,Nat.reduceLeDiff,Nat.reduceEqDiff,Nat.reduceGT,Nat.reduceBEq,reduceCtorEq,↓reduceIte,Int.reduceToNat,Int.reduceLE,Int.reduceLT,Int.reduceNe,Int.reduceEq,z1,z2,z3,z4,z5] <;>exact Iff.rfl):Wr P:=⟨Iff.mpr (e x1 x2 x3 x4 x5) q⟩
theorem DD{X1 X2 X3 X4 X5 X6 P Q:Prop}(x1:X1)(x2:X2)(x3:X3)(x4:X4)(x5:X5)(x6:X6)(q:Q)(e:X1→X2→X3→X4→X5→X6→(P↔Q):=by intro z1 z2 z3 z4 z5 z6;simp(maxDischargeDepth:=12) (maxSteps:=1000000) -implicitDefEqProofs only[go_sem,Nat.reduceAdd,Nat.reduceSub,Nat.reduceMul,Nat.reduceLeDiff,Nat.reduceEqDiff,Nat.reduceGT,Nat.reduceBEq,reduceCtorEq,↓reduceIte,Int.reduceToNat,Int.reduceLE,Int.reduceLT,Int.reduceNe,Int.reduceEq,z1,z2,z3,z4,z5,z6] <;>exact Iff.rfl):Wr P:=⟨Iff.mpr (e x1 x2 x3 x4 x5 x6) q⟩
theorem XF{X1 X2 X3 X4 X5 X6 X7 P Q:Prop}(x1:X1)(x2:X2)(x3:X3)(x4:X4)(x5:X5)(x6:X6)(x7:X7)(q:Q)(e:X1→X2→X3→X4→X5→X6→X7→(P↔Q):=by intro z1 z2 z3 z4 z5 z6 z7;simp(maxDischargeDepth:=12) (maxSteps:=1000000) -implicitDefEqProofs only[go_sem,Nat.reduceAdd,Nat.reduceSub,Nat.reduceMul,Nat.reduceLeDiff,Nat.reduceEqDiff,Nat.reduceGT,Nat.reduceBEq,reduceCtorEq,↓reduceIte,Int.reduceToNat,Int.reduceLE,Int.reduceLT,Int.reduceNe,Int.reduceEq,z1,z2,z3,z4,z5,z6,z7] <;>exact Iff.rfl):Wr P:=⟨Iff.mpr (e x1 x2 x3 x4 x5 x6 x7) q⟩
theorem OR{X1 X2 X3 X4 X5 X6 X7 X8 P Q:Prop}(x1:X1)(x2:X2)(x3:X3)(x4:X4)(x5:X5)(x6:X6)(x7:X7)(x8:X8)(q:Q)(e:X1→X2→X3→X4→X5→X6→X7→X8→(P↔Q):=by intro z1 z2 z3 z4 z5 z6 z7 z8;simp(maxDischargeDepth:=12) (maxSteps:=1000000) -implicitDefEqProofs only[go_sem,Nat.reduceAdd,Nat.reduceSub,Nat.reduceMul,Nat.reduceLeDiff,Nat.reduceEqDiff,Nat.reduceGT,Nat.reduceBEq,reduceCtorEq,↓reduceIte,Int.reduceToNat,Int.reduceLE,Int.reduceLT,Int.reduceNe,Int.reduceEq,z1,z2,z3,z4,z5,z6,z7,z8] <;>exact Iff.rfl):Wr P:=⟨Iff.mpr (e x1 x2 x3 x4 x5 x6 x7 x8) q⟩
end Aml
namespace Aml
open Go Go.RowKit
section
variable {P:Program} {w0:W0}
theorem vF(ss:List Nat:=[]){f:FuncId}{fn:Func}{c:Code}{rs:List ResultVar}{args:List DV}{S:St}{K:DV→St→Prop}(hm:P.follows .mixedOrders=true)(hf:P.funcs[f]? =some fn)(hb:fn.body=some c)(hrs:fn.results=rs.toArray)(hc:ua ss c=true)
 (h:vw P w0 ss c (fm (args++List.replicate (fn.ntmps-args.length) ud)) S fun e fr S'=>(e= .normal∨e= .ret)∧tO P fr S' rs fun d=>∃d' S'',Wk d d'∧Sub S'' S'∧K d' S''):aa P w0 f args S K:=by
 have h1:aa P w0 f args S (fun d S'=>∃d' S'',Wk d d'∧Sub S'' S'∧K d' S''):=uP hf hb hrs (de hm c hc h)
 intro g vs w k1 k2
 refine(h1 g vs w k1 k2).mono ?_
 rintro e w' ⟨v,g',d,S',q1,q2,q3,q4,d',S'',p1,p2,p3⟩
 exact⟨v,g',d',S'',q1,q2,q3.forget p2.box p2.acc,p1 _ _ q4,p3⟩
end
end Aml
namespace Aml
open Go Go.RowKit
def kX:Op→Nat
 | .load ..=>1
 | .alloc _=>2
 | .call c=>match c.callee with
  | .value _=>1
  | .builtin .len=>0
  | .builtin .cap=>0
  | .builtin .min=>0
  | .builtin .max=>0
  |_=>3
 | .move _=>0
 | .assign _=>0
 | .pick ..=>0
 | .fieldAddr ..=>0
 | .indexAddr ..=>0
 | .index ..=>0
 | .field ..=>0
 | .extract ..=>0
 | .nilCheck _=>0
 | .binOp ..=>0
 | .unOp ..=>0
 | .convert ..=>0
 | .makeInterface ..=>0
 | .makeFunc ..=>0
 | .slice ..=>0
 | .build ..=>0
 | .buildSlice ..=>0
 |_=>3
def Fr(S:St)(B:List (Nat×List DV)):Prop:=∀x,x∈B→jD S.box x.1
def fh(P:Program)(w0:W0)(o:Oper)(fr:List DV)(S:St)(K:List DV→St→Prop):Prop:=
 (kX o.op=0∧∃d,(∀S',QY P w0 S' o fr d)∧K (pt fr o.dst d) S)∨
 (kX o.op=1∧∃d,(∀B,Fr S B→QY P w0 ⟨B++S.box,S.acc⟩ o fr d)∧K (pt fr o.dst d) S)∨
 (kX o.op=2∧∃t,o.op= .alloc t∧eL (zD P t)=true∧∀b,jD S.box b→K (pt fr o.dst (.v (.pointer (some ⟨b,0,none⟩)))) ⟨(b,cd (zD P t))::S.box,S.acc⟩)∨
 (kX o.op=3∧aj P w0 o (ev fr) S fun d S'=>K (pt fr o.dst d) S')
def ft(P:Program)(w0:W0)(ops:Array Oper)(o:Oper)(fr:List DV)(S:St)(K:List DV→St→Prop):Prop:=
 (dA ops fr o.guard=some true∧fh P w0 o fr S K)∨(dA ops fr o.guard=some false∧K (pt fr o.dst ud) S)
def mn(a b:Nat):Bool:=a==0||(a==1&&decide (b<3))
section
variable {P:Program} {w0:W0} {ops:Array Oper} {md:Region.Mode}
theorem jj{o:Oper}{fr:List DV}{S:St}{K K':List DV→St→Prop}(h:∀fr S,K fr S→K' fr S)(b:fh P w0 o fr S K):fh P w0 o fr S K':=by
 rcases b with⟨c,d,q,k⟩|⟨c,d,q,k⟩|⟨c,t,ht,hz,k⟩|⟨c,q⟩
 ·exact .inl ⟨c,d,q,h _ _ k⟩
 ·exact .inr (.inl ⟨c,d,q,h _ _ k⟩)
 ·exact .inr (.inr (.inl ⟨c,t,ht,hz,fun b hb=>h _ _ (k b hb)⟩))
 ·exact .inr (.inr (.inr ⟨c,aQ (fun d S hk=>h _ _ hk) q⟩))
theorem gY{o:Oper}{fr:List DV}{S:St}{K K':List DV→St→Prop}(h:∀fr S,K fr S→K' fr S)(b:ft P w0 ops o fr S K):ft P w0 ops o fr S K':=
 b.imp (fun⟨a,b⟩=>⟨a,jj h b⟩) fun⟨a,b⟩=>⟨a,h _ _ b⟩
theorem rm{o:Oper}{fr:List DV}{S:St}{K:List DV→St→Prop}{dst:Option Tmp}{e:DV}(h1:∀t,dst=some t→t∉o.looksAt ops)(h2:∀t,dst=some t→o.dst≠some t):
 fh P w0 o (pt fr dst e) S K↔fh P w0 o fr S fun fr' S'=>K (pt fr' dst e) S':=by
 have hq:∀S d,QY P w0 S o (pt fr dst e) d↔QY P w0 S o fr d:=fun S d=>
  ⟨aR (fun x hx=>fc (ops:=ops) h1 x hx),aR (fun x hx=>(fc (ops:=ops) h1 x hx).symm)⟩
 have hc:∀d,pt (pt fr dst e) o.dst d=pt (pt fr o.dst d) dst e:=fun d=>j9 fr e d h2
 have hy:∀K,aj P w0 o (ev (pt fr dst e)) S K↔aj P w0 o (ev fr) S K:=fun K=>
  ⟨aR (fun x hx=>fc (ops:=ops) h1 x hx),aR (fun x hx=>(fc (ops:=ops) h1 x hx).symm)⟩
 unfold fh
 simp only[hq,hc,hy]
theorem jl{o:Oper}{fr:List DV}{S:St}{K:List DV→St→Prop}{dst:Option Tmp}{e:DV}(h1:∀t,dst=some t→t∉o.looksAt ops)(h2:∀t,dst=some t→o.dst≠some t):
 ft P w0 ops o (pt fr dst e) S K↔ft P w0 ops o fr S fun fr' S'=>K (pt fr' dst e) S':=by
 unfold ft
 rw[iA h1,rm h1 h2,j9 fr e ud h2]
theorem mB{o:Oper}{fr:List DV}{S:St}{K K':List DV→St→Prop}(h:∀e S,K (pt fr o.dst e) S→K' (pt fr o.dst e) S)(b:fh P w0 o fr S K):fh P w0 o fr S K':=by
 rcases b with⟨c,d,q,k⟩|⟨c,d,q,k⟩|⟨c,t,ht,hz,k⟩|⟨c,q⟩
 ·exact .inl ⟨c,d,q,h _ _ k⟩
 ·exact .inr (.inl ⟨c,d,q,h _ _ k⟩)
 ·exact .inr (.inr (.inl ⟨c,t,ht,hz,fun b hb=>h _ _ (k b hb)⟩))
 ·exact .inr (.inr (.inr ⟨c,aQ (fun d S hk=>h _ _ hk) q⟩))
theorem jk{o:Oper}{fr:List DV}{S:St}{K K':List DV→St→Prop}(h:∀e S,K (pt fr o.dst e) S→K' (pt fr o.dst e) S)(b:ft P w0 ops o fr S K):ft P w0 ops o fr S K':=
 b.imp (fun⟨a,b⟩=>⟨a,mB h b⟩) fun⟨a,b⟩=>⟨a,h _ _ b⟩
theorem qs{x y:Oper}(hap:x.apart ops y=true)(hk:mn (kX x.op) (kX y.op)=true){fr:List DV}{S:St}{K:List DV→St→Prop}(h:ft P w0 ops x fr S fun fr S=>ft P w0 ops y fr S K):
 ft P w0 ops y fr S fun fr S=>ft P w0 ops x fr S K:=by
 obtain⟨b1,b2,b3⟩:=Oper.apart_spec hap
 have hw:∀e,dA ops (pt fr y.dst e) x.guard=dA ops fr x.guard:=fun e=>iA b3
 have hq:∀{S d e},QY P w0 S x fr d→QY P w0 S x (pt fr y.dst e) d:=fun{S d e} q=>aR (fun z hz=>(fc (ops:=ops) b3 z hz).symm) q
 rcases h with⟨hg,hb⟩|⟨hg,hb⟩
 ·rcases hb with⟨c,d,q,k⟩|⟨c,d,q,k⟩|⟨c, -⟩|⟨c, -⟩
  ·rw[jl b1 b2]at k
   exact jk (fun e S' hk=> .inl ⟨by rw[hw];exact hg,.inl ⟨c,d,fun S''=>hq (q S''),hk⟩⟩) k
  ·rw[jl b1 b2]at k
   rcases k with⟨g2,k⟩|⟨g2,k⟩
   ·rcases k with⟨c2,d2,q2,k⟩|⟨c2,d2,q2,k⟩|⟨c2,t,ht,hz,k⟩|⟨c2, -⟩
    ·exact .inl ⟨g2,.inl ⟨c2,d2,q2,.inl ⟨by rw[hw];exact hg,.inr (.inl ⟨c,d,fun B hB=>hq (q B hB),k⟩)⟩⟩⟩
    ·exact .inl ⟨g2,.inr (.inl ⟨c2,d2,q2,.inl ⟨by rw[hw];exact hg,.inr (.inl ⟨c,d,fun B hB=>hq (q B hB),k⟩)⟩⟩)⟩
    ·refine .inl ⟨g2,.inr (.inr (.inl ⟨c2,t,ht,hz,fun b hb=> .inl ⟨by rw[hw];exact hg,.inr (.inl ⟨c,d,fun B hB=>hq ?_,k b hb⟩)⟩⟩))⟩
     have:=q (B++[(b,cd (zD P t))]) fun z hz'=>by
      rcases List.mem_append.1 hz' with h|h
      ·exact(hB z h).2.2
      ·simp only[List.mem_singleton]at h;subst h;exact hb
     rw[List.append_assoc]at this
     exact this
    ·rw[c,c2]at hk;exact absurd hk (by decide)
   ·exact .inr ⟨g2,.inl ⟨by rw[hw];exact hg,.inr (.inl ⟨c,d,fun B hB=>hq (q B hB),k⟩)⟩⟩
  ·rw[c]at hk;simp[mn]at hk
  ·rw[c]at hk;simp[mn]at hk
 ·rw[jl b1 b2]at hb
  exact jk (fun e S' hk=> .inr ⟨by rw[hw];exact hg,hk⟩) hb
def kH(P:Program)(w0:W0)(ops:Array Oper)(i:Nat)(fr:List DV)(S:St)(K:List DV→St→Prop):Prop:=match ops[i]? with
 |none=>K fr S
 |some o=>ft P w0 ops o fr S K
def GN(P:Program)(w0:W0)(md:Region.Mode)(ops:Array Oper)(K:List DV→St→Prop):Nat→Array Bool→List DV→St→Prop
 |0,listed,fr,S=>Region.ready md ops listed=[]∧K fr S
 |fuel+1,listed,fr,S=>(Region.ready md ops listed=[]→K fr S)∧∀i∈Region.ready md ops listed,kH P w0 ops i fr S (GN P w0 md ops K fuel (listed.setIfInBounds i true))
theorem qT{K:List DV→St→Prop}{i:Nat}{oi:Oper}(hi:ops[i]? =some oi):
 ∀(fuel:Nat) (listed:Array Bool) (fr:List DV) (S:St),
  (∀j oj,ops[j]? =some oj→j≠i→listed.getD j true=false→(∀e∈oj.after,Region.binds md e=true→e.on≠i)→oi.apart ops oj=true∧mn (kX oi.op) (kX oj.op)=true)→
  (∀l:List Nat,l.Nodup→(∀k,k∈l→listed.getD k true=false)→l.length≤fuel+1)→
  i∈Region.ready md ops listed→ft P w0 ops oi fr S (GN P w0 md ops K fuel (listed.setIfInBounds i true))→GN P w0 md ops K (fuel+1) listed fr S:=by
 intro fuel
 induction fuel with
 |zero=>
  intro listed fr S _ hcnt hr H
  refine⟨fun h=>(by rw[h]at hr;cases hr),fun j hj=>?_⟩
  by_cases hji:j=i
  ·subst hji;unfold kH;simp only[hi];exact H
  ·exfalso
   have:=hcnt [i,j] (by simp[Ne.symm hji]) fun k hk=>by
    simp only[List.mem_cons,List.not_mem_nil,or_false]at hk
    rcases hk with rfl|rfl
    ·exact(mem_ready.1 hr).1
    ·exact(mem_ready.1 hj).1
   simp at this
 |succ fuel ih=>
  intro listed fr S hfree hcnt hr H
  refine⟨fun h=>(by rw[h]at hr;cases hr),fun j hj=>?_⟩
  by_cases hji:j=i
  ·subst hji;unfold kH;simp only[hi];exact H
  ·obtain⟨hjun,oj,hoj,hall⟩:=mem_ready.1 hj
   have hnot:∀e∈oj.after,Region.binds md e=true→e.on≠i:=fun e he hb heq=>by
    have h1:=hall e he hb
    have h0:=(mem_ready.1 hr).1
    rw[heq]at h1
    rcases Nat.lt_or_ge i listed.size with h'|h'
    ·simp[h']at h0 h1;rw[h0]at h1;cases h1
    ·simp[Array.getElem?_eq_none h']at h1
   have h1:ft P w0 ops oi fr S fun fr S=>ft P w0 ops oj fr S (GN P w0 md ops K fuel ((listed.setIfInBounds i true).setIfInBounds j true)):=
    gY (fun fr S h=>by
     have:=h.2 j (ready_mono hj hji)
     unfold kH at this;simp only[hoj]at this;exact this) H
   have hc:=hfree j oj hoj hji hjun hnot
   have h2:=qs hc.1 hc.2 h1
   have hfree':∀k ok,ops[k]? =some ok→k≠i→(listed.setIfInBounds j true).getD k true=false→
    (∀e∈ok.after,Region.binds md e=true→e.on≠i)→oi.apart ops ok=true∧mn (kX oi.op) (kX ok.op)=true:=fun k ok hk hki hun hno=>by
    refine hfree k ok hk hki ?_ hno
    by_cases hjk:j=k
    ·subst hjk;exact hjun
    ·rw[getD_set_ne true hjk]at hun;exact hun
   unfold kH
   simp only[hoj]
   have hcnt':∀l:List Nat,l.Nodup→(∀k,k∈l→(listed.setIfInBounds j true).getD k true=false)→l.length≤fuel+1:=by
    intro l hn hl
    have hjs:j<listed.size:=by
     rcases Nat.lt_or_ge j listed.size with h|h
     ·exact h
     ·rw[Array.getD_eq_getD_getElem?,Array.getElem?_eq_none h]at hjun;cases hjun
    have hjl:j∉l:=fun hj=>by
     have:=hl j hj
     rw[Array.getD_eq_getD_getElem?,Array.getElem?_setIfInBounds]at this
     simp[hjs]at this
    have:=hcnt (j::l) (List.nodup_cons.2 ⟨hjl,hn⟩) fun k hk=>by
     rcases List.mem_cons.1 hk with rfl|hk
     ·exact hjun
     ·have:=hl k hk
      rw[getD_set_ne true (show j≠k from fun e=>hjl (e▸hk))]at this
      exact this
    simp at this;omega
   refine gY (fun fr S h=>ih (listed.setIfInBounds j true) fr S hfree' hcnt' (ready_mono hr (Ne.symm hji)) ?_) h2
   rw[Array.setIfInBounds_comm _ _ hji]
   exact h
def BB(md:Region.Mode)(ops:Array Oper)(listed:Array Bool)(i:Nat):Bool:=(List.range ops.size).all fun j=>match ops[i]?,ops[j]? with
 |some oi,some oj=>j==i||listed.getD j true||oj.after.any (fun e=>Region.binds md e&&e.on==i)||(oi.apart ops oj&&mn (kX oi.op) (kX oj.op))
 |_,_=>false
def qY(md:Region.Mode)(ops:Array Oper):Nat→Nat→Array Bool→Bool
 |0,_,listed=>(Region.ready md ops listed).isEmpty
 |n+1,k,listed=>(Region.ready md ops listed).contains k&&BB md ops listed k&&qY md ops n (k+1) (listed.setIfInBounds k true)
theorem oG{listed:Array Bool}{i:Nat}{oi:Oper}(hi:ops[i]? =some oi)(h:BB md ops listed i=true):∀j oj,ops[j]? =some oj→j≠i→listed.getD j true=false→(∀e∈oj.after,Region.binds md e=true→e.on≠i)→oi.apart ops oj=true∧mn (kX oi.op) (kX oj.op)=true:=by
 intro j oj hj hji hun hno
 have hlt:j<ops.size:=(Array.getElem?_eq_some_iff.1 hj).1
 have:=List.all_eq_true.1 h j (List.mem_range.2 hlt)
 simp only[hi,hj,hun,Bool.or_false,Bool.or_eq_true,beq_iff_eq,Bool.and_eq_true]at this
 rcases this with(h|h)|h
 ·exact absurd h hji
 ·exfalso
  obtain⟨e,he,h⟩:=Array.any_eq_true'.1 h
  simp only[Bool.and_eq_true,beq_iff_eq]at h
  exact hno e he h.1 h.2
 ·exact h
def LX(P:Program)(w0:W0)(ops:Array Oper)(K:List DV→St→Prop):List Oper→List DV→St→Prop
 |[],fr,S=>K fr S
 |o::rest,fr,S=>ft P w0 ops o fr S (LX P w0 ops K rest)
theorem pN{K:List DV→St→Prop}:∀(l:List Oper) (k:Nat) (listed:Array Bool) (fr:List DV) (S:St),(∀j,l[j]? =ops[k+j]?)→
 (∀l':List Nat,l'.Nodup→(∀k,k∈l'→listed.getD k true=false)→l'.length≤l.length)→
 qY md ops l.length k listed=true→LX P w0 ops K l fr S→GN P w0 md ops K l.length listed fr S
 |[],_,_,_,_,_,_,hB,h=>⟨by simpa[qY]using hB,h⟩
 |o::l,k,listed,fr,S,hl,hcnt,hB,h=>by
  have h0:ops[k]? =some o:=by simpa using(hl 0).symm
  simp only[List.length_cons,qY,Bool.and_eq_true]at hB
  obtain⟨⟨hr,hf⟩,hB'⟩:=hB
  have hr':k∈Region.ready md ops listed:=by simpa using hr
  have hun:=(mem_ready.1 hr').1
  refine qT h0 l.length listed fr S (oG h0 hf) (by simpa using hcnt) hr' ?_
  refine gY (fun fr S h=>pN l (k+1) _ fr S (fun j=>by have:=hl (j+1);simpa[Nat.add_assoc,Nat.add_comm 1 j]using this) ?_ hB' h) h
  intro l' hn hl'
  have hks:k<listed.size:=by
   rcases Nat.lt_or_ge k listed.size with h|h
   ·exact h
   ·rw[Array.getD_eq_getD_getElem?,Array.getElem?_eq_none h]at hun;cases hun
  have hkl:k∉l':=fun hk=>by
   have:=hl' k hk
   rw[Array.getD_eq_getD_getElem?,Array.getElem?_setIfInBounds]at this
   simp[hks]at this
  have:=hcnt (k::l') (List.nodup_cons.2 ⟨hkl,hn⟩) fun m hm=>by
   rcases List.mem_cons.1 hm with rfl|hm
   ·exact hun
   ·have:=hl' m hm
    rw[getD_set_ne true (show k≠m from fun e=>hkl (e▸hm))]at this
    exact this
  simp at this;omega
theorem lu{o:Oper}{fr:List DV}{S:St}{K:List DV→St→Prop}(h:fh P w0 o fr S K):aj P w0 o (ev fr) S fun d S'=>K (pt fr o.dst d) S':=by
 rcases h with⟨c,d,q,k⟩|⟨c,d,q,k⟩|⟨c,t,ht,hz,k⟩|⟨c,q⟩
 ·exact aQ (fun d' S' h=>by rw[h.1,h.2];exact k) (q S)
 ·have:=q [] (fun x hx=>by cases hx)
  exact aQ (fun d' S' h=>by rw[h.1,h.2];exact k) this
 ·exact sw ht ⟨hz,k⟩
 ·exact q
theorem eF{ro:Option Nat}{g0:Gh}{Q:Exit→List DV→St→Prop}:∀(fuel:Nat) (listed:Array Bool) (fr:List DV) (S:St) (g:Gh) (a:Act) (w:World),g0.le g→Rel w0 g S w→ai g fr a.tmps.toList→Dk w0 g.obj a w→
 GN P w0 md ops (fun fr S=>Q .normal fr S) fuel listed fr S→wpAnyIn (fz ro) 0 P md ops (Good w0 g0 Q) fuel listed a w
 |0,listed,fr,S,g,a,w,k,h1,h2,h3,h=>⟨h.1,k.kd h3,g,fr,S,k,h1,h2,h.2⟩
 |fuel+1,listed,fr,S,g,a,w,k,h1,h2,h3,h=>by
  refine⟨fun h0=>⟨k.kd h3,g,fr,S,k,h1,h2,h.1 h0⟩,fun i hi=>?_⟩
  have hq:=h.2 i hi
  unfold kH at hq
  unfold wpOpIn
  split
  ·rename_i ho;simp only[ho]at hq;exact eF fuel _ fr S g a w k h1 h2 h3 hq
  ·rename_i o ho
   simp only[ho]at hq
   rcases hq with⟨hw,hb⟩|⟨hw,hk⟩
   ·have hw':=eu (o:=o) h2 hw
    rw[if_pos hw']
    refine ef (lu hb) h1 (fun x _=>mi h2 x) h3 fun g' d' u S' w' k1 k2 k3 k4 k5=>?_
    exact eF fuel _ _ _ g' _ _ (k.trans k1) k2 (dq (h2.mono k1) _ k3) (k1.dk k5) k4
   ·have hw':=eu (o:=o) h2 hw
    rw[if_neg (by simp[hw'])]
    exact⟨fun _ _=>trivial,eF fuel _ _ _ g _ _ k h1 (dq h2 _ (jq g)) (h3.keep (put_defers _ _ _) fun _ _ h _=>h) hk⟩
theorem qQ{id:Nat}{l:List Oper}{fr:List DV}{S:St}{Q:Exit→List DV→St→Prop}(hm:P.follows .mixedOrders=true)(hB:qY .any l.toArray l.length 0 (Array.replicate l.length false)=true)(h:LX P w0 l.toArray (fun fr S=>Q .normal fr S) l fr S):gk P w0 (.region id l.toArray true) fr S Q:=by
 intro g a w h1 h2 h3
 refine gv hm fun ro=>?_
 have hR:Rel w0 g S {w with drawn:=w.drawn+1}:=h1.grow (lC w)
 have hcnt:∀l':List Nat,l'.Nodup→(∀k,k∈l'→(Array.replicate l.length false).getD k true=false)→l'.length≤l.length:=by
  intro l' hn hl
  have hsub:∀k,k∈l'→k∈List.range l.length:=fun k hk=>by
   have:=hl k hk
   rw[List.mem_range]
   rcases Nat.lt_or_ge k l.length with h|h
   ·exact h
   ·rw[Array.getD_eq_getD_getElem?,Array.getElem?_eq_none (by simpa using h)]at this;cases this
  have:=hn.length_le_of_subset (l₂:=List.range l.length) hsub
  simpa using this
 have:=pN (P:=P) (w0:=w0) (md:= .any) (ops:=l.toArray) l 0 (Array.replicate l.length false) fr S (by simp) hcnt hB h
 have:=eF (ro:=ro) (g0:=g) (Q:=Q) _ _ fr S g a _ (.refl g) hR h2 (h3.keep rfl fun _ _ h _=>h) this
 simpa using this
theorem pq{op:Op}(hk:kX op=0){fr:List DV}{S:St}{K:DV→Prop}(h:aH P w0 op fr S K):∃d,(∀S',aH P w0 op fr S' (·=d))∧K d:=by
 cases op with
 |move x=>exact⟨_,fun _=>rfl,h⟩
 |assign x=>exact⟨_,fun _=>rfl,h⟩
 |pick c a b=>obtain⟨d,q1,q2⟩:=sS h;exact⟨d,fun _=>q1,q2⟩
 |fieldAddr t x f=>obtain⟨d,q1,q2⟩:=qB h;exact⟨d,fun _=>q1,q2⟩
 |indexAddr t x i=>obtain⟨d,q1,q2⟩:=Fp h;exact⟨d,fun _=>q1,q2⟩
 |index t x i=>obtain⟨d,q1,q2⟩:=rp h;exact⟨d,fun _=>q1,q2⟩
 |field t x f=>obtain⟨d,q1,q2⟩:=oy h;exact⟨d,fun _=>q1,q2⟩
 |extract x i=>obtain⟨d,q1,q2⟩:=mQ h;exact⟨d,fun _=>q1,q2⟩
 |nilCheck x=>exact⟨_,fun _=>⟨h.1,rfl⟩,h.2⟩
 |binOp b t x y t'=>obtain⟨d,q1,q2⟩:=uf h.2;exact⟨d,fun _=>⟨h.1,q1⟩,q2⟩
 |unOp b t x=>obtain⟨d,q1,q2⟩:=Cx h;exact⟨d,fun _=>q1,q2⟩
 |convert s d x=>obtain⟨d,q1,q2⟩:=sW h;exact⟨d,fun _=>q1,q2⟩
 |makeInterface t x=>exact⟨_,fun _=>⟨h.1,h.2.1,rfl⟩,h.2.2⟩
 |makeFunc fn a b=>obtain⟨d,q1,q2⟩:=uT h;exact⟨d,fun _=>q1,q2⟩
 |slice t x lo hi mx=>obtain⟨d,q1,q2⟩:=qy h.2.2;exact⟨d,fun _=>⟨h.1,h.2.1,q1⟩,q2⟩
 |build t parts=>obtain⟨d,q1,q2⟩:=rq h.2;exact⟨d,fun _=>⟨h.1,q1⟩,q2⟩
 |buildSlice t len parts=>obtain⟨d,q1,q2⟩:=jH h.2;exact⟨d,fun _=>⟨h.1,q1⟩,q2⟩
 |call c=>
  obtain⟨callee,args,ts⟩:=c
  simp only[aH]at h ⊢
  split at h
  ·split at h
   ·obtain⟨d,q1,q2⟩:=xS h
    exact⟨d,fun _=>by simpa using q1,q2⟩
   ·exact h.elim
  ·split at h
   ·obtain⟨d,q1,q2⟩:=yE h
    exact⟨d,fun _=>by simpa using q1,q2⟩
   ·exact h.elim
  ·split at h
   ·obtain⟨d,q1,q2⟩:=xv h
    exact⟨d,fun _=>by simpa using q1,q2⟩
   ·exact h.elim
  ·split at h
   ·obtain⟨d,q1,q2⟩:=yb h
    exact⟨d,fun _=>by simpa using q1,q2⟩
   ·exact h.elim
  ·cases hk
  ·cases hk
  ·exact h.elim
 |_=>first|exact h.elim|cases hk
theorem Ek{S:St}{B:List (Nat×List DV)}(hB:Fr S B){b:Nat}{ds:List DV}(h:lk S.box b=some ds):lk (B++S.box) b=some ds:=by
 induction B with
 |nil=>exact h
 |cons x B ih=>
  have h1:=hB x List.mem_cons_self
  have hne:¬x.1=b:=fun e=>by rw[e]at h1;rw[mD h1]at h;cases h
  obtain⟨k,y⟩:=x
  show lk ((k,y)::(B++S.box)) b=_
  rw[px hne]
  exact ih fun z hz=>hB z (List.mem_cons_of_mem _ hz)
theorem uD{k:TK}{S:St}{x:DV}{K:DV→Prop}{B:List (Nat×List DV)}(hB:Fr S B)(h:bG k S x K):bG k ⟨B++S.box,S.acc⟩ x K:=by
 unfold bG at*
 split at h
 ·split at h
  ·rename_i ds hb
   simp only[Ek hB hb]
   exact h
  ·exact h.elim
 ·exact h
 ·exact h
 ·exact h.elim
end
def QX(P:Program)(w0:W0)(f:FuncId)(ds:List DV)(S:St)[K:Cn (DV→Prop)]:Prop:=∃d,(∀B,Fr S B→aa P w0 f ds ⟨B++S.box,S.acc⟩ fun d' S'=>d'=d∧S'=⟨B++S.box,S.acc⟩)∧K.k d
def gT(P:Program)(w0:W0)(cal:DV)(ds:List DV)(S:St)(K:DV→Prop):Prop:=match cal with
 | .v (.func (.func f) a cap)=>a.size=0∧okF P f=true∧cap.toList.all (fun u=>u.oneCell')=true∧ds.all gz=true∧@QX P w0 f (ds++cap.toList.map .v) S ⟨K⟩
 |_=>False
def oA(P:Program)(w0:W0)(op:Op)(fr:List DV)(S:St)(K:DV→St→Prop):Prop:=match op with
 | .load t x=>bG (tk P t) S (ev fr x) (K · S)
 | .alloc t=>eL (zD P t)=true∧E7 S (zD P t) K
 | .call ⟨.value cal,args,_⟩=>gT P w0 (ev fr cal) (args.toList.map (ev fr)) S (K · S)
 |op=>eI (kX op==0) (aH P w0 op fr S (K · S)) (aI P w0 op fr S K)
def oF(P:Program)(w0:W0)(ops:Array Oper)(K:List DV→St→Prop):List Oper→List DV→St→Prop
 |[],fr,S=>K fr S
 |o::rest,fr,S=>bV ops fr o.guard (fun fr=>oA P w0 o.op fr S fun d S'=>oF P w0 ops K rest (pt fr o.dst d) S') (fun fr=>oF P w0 ops K rest (pt fr o.dst ud) S)
section
variable {P:Program} {w0:W0} {ops:Array Oper} {md:Region.Mode}
theorem qq{o:Oper}{fr:List DV}{S:St}{K:List DV→St→Prop}(hs:gR o.op=true)(h:oA P w0 o.op fr S fun d S'=>K (pt fr o.dst d) S'):fh P w0 o fr S K:=by
 have gen:∀(h:eI (kX o.op==0) (aH P w0 o.op fr S fun d=>K (pt fr o.dst d) S) (aI P w0 o.op fr S fun d S'=>K (pt fr o.dst d) S')),kX o.op=0∨kX o.op=3→fh P w0 o fr S K:=by
  intro h hk
  rcases hk with hk|hk
  ·rw[hk]at h
   obtain⟨d,q1,q2⟩:=pq hk (show aH P w0 o.op fr S fun d=>K (pt fr o.dst d) S from h)
   exact .inl ⟨hk,d,fun S'=>by
    obtain⟨d',k1,k2⟩:=jV hs (q1 S')
    subst k2;exact k1,q2⟩
  ·rw[hk]at h
   exact .inr (.inr (.inr ⟨hk,bC hs h⟩))
 cases hop:o.op with
 |load t x=>
  rw[hop]at h hs
  obtain⟨d,q1,q2⟩:=pQ (show bG (tk P t) S (ev fr x) (fun d=>K (pt fr o.dst d) S)from h)
  refine .inr (.inl ⟨by rw[hop];rfl,d,fun B hB=>?_,q2⟩)
  exact bC (by rw[hop];exact hs) (by rw[hop];simpa[aI]using uD hB q1)
 |alloc t=>
  rw[hop]at h
  exact .inr (.inr (.inl ⟨by rw[hop];rfl,t,hop,h.1,h.2⟩))
 |call c=>
  obtain⟨callee,args,ts⟩:=c
  cases callee with
  |value cal=>
   rw[hop]at h hs
   simp only[oA,gT]at h
   split at h
   ·rename_i f a cap hcal
    obtain⟨h1,h2,h3,h4,d,h5,h6⟩:=h
    refine .inr (.inl ⟨by rw[hop];rfl,d,fun B hB=>?_,h6⟩)
    exact bC (by rw[hop];exact hs) (by rw[hop];simp only[aI,hcal];exact pC h1 h3 (by rw[h2,Lf];exact mK h4 (h5 B hB)))
   ·exact h.elim
  |builtin b=>
   refine gen (by rw[hop]at h ⊢;exact h) ?_
   rw[hop]
   cases b <;>first|exact .inl rfl|exact .inr rfl
  |invoke r m=>
   refine gen (by rw[hop]at h ⊢;exact h) ?_
   rw[hop];exact .inr rfl
 |_=>refine gen (by rw[hop]at h ⊢;exact h) ?_;rw[hop];first|exact .inl rfl|exact .inr rfl
theorem fK{K:List DV→St→Prop}:∀(l:List Oper) {fr:List DV} {S:St},l.all (fun o=>gR o.op)=true→oF P w0 ops K l fr S→LX P w0 ops K l fr S
 |[],fr,S,_,h=>h
 |o::rest,fr,S,hs,h=>by
  simp only[List.all_cons,Bool.and_eq_true]at hs
  rcases j2 h with⟨hw,ha⟩|⟨hw,hb⟩
  ·exact .inl ⟨hw,jj (fun fr S h=>fK rest hs.2 h) (qq hs.1 ha)⟩
  ·exact .inr ⟨hw,fK rest hs.2 hb⟩
def Vv(l:List Oper):Bool:=l.all (fun o=>gR o.op)&&qY .any l.toArray l.length 0 (Array.replicate l.length false)
theorem P1{id:Nat}{l:List Oper}{fr:List DV}{S:St}{Q:Exit→List DV→St→Prop}(hm:P.follows .mixedOrders=true)(hB:Vv l=true)(h:oF P w0 l.toArray (fun fr S=>jA fr fun fr=>Q .normal fr S) l fr S):gk P w0 (.region id l.toArray true) fr S Q:=by
 simp only[Vv,Bool.and_eq_true]at hB
 exact qQ hm hB.2 (fK l hB.1 h)
theorem N1{f:FuncId}{args args':List DV}{S:St}{K:DV→Prop}{r:DV}(h:∀B,Fr S B→aa P w0 f args' ⟨B++S.box,S.acc⟩ (fun d S'=>d=r∧S'=⟨B++S.box,S.acc⟩))(hk:K r)(ha:gC args args':=by exact gC.refl _):@QX P w0 f args S ⟨K⟩:=
 ⟨r,fun B hB=>kN (h B hB) ha ⟨rfl,rfl⟩,hk⟩
end
end Aml
namespace Aml
open Go Go.RowKit
section
variable {P:Program} {w0:W0} {ops:Array Oper} {fr:List DV} {S:St} {rest:List Oper} {dst:Option Tmp} {op:Op} {ty:TypeId} {pos:String} {aft:Array Edge}
section
variable {K:List DV→St→Prop}
theorem Lh:oF P w0 ops K [] fr S=K fr S:=rfl
theorem Ei:oF P w0 ops K (⟨dst,op,ty,pos,aft,none⟩::rest) fr S=oA P w0 op fr S fun d S'=>oF P w0 ops K rest (pt fr dst d) S':=rfl
end
variable {K:DV→St→Prop}
theorem Cc(t:TypeId)(x:Operand):oA P w0 (.load t x) fr S K=bG (tk P t) S (ev fr x) (K · S):=rfl
theorem yo(t:TypeId):oA P w0 (.alloc t) fr S K=(eL (zD P t)=true∧E7 S (zD P t) K):=rfl
theorem El(cal:Operand)(a:List Operand)(ts:Array TypeId):oA P w0 (.call ⟨.value cal,a.toArray,ts⟩) fr S K=gT P w0 (ev fr cal) (a.map (ev fr)) S (K · S):=rfl
theorem xj(f:FuncId)(a cap:Array Value)(ds:List DV)(K:DV→Prop):gT P w0 (.v (.func (.func f) a cap)) ds S K=(a.size=0∧okF P f=true∧cap.toList.all (fun u=>u.oneCell')=true∧ds.all gz=true∧@QX P w0 f (ds++cap.toList.map .v) S ⟨K⟩):=rfl
@[congr] theorem Ll {cal cal':DV} {ds ds':List DV} {S':St} {K:DV→Prop} (h1:cal=cal') (h2:ds=ds') (h3:S=S'):gT P w0 cal ds S K=gT P w0 cal' ds' S' K:=by cases h1;cases h2;cases h3;rfl
theorem C8(x:Operand):oA P w0 (.move x) fr S K=aH P w0 (.move x) fr S (K · S):=rfl
theorem uQ(x:Operand):oA P w0 (.assign x) fr S K=aH P w0 (.assign x) fr S (K · S):=rfl
theorem nf(t:TypeId)(x:Operand)(f:Nat):oA P w0 (.fieldAddr t x f) fr S K=aH P w0 (.fieldAddr t x f) fr S (K · S):=rfl
theorem qz(x:Operand)(i:Nat):oA P w0 (.extract x i) fr S K=aH P w0 (.extract x i) fr S (K · S):=rfl
theorem n7(x:Operand):oA P w0 (.nilCheck x) fr S K=aH P w0 (.nilCheck x) fr S (K · S):=rfl
theorem xZ(b:BinOp)(t:TypeId)(x y:Operand)(t':TypeId):oA P w0 (.binOp b t x y t') fr S K=aH P w0 (.binOp b t x y t') fr S (K · S):=rfl
theorem xr(t:TypeId)(x y:Operand):oA P w0 (.store t x y) fr S K=aI P w0 (.store t x y) fr S K:=rfl
theorem yH(a:Array Operand)(ts:Array TypeId):oA P w0 (.call ⟨.builtin .len,a,ts⟩) fr S K=aH P w0 (.call ⟨.builtin .len,a,ts⟩) fr S (K · S):=rfl
end
attribute [go_sem ↓] Lh Ei Cc yo El xj C8 uQ nf qz n7 xZ xr yH
theorem xb(b:Bool):(b==false)=!b:=by cases b <;>rfl
attribute [go_sem] xb
end Aml
namespace Aml
open Go Go.RowKit
structure Has(X T:St):Prop where
 box:∀b x,lk X.box b=some x→lk T.box b=some x
 acc:∀l o,lk X.acc l=some o→lk T.acc l=some o
structure Kp(X T T':St):Prop where
 box:∀b x,lk X.box b=none→lk T.box b=some x→lk T'.box b=some x
 acc:∀l o,lk X.acc l=none→lk T.acc l=some o→lk T'.acc l=some o
theorem Has.refl(X:St):Has X X:=⟨fun _ _ h=>h,fun _ _ h=>h⟩
theorem Kp.refl(X T:St):Kp X T T:=⟨fun _ _ _ h=>h,fun _ _ _ h=>h⟩
theorem kv{α:Type}{l:List (Nat×α)}(hn:(l.map (·.1)).Nodup){n:Nat}{x:α}(h:(n,x)∈l):lk l n=some x:=by
 induction l with
 |nil=>cases h
 |cons p t ih=>
  obtain⟨k,y⟩:=p
  simp only[List.map_cons,List.nodup_cons]at hn
  simp only[lk]
  rcases List.mem_cons.1 h with e|h
  ·cases e;simp
  ·have:k≠n:=by rintro rfl;exact hn.1 (List.mem_map_of_mem (f:=(·.1)) h)
   rw[if_neg this];exact ih hn.2 h
def ji:List Tmp→List DV→List DV→List DV
 |p::ps,d::ds,fr=>ji ps ds (fr.set p d)
 |_,_,fr=>fr
section
variable {P:Program} {w0:W0}
theorem Rel.has{g:Gh}{S T:St}{w:World}(h:Rel w0 g T w)(hs:Has S T)(nb:(S.box.map (·.1)).Nodup)(na:(S.acc.map (·.1)).Nodup):Rel w0 g S w:=by
 obtain⟨ow,o1,o2⟩:=h.own
 exact⟨h.below,h.bM,nb,na,h.gq,h.fresh,fun l o hl=>h.top l o (cn (hs.acc _ _ (kv na hl))),ow,fun b ds hb=>o1 b ds (cn (hs.box _ _ (kv nb hb))),fun l o hl=>o2 l o (cn (hs.acc _ _ (kv na hl)))⟩
theorem tI{g:Gh}:∀(ps:List Tmp) (ds:List DV) (vs:List Value) {fr:List DV} {us:Array Value},ai g fr us.toList→ai g ds vs→
 ai g (ji ps ds fr) (((ps.zip vs).foldl (fun t (p,v)=>t.setIfInBounds p v) us).toList)
 |[],ds,vs,fr,us,h,_=>by simpa[ji]using h
 |p::ps,ds,vs,fr,us,h,r=>by
  cases ds with
  |nil=>have:=r.len;simp at this;obtain rfl:vs=[]:=List.eq_nil_of_length_eq_zero this.symm;simpa[ji]using h
  |cons d ds=>
   obtain⟨v,vs',rfl,hd,hr⟩:=r.bP
   simp only[ji,List.zip_cons_cons,List.foldl_cons]
   exact tI ps ds vs' (by simpa using h.set p hd) hr
def Zf(P:Program)(w0:W0){α:Type}(l:Nat)(X:List α→St)(enc:α→List DV)(Ok:List α→Prop):Prop:=
 ∀pre x T,Ok (pre++[x])→Has (X pre) T→zL P w0 l (enc x) T fun d T'=>d= .v (.bool true)∧Has (X (pre++[x])) T'∧Kp (X pre) T T'
def YK(P:Program)(w0:W0){α:Type}(l:Nat)(X:List α→St)(enc:α→List DV)(V:List α):Prop:=
 ∀pre x T,(pre++[x]) <+: V→Has (X pre) T→zL P w0 l (enc x) T fun d T'=>d= .v (.bool true)∧Has (X (pre++[x])) T'∧Kp (X pre) T T'
theorem tH{α:Type}(X:List α→St)(enc:α→List DV)(Ok Fin:List α→Prop){fo:Operand}{ps:Array Tmp}{assign body:Code}{fr:List DV}{S:St}{Q:Exit→List DV→St→Prop}{gf:FuncId}{cap:Array Value}
 (hf:ev fr fo= .v (.func (.func gf) #[] cap)) (hok:okF P gf=true) (hcap:cap.toList.all (fun u=>u.oneCell')=true) (hrf:(kj assign&&kj body)=true)
 (h0:X []=S) (hdb:∀pre,(X pre).box.map (·.1)=(X []).box.map (·.1)) (hda:∀pre,(X pre).acc.map (·.1)=(X []).acc.map (·.1)) (hps:∀x,(enc x).length=ps.size)
 (hbody:∀pre x T,Ok (pre++[x])→Has (X pre) T→gk P w0 assign (ji ps.toList (enc x) fr) T (jU (fun D9 T1=>gk P w0 body D9 T1 (jU (fun _ T'=>Has (X (pre++[x])) T'∧Kp (X pre) T T') fun _ _ _=>False)) fun _ _ _=>False))
 (hit:∀(l:Nat) (w1:W0),Zf P w1 l X enc Ok→∀T,Has (X []) T→aa P w1 gf (.v (.func (.yield l) #[] #[])::cap.toList.map .v) T fun _ T'=>∃V,Fin V∧Has (X V) T')
 (hdone:∀V,Fin V→Q .normal fr (X V)):gk P w0 (.rangeFunc fo ps assign body) fr S Q:=by
 intro g a w h1 h2 h3 ro hro
 have hro:ro=none:=hro.resolve_right (by simp[kj])
 subst hro
 simp only[Bool.and_eq_true]at hrf
 subst h0
 refine wpIn_rangeFunc ?_
 intro fn hfn
 have hfo:=mi h2 fo
 rw[hf]at hfo
 have hg:a.eval fo= .func (.func gf) #[] cap:=ay hfo
 obtain⟨rec,hrec⟩:∃rec:LoopState→Option Code→Loop,rec=fun st pe=>{state:=st,pending:=pe,fn,tmps:=a.tmps,params:=ps,assign,body,defers:=w.heap.size}:=⟨_,rfl⟩
 obtain⟨W1,hW1⟩:∃W1,(w.alloc (.deferred (some []))).alloc (.loop (rec .ready none))=W1:=⟨_,rfl⟩
 have hL1:W1.heap[w.heap.size+1]? =some (.loop (rec .ready none)):=by
  rw[←hW1];have:=World.alloc_heap_new (w.alloc (.deferred (some []))) (.loop (rec .ready none));rwa [World.size_alloc]at this
 have hK1:W1.heap[w.heap.size]? =some (.deferred (some [])):=by
  rw[←hW1];exact(Below.heap_alloc _ _ _ (by simp)).trans (World.alloc_heap_new w _)
 have hb1:j6 w.heap.size w W1:=by
  rw[←hW1];exact((j6.refl _ w).alloc (Nat.le_refl _) _).alloc (by simp) _
 have hob:∀k o,g.obj k=some o→k<w.heap.size:=fun k o hk=>(Array.getElem?_eq_some_iff.1 (h1.below.obj k o hk).1).1
 have hgl:∀k,w.heap.size≤k→g.obj k=none:=fun k hk=>by
  cases hx:g.obj k with
  |none=>rfl
  |some o=>have:=hob k o hx;omega
 have hwl:∀k,w.heap.size≤k→w0.gh.obj k=none:=fun k hk=>by
  cases hx:w0.gh.obj k with
  |none=>rfl
  |some o=>have:=hob k o (h1.below.kn.obj k o hx);omega
 have hsz:=h1.below.size
 let w1:W0:=⟨w0.w,{g with obj:=fun k=>if k=w.heap.size+1 then some (.loop (rec .ready none))else w0.gh.obj k}⟩
 have R1:Rel w1 (g.aw (Bg W1)) (X []) W1:=by
  refine(h1.grow hb1).aw rfl (fun _ _ h=>AT h) ⟨fun _ _ _ h=>h,fun _ _ _ h=>h,fun k o hk=>?_⟩
  simp only[w1]at hk
  split at hk
  ·rename_i e;subst e;cases hk;exact qg hL1 rfl
  ·have:=(h1.grow hb1).below.obj k o (h1.below.kn.obj k o hk)
   exact qg this.1 this.2
 have nb:∀pre,((X pre).box.map (·.1)).Nodup:=fun pre=>by rw[hdb];exact h1.nb
 have na:∀pre,((X pre).acc.map (·.1)).Nodup:=fun pre=>by rw[hda];exact h1.na
 have h2k:ai (g.aw (Bg W1)) fr a.tmps.toList:=h2.aw
 have hcapR:∀g:Gh,ai g (cap.toList.map .v) cap.toList:=fun g=>⟨by simp,fun i d u a1 a2=>by
  simp only[List.getElem?_map,Option.map_eq_some_iff]at a1
  obtain⟨u',a1,rfl⟩:=a1
  rw[a2]at a1;cases a1
  exact .v _ (List.all_eq_true.1 hcap _ (List.mem_of_getElem? a2))⟩
 have hYK:Zf P w1 (w.heap.size+1) X enc Ok:=by
  intro pre x T hV hT g3 vs w3 r3 hvs
  have hl3g:g3.obj (w.heap.size+1)=some (.loop (rec .ready none)):=r3.below.kn.obj _ _ (by simp[w1])
  have hl3:=(r3.below.obj _ _ hl3g).1
  have hy:=run_yield (P:=P) (args:=vs) hl3 (by rw[hrec];have:=hvs.len;simp at this;rw[←this];exact hps x)
  rw[hrec]at hy
  dsimp only at hy
  refine⟨_,_,_,_,hy,fun ro=>roundIn_of_wpIn (F:=fz ro) (n:=0) trivial ?_⟩
  have hsub0:w0.gh.sub g3:=⟨fun _ _ _ h=>r3.below.kn.bM _ _ _ (h1.below.kn.bM _ _ _ h),fun _ _ _ h=>r3.below.kn.acc _ _ _ (h1.below.kn.acc _ _ _ h),fun k o hk=>r3.below.kn.obj k o (by
   simp only[w1]
   split
   ·rename_i e;subst e;rw[hwl _ (by omega)]at hk;cases hk
   ·exact hk)⟩
  have R3:Rel w0 g3 T w3:=r3.aw (w0':=w0) (ob:=g3.obj) rfl r3.below.obj hsub0
  have hfr0:ai g3 fr a.tmps.toList:=⟨h2.len,fun i d u a1 a2=>aK.of (g:=g) (fun b i u hu=>r3.below.kn.bM b i u hu) (fun l n u hu=>r3.below.kn.acc l n u hu) (h2.at_ i d u a1 a2)⟩
  have hfr:ai g3 (ji ps.toList (enc x) fr) (((ps.zip vs).foldl (fun t (p,v)=>t.setIfInBounds p v) a.tmps).toList):=by
   have:=tI (g:=g3) ps.toList (enc x) vs.toList (fr:=fr) (us:=a.tmps) hfr0 hvs
   rw[←Array.toList_zip,Array.foldl_toList]at this
   exact this
  refine wpIn_mono (hbody pre x T hV hT g3 {tmps:=_,defers:=[]} w3 R3 hfr (.nil rfl) (some (w.heap.size+1)) (.inr hrf.1)) ?_
  rintro e a4 w4 ⟨hd4,g4,fr4,T4,k1,k2,k3,k4⟩
  cases e with
  |normal=>
   have hl4g:g4.obj (w.heap.size+1)=some (.loop (rec .ready none)):=by rw[k1.obj];exact hl3g
   have hl4:=(k2.below.obj _ _ hl4g).1
   refine⟨_,run_beginRound hl4 (by rw[hrec]),?_⟩
   have hlt4:w.heap.size+1<w4.heap.size:=(Array.getElem?_eq_some_iff.1 hl4).1
   have hbz:({rec .ready none with state:= .busy}:Loop)=rec .busy none:=by rw[hrec]
   rw[hbz]
   have hwl0:=hwl (w.heap.size+1) (by omega)
   have hne0:∀k o,w0.gh.obj k=some o→k≠w.heap.size+1:=by rintro k o hk rfl;rw[hwl0]at hk;cases hk
   have R4x:Rel w0 (g4.aw fun k=>if k=w.heap.size+1 then none else g4.obj k) T4 w4:=k2.aw rfl (fun k o hk=>by
    split at hk
    ·cases hk
    ·exact k2.below.obj k o hk) ⟨k2.below.kn.bM,k2.below.kn.acc,fun k o hk=>by
     show(if k=w.heap.size+1 then none else g4.obj k)=some o
     rw[if_neg (hne0 k o hk)];exact k2.below.kn.obj k o hk⟩
   have hh5:∀k,k≠w.heap.size+1→(w4.putObj (w.heap.size+1) (.loop (rec .busy none))).heap[k]? =w4.heap[k]? :=fun k hk=>World.putObj_heap_other hk
   have R4y:=R4x.putObj (o':= .loop (rec .busy none)) hl4 rfl (by show(if _ then none else _)=none;rw[if_pos rfl]) (by omega)
   have R5:Rel w0 ((g4.aw fun k=>if k=w.heap.size+1 then none else g4.obj k).aw fun k=>if k=w.heap.size+1 then some (.loop (rec .busy none))else g4.obj k) T4 (w4.putObj (w.heap.size+1) (.loop (rec .busy none))):=R4y.aw rfl (fun k o hk=>by
    split at hk
    ·rename_i e;subst e;cases hk;exact⟨World.putObj_heap_same hlt4,rfl⟩
    ·rename_i e;rw[hh5 k e];exact k2.below.obj k o hk) ⟨k2.below.kn.bM,k2.below.kn.acc,fun k o hk=>by
     show(if k=w.heap.size+1 then some (.loop (rec .busy none))else g4.obj k)=some o
     rw[if_neg (hne0 k o hk)];exact k2.below.kn.obj k o hk⟩
   have hD5:Dk w0 (fun k=>if k=w.heap.size+1 then some (.loop (rec .busy none))else g4.obj k) a4 (w4.putObj (w.heap.size+1) (.loop (rec .busy none))):=by
    refine⟨hd4.1,fun d hd=>?_⟩
    obtain⟨D,e1,e2,e3,e4⟩:=hd4.2 d hd
    have hne:D≠w.heap.size+1:=by rintro rfl;rw[hl4]at e2;cases e2
    exact⟨D,e1,(hh5 D hne).trans e2,by show(if D=w.heap.size+1 then _ else g4.obj D)=none;rw[if_neg hne,k1.obj];exact e3,e4⟩
   refine wpIn_mono (k4 _ a4 _ R5 k3.aw.aw hD5 (some (w.heap.size+1)) (.inr hrf.2)) ?_
   rintro e a6 w6 ⟨_,g6,fr6,T6,q1,q2,q3,q4⟩
   cases e with
   |normal=>
    have hg6:g6.obj=fun k=>if k=w.heap.size+1 then some (.loop (rec .busy none))else g4.obj k:=q1.obj
    have hl6:=(q2.below.obj (w.heap.size+1) (.loop (rec .busy none)) (by rw[hg6];simp)).1
    have hlt6:w.heap.size+1<w6.heap.size:=(Array.getElem?_eq_some_iff.1 hl6).1
    have hbr:({rec .busy none with state:=if(none:Option Code).isNone then .ready else .done,pending:=none}:Loop)=rec .ready none:=by rw[hrec];rfl
    have he:=run_endRound (P:=P) none hl6
    rw[hbr]at he
    have he:(Instr.endRound (w.heap.size+1) none).run P w6= .ok (.bool true) (w6.putObj (w.heap.size+1) (.loop (rec .ready none))):=he
    have h34:∀k,k≠w.heap.size+1→g6.obj k=g3.obj k:=fun k hk=>by rw[hg6];simp only[if_neg hk];rw[k1.obj]
    have R6x:Rel w0 (g6.aw fun k=>if k=w.heap.size+1 then none else g3.obj k) T6 w6:=q2.aw rfl (fun k o hk=>by
     split at hk
     ·cases hk
     ·rename_i e;exact q2.below.obj k o (by rw[h34 k e];exact hk)) ⟨q2.below.kn.bM,q2.below.kn.acc,fun k o hk=>by
      show(if k=w.heap.size+1 then none else g3.obj k)=some o
      rw[if_neg (hne0 k o hk)];exact hsub0.obj k o hk⟩
    have hh7:∀k,k≠w.heap.size+1→(w6.putObj (w.heap.size+1) (.loop (rec .ready none))).heap[k]? =w6.heap[k]? :=fun k hk=>World.putObj_heap_other hk
    have R6y:=R6x.putObj (o':= .loop (rec .ready none)) hl6 rfl (by show(if _ then none else _)=none;rw[if_pos rfl]) (by omega)
    have R7:Rel w1 ((g6.aw fun k=>if k=w.heap.size+1 then none else g3.obj k).aw g3.obj) T6 (w6.putObj (w.heap.size+1) (.loop (rec .ready none))):=R6y.aw rfl (fun k o hk=>by
     by_cases e:k=w.heap.size+1
     ·subst e;rw[hl3g]at hk;cases hk;exact⟨World.putObj_heap_same hlt6,rfl⟩
     ·rw[hh7 k e];exact q2.below.obj k o (by rw[h34 k e];exact hk)) ⟨fun b i u hu=>q1.bM _ _ _ (k1.bM _ _ _ (r3.below.kn.bM _ _ _ hu)),fun l n u hu=>q1.acc _ _ _ (k1.acc _ _ _ (r3.below.kn.acc _ _ _ hu)),r3.below.kn.obj⟩
    exact⟨.bool true,_,he,.bool true,(g6.aw fun k=>if k=w.heap.size+1 then none else g3.obj k).aw g3.obj,.v (.bool true),T6,rfl,⟨fun b i u hu=>q1.bM _ _ _ (k1.bM _ _ _ hu),fun l n u hu=>q1.acc _ _ _ (k1.acc _ _ _ hu),rfl⟩,R7,.v _ rfl,rfl,q4.1,q4.2⟩
   |exit n=>exact q4.elim
   |goto n=>exact q4.elim
   |ret=>exact q4.elim
   |panic ch=>exact q4.elim
   |outgrown=>exact q4.elim
  |exit n=>exact k4.elim
  |goto n=>exact k4.elim
  |ret=>exact k4.elim
  |panic ch=>exact k4.elim
  |outgrown=>exact k4.elim
 refine⟨w.heap.size+1,[{target:= .collected w.heap.size,args:= #[]}],W1,{target:= .fn (.func gf) cap,args:= #[.func (.yield (w.heap.size+1)) #[] #[]]},W1,gf, #[.func (.yield (w.heap.size+1)) #[] #[]]++cap,W1,?_,?_,fun _ _=>trivial,?_,fun h=>by simp[fz,Fence.wide]at h,?_⟩
 ·rw[←hW1,hrec];exact run_enterLoop_outer _ _ _ _ _
 ·simp only[resolve,hg]
  simp[go_sem]
 ·unfold okF at hok
  split at hok
  ·rename_i fn' hfn'
   simp only[Bool.and_eq_true,Bool.not_eq_true']at hok
   obtain⟨hb,hname⟩:=hok
   have hbn:¬fn'.body=none:=by intro e;simp[e]at hb
   have hname':¬fn'.name= "runtime.NumGoroutine" :=by simpa using hname
   simp[invoke,callFunc,hfn',hname',hbn]
  ·cases hok
 ·refine oq.2 ((hit _ w1 hYK (X []) (.refl _) (g.aw (Bg W1)) _ W1 R1 ?_).mono ?_)
  ·have:ai (g.aw (Bg W1)) ([.v (.func (.yield (w.heap.size+1)) #[] #[])]++cap.toList.map .v) ([.func (.yield (w.heap.size+1)) #[] #[]]++cap.toList):=(ai.cons (.v _ rfl) (ai.nil _)).append (hcapR _)
   simpa using this
  ·rintro e w2 ⟨r,g2,d,S2,rfl,k1,k2,k3,V,kV,k4⟩
   have hg2:g2.obj=Bg W1:=k1.obj
   have hkeep:∀(k:Nat) (o:Obj),W1.heap[k]? =some o→nc o=true→w2.heap[k]? =some o:=fun k o h1 h2=>(k2.below.obj k o (by rw[hg2];exact qg h1 h2)).1
   have hl2:=hkeep _ _ hL1 rfl
   have hK2:=hkeep _ _ hK1 rfl
   have hpend:(rec .ready none).pending=none:=by rw[hrec]
   obtain⟨o',hend⟩:∃o',(Instr.endLoop (w.heap.size+1)).run P w2= .ok none (w2.putObj (w.heap.size+1) o'):=⟨_,by
    have:=run_endLoop (P:=P) hl2 (by rw[hrec];simp)
    rw[hpend]at this
    exact this⟩
   refine⟨none,_,hend,?_⟩
   have hoth:∀k,k≠w.heap.size+1→(w2.putObj (w.heap.size+1) o').heap[k]? =w2.heap[k]? :=fun k hk=>World.putObj_heap_other hk
   have RV:Rel w1 g2 (X V) w2:=k2.has k4 (nb _) (na _)
   have Rb:Rel w0 (g2.aw g.obj) (X V) w2:=RV.aw rfl (fun k o hk=>by
    obtain⟨p1,p2⟩:=h1.below.obj k o hk
    exact⟨hkeep k o ((hb1.block k (Array.getElem?_eq_some_iff.1 p1).1).trans p1) p2,p2⟩) ⟨fun b i u hu=>k1.bM _ _ _ (h1.below.kn.bM _ _ _ hu),fun l n u hu=>k1.acc _ _ _ (h1.below.kn.acc _ _ _ hu),h1.below.kn.obj⟩
   refine⟨?_,g2.aw g.obj,fr,X V,⟨k1.bM,k1.acc,rfl⟩,Rb.putObj hl2 rfl (hgl _ (by omega)) (by omega),?_,hdone V kV⟩
   ·refine⟨?_,?_⟩
    ·show({target:= .collected w.heap.size,args:= #[]}::a.defers:List Deferred).Nodup
     rw[List.nodup_cons]
     refine⟨fun hm=>?_,h3.1⟩
     obtain⟨D,e1,e2,_⟩:=h3.2 _ hm
     have:w.heap.size=D:=by injection e1 with e1 _;injection e1
     subst this
     have:=(Array.getElem?_eq_some_iff.1 e2).1
     omega
    ·intro d hd
     rcases List.mem_cons.1 hd with rfl|hd
     ·exact⟨_,rfl,(hoth _ (by omega)).trans hK2,hgl _ (Nat.le_refl _),by omega⟩
     ·obtain⟨D,e1,e2,e3,e4⟩:=h3.2 d hd
      have hlt:=(Array.getElem?_eq_some_iff.1 e2).1
      exact⟨D,e1,(hoth D (by omega)).trans (hkeep D _ ((hb1.block D hlt).trans e2) rfl),e3,e4⟩
   ·have:ai g2 fr a.tmps.toList:=h2k.mono k1
    exact this.aw
theorem vv{α:Type}(X:List α→St)(enc:α→List DV)(V:List α){fo:Operand}{ps:Array Tmp}{assign body:Code}{fr:List DV}{S:St}{Q:Exit→List DV→St→Prop}{gf:FuncId}{cap:Array Value}
 (hf:ev fr fo= .v (.func (.func gf) #[] cap)) (hok:okF P gf=true) (hcap:cap.toList.all (fun u=>u.oneCell')=true) (hrf:(kj assign&&kj body)=true)
 (h0:X []=S) (hdb:∀pre,(X pre).box.map (·.1)=(X []).box.map (·.1)) (hda:∀pre,(X pre).acc.map (·.1)=(X []).acc.map (·.1)) (hps:∀x,(enc x).length=ps.size)
 (hbody:∀pre x T,(pre++[x]) <+: V→Has (X pre) T→gk P w0 assign (ji ps.toList (enc x) fr) T (jU (fun D9 T1=>gk P w0 body D9 T1 (jU (fun _ T'=>Has (X (pre++[x])) T'∧Kp (X pre) T T') fun _ _ _=>False)) fun _ _ _=>False))
 (hit:∀(l:Nat) (w1:W0),YK P w1 l X enc V→∀T,Has (X []) T→aa P w1 gf (.v (.func (.yield l) #[] #[])::cap.toList.map .v) T fun _ T'=>Has (X V) T')
 (hdone:Q .normal fr (X V)):gk P w0 (.rangeFunc fo ps assign body) fr S Q:=
 tH X enc (· <+: V) (·=V) hf hok hcap hrf h0 hdb hda hps hbody (fun l w1 hy T hT=>(hit l w1 hy T hT).mono fun _ _ h=>⟨V,rfl,h⟩) fun V' e=>e▸hdone
theorem qp{α:Type}(ss:List Nat:=[])(X:List α→St)(enc:α→List DV)(V:List α){fo:Operand}{ps:Array Tmp}{assign body:Code}{fr:List DV}{S:St}{Q:Exit→List DV→St→Prop}{gf:FuncId}{cap:Array Value}
 (hm:P.follows .mixedOrders=true) (hc:(ua ss assign&&ua ss body&&kj assign&&kj body&&okF P gf)=true) (hf:ev fr fo= .v (.func (.func gf) #[] cap)) (hcap:cap.toList.all (fun u=>u.oneCell')=true)
 (h0:X []=S) (hdb:∀pre,(X pre).box.map (·.1)=(X []).box.map (·.1)) (hda:∀pre,(X pre).acc.map (·.1)=(X []).acc.map (·.1)) (hps:∀x,(enc x).length=ps.size)
 (hit:∀(l:Nat) (w1:W0),YK P w1 l X enc V→∀T,Has (X []) T→aa P w1 gf (.v (.func (.yield l) #[] #[])::cap.toList.map .v) T fun _ T'=>Has (X V) T')
 (hbody:∀pre x T,(pre++[x]) <+: V→Has (X pre) T→vw P w0 ss assign (ji ps.toList (enc x) fr) T (jU (fun D9 T1=>vw P w0 ss body D9 T1 (jU (fun _ T'=>Has (X (pre++[x])) T'∧Kp (X pre) T T') fun _ _ _=>False)) fun _ _ _=>False))
 (hdone:Q .normal fr (X V)):gk P w0 (.rangeFunc fo ps assign body) fr S Q:=by
 simp only[Bool.and_eq_true]at hc
 obtain⟨⟨⟨⟨c1,c2⟩,c3⟩,c4⟩,c5⟩:=hc
 refine vv X enc V hf c5 hcap (by rw[c3,c4];rfl) h0 hdb hda hps (fun pre x T hV hT=>?_) hit hdone
 refine(de hm assign c1 (hbody pre x T hV hT)).mono ?_
 intro e fr' S' h
 cases e <;>first|exact de hm body c2 h|exact h
theorem uN{ss:List Nat}{fr:List DV}{S:St}{Q:Exit→List DV→St→Prop}(f:Operand)(ps:Array Tmp)(a b:Code):vw P w0 ss (.rangeFunc f ps a b) fr S Q= @AL P w0 fr S ⟨((.rangeFunc f ps a b),Q)⟩:=rfl
theorem OB(l:Nat)(ds:List DV)(S:St)(K:DV→St→Prop):pD P w0 (.v (.func (.yield l) #[] #[])) ds S K=gy S ds fun ds S=>@YC P w0 l ds S ⟨K⟩:=by
 simp[pD]
@[congr] theorem aag {l:Nat} {ds ds':List DV} {S S':St} [K:Cn (DV→St→Prop)] (h1:ds=ds') (h2:S=S'):YC P w0 l ds S=YC P w0 l ds' S':=by cases h1;cases h2;rfl
theorem Ki{l:Nat}{args args':List DV}{S:St}{K K':DV→St→Prop}(h:zL P w0 l args' S K')(hk:∀d S',K' d S'→K d S')(ha:gC args args':=by exact gC.refl _):@YC P w0 l args S ⟨K⟩:=by
 intro g vs w h1 h2
 obtain⟨fn,t,a,b,q1,q2⟩:=h g vs w h1 (ha.spec h2)
 refine⟨fn,t,a,b,q1,fun ro=>(q2 ro).mono ?_⟩
 rintro e w' ⟨r,g',d,S',rfl,x1,x2,x3,x4⟩
 exact⟨r,g',d,S',rfl,x1,x2,x3,hk _ _ x4⟩
theorem ax{α:Type}(l:List (Nat×α))(b:Nat)(v:α):lk (up l b v) b=(lk l b).map fun _=>v:=by
 induction l with
 |nil=>rfl
 |cons p t ih=>obtain⟨k,x⟩:=p;simp only[up,lk];split <;>simp_all [lk]
theorem aM{α:Type}{b c:Nat}(h:¬b=c)(l:List (Nat×α))(v:α):lk (up l b v) c=lk l c:=by
 induction l with
 |nil=>rfl
 |cons p t ih=>
  obtain⟨k,x⟩:=p
  simp only[up]
  split
  ·rename_i e;subst e;simp[lk,h]
  ·simp only[lk,ih]
theorem rE{α:Type}(l:List (Nat×α))(b:Nat)(v v':α):up (up l b v) b v'=up l b v':=by
 induction l with
 |nil=>rfl
 |cons p t ih=>obtain⟨k,x⟩:=p;simp only[up];split <;>simp_all [up]
theorem Has.bu{X T:St}(h:Has X T)(b:FN T.box)(ds:List DV){A:List (Nat×Ob)}(hA:A=T.acc):Has X ⟨(b.n,ds)::T.box,A⟩:=⟨fun c x hc=>by
 have:=h.box c x hc
 simp only[lk]
 rw[if_neg (fun e=>by rw[←e,jt b]at this;cases this)];exact this,fun l o hl=>by rw[hA];exact h.acc l o hl⟩
theorem Has.up{b:Nat}{x v:List DV}{R:List (Nat×List DV)}{A:List (Nat×Ob)}{T:St}(h:Has ⟨(b,x)::R,A⟩ T):Has ⟨(b,v)::R,A⟩ ⟨up T.box b v,T.acc⟩:=⟨fun c y hc=>by
 have hb:=h.box b x (by simp[lk])
 simp only[lk]at hc
 split at hc
 ·rename_i e;subst e;cases hc;rw[ax,hb];rfl
 ·rename_i e
  rw[aM e]
  exact h.box c y (by simp only[lk,if_neg e];exact hc),h.acc⟩
theorem Kp.up{b:Nat}{v:List DV}{X T:St}(h:(lk X.box b).isSome=true):Kp X T ⟨up T.box b v,T.acc⟩:=⟨fun c x hc hx=>by
 have:¬b=c:=by rintro rfl;rw[hc]at h;cases h
 rw[aM this];exact hx,fun _ _ _ h=>h⟩
theorem Kp.trans{X X' T1 T2 T3:St}(h:Kp X T1 T2)(k:Kp X' T2 T3)(hb:∀b,lk X.box b=none→lk X'.box b=none)(ha:∀l,lk X.acc l=none→lk X'.acc l=none):Kp X T1 T3:=
 ⟨fun b x h1 h2=>k.box b x (hb b h1) (h.box b x h1 h2),fun l o h1 h2=>k.acc l o (ha l h1) (h.acc l o h1 h2)⟩
theorem Kp.bu{X T T':St}(h:Kp X T T')(b:FN T'.box)(ds:List DV){A:List (Nat×Ob)}(hA:A=T'.acc):Kp X T ⟨(b.n,ds)::T'.box,A⟩:=⟨fun c x hc hx=>by
 have:=h.box c x hc hx
 simp only[lk]
 rw[if_neg (fun e=>by rw[←e,jt b]at this;cases this)];exact this,fun l o h1 h2=>by rw[hA];exact h.acc l o h1 h2⟩
theorem F3(k0:IntKind)(b ke kb:TK)(S:St)(x:DV)(K:DV→Prop):jK (.int k0) b ke kb S x K=iP (.int k0) b x K:=rfl
theorem B7(e:Nat)(i:Bool)(ke kb:TK)(S:St)(b:ByteArray)(K:DV→Prop):jK .str (.sl e 1 1 i) ke kb S (.v (.string b)) K=(b.size<281474976710656∧kb= .int .u8∧K (.sl 1 false (b.data.toList.map fun c=> .v (.int .u8 c.toNat)))):=rfl
theorem GY(e s b:Nat)(i:Bool)(ke kb:TK)(S:St)(x:DV)(K:DV→Prop):jK (.sl e s b i) .str ke kb S x K=(ke= .int .u8∧Qg x=true∧fY S x fun s xs=>s=1∧nI xs=true∧K (.v (.string (strOfNums (vK xs))))):=rfl
theorem BL(l n:Nat):Qg (.acc l n)=true:=rfl
theorem Gn(s:Nat)(f:Bool)(xs:List DV):Qg (.sl s f xs)=true:=rfl
theorem Ht(n:Nat)(a:Int):vK (List.replicate n (DV.v (.int .u8 a)))=List.replicate n a:=(Ci n a).1
theorem DF(n:Nat)(a:Int):nI (List.replicate n (DV.v (.int .u8 a)))=true:=(Ci n a).2
theorem Me(b j:Nat){c:Code}{fr:List DV}{S:St}{Q:Exit→List DV→St→Prop}{ds:List DV}{l s:Nat}{xs:List DV}(hb:lk S.box b=some ds)(hj:ds[j]? =some (.acc l xs.length))(hl:lk S.acc l=some (.arr s xs))
 (h:gk P w0 c fr ⟨Aml.up S.box b (ds.set j (.sl s false xs)),Aml.up S.acc l (.tl s xs)⟩ Q):gk P w0 c fr S Q:=by
 intro g a w h1 h2 h3
 obtain⟨ow,o1,o2⟩:=h1.own
 obtain⟨q1,q2,q3,us,e,q4,q5,q6⟩:=o1 _ _ (cn hb)
 have hlt:j<us.toList.length:=by rw[←q5.len];exact(List.getElem?_eq_some_iff.1 hj).1
 have hr:=q5.at_ j _ _ hj (List.getElem?_eq_getElem hlt)
 obtain⟨o,c',hu⟩:∃o c',us.toList[j]= .slice o xs.length c'∧g.acc l xs.length=some (.slice o xs.length c'):=by
  generalize us.toList[j]=u at hr
  cases hr with
  |acc _ _ o c h=>exact⟨o,c,rfl,h⟩
 obtain⟨g',hle,hR,hrep⟩:=h1.freeze hl hu.2
 have hR':=hR.Rw (ds':=ds.set j (.sl s false xs)) (b:=b) hb ?_
 ·exact eK (h g' a w hR' (h2.mono hle) (hle.dk h3)) fun _ _ _ k=>k.of_le hle
 ·intro us' e' hh hr2
  rw[hh]at q4
  cases q4
  exact fj hr2 (List.getElem?_eq_getElem hlt) (by rw[hu.1];exact hrep)
end
attribute [go_sem ↓] F3 B7 GY uN
attribute [go_sem] BL Gn Ht DF OB ax aM rE Option.map_some
end Aml
namespace Aml
open Go Go.RowKit
def BV(d:DV)(S:St)(K:DV→St→Prop):Prop:=match d with
 | .sl s true xs=>∀l,jD S.acc l→K (.acc l xs.length) ⟨S.box,(l,.arr s xs)::S.acc⟩
 |_=>False
section
variable {P:Program} {w0:W0}
theorem ur{g:Gh}{S:St}{w:World}(h1:Rel w0 g S w){t len:Nat}{parts:List (Nat×DV)}{vs:List (Nat×Value)}(hx:parts.map (·.1)=vs.map (·.1))(hR:ai g (parts.map (·.2)) (vs.map (·.2))){K:DV→St→Prop}
 {e:Nat} (hte:∀e' s b i,tk P t= .sl e' s b i→e'=e) (h:aP (tk P t) (zD P e) len parts fun d=>BV d S K):
 ∃d u w' g' S',(Instr.buildSlice t len vs.toArray).run P w= .ok u w'∧g.le g'∧Rel w0 g' S' w'∧aK g' d u∧K d S':=by
 unfold aP at h
 split at h
 ·rename_i e' s by' hk
  obtain rfl:=hte _ _ _ _ hk
  obtain⟨hok,hzl,hbig,h⟩:=h
  obtain⟨hu,hs,_,hei⟩:=eC hk
  obtain⟨ti,z,hi,hz,hzs,hpos⟩:=cB hei
  have hsz:ti.size=s:=by simpa[Program.cellsOf,hi]using hs
  have hzD:zD P e'=cv z:=by simp[zD,hi,hz]
  have hrz:aK g (zD P e') z:=hzD▸jz g z
  split at h
  ·rename_i xs hf
   have hpw:=xO (z:=z) (s:=s) (n:=len) (by omega) (by omega)
   obtain⟨cs',us',q1,q2,q3,q4,q5⟩:=uj (g:=g) (s:=s) parts vs (List.replicate len (zD P e')) (List.replicate len z) ((Array.range (len*s)).map (z.cells[·%z.cells.size]!)) xs hx hR
    ⟨by simp,fun i d u a b=>by
     rw[List.getElem?_replicate]at a b
     split at a
     ·rename_i hlt;rw[if_pos hlt]at b;simp only[Option.some.injEq]at a b;subst a;subst b;exact hrz
     ·cases a⟩ hpw (fun u hu x hx=>by rw[List.eq_of_mem_replicate hu]at hx;exact hrz.one hok x hx) hf
   have hlen:xs.length=len:=by simpa using q5
   have hlu:us'.length=len:=by rw[←q2.len];exact hlen
   have hrun:(Instr.buildSlice t len vs.toArray).run P w= .ok (.slice (some ⟨w.heap.size,0,none⟩) len len) (w.alloc (.cells cs' e')):=by
    have hb:¬(len*s>2^24):=by omega
    simp only[Instr.buildSlice]
    by_cases hls:len*s=0
    ·have hl0:len=0:=by rcases Nat.mul_eq_zero.1 hls with h'|h' <;>omega
     have hcs:((Array.range (len*s)).map (z.cells[·%z.cells.size]!))= #[]:=by simp[hls]
     rw[hcs]at q1
     have hr0:∀f:Nat→Value,(Array.range 0).map f= #[]:=fun f=>by simp
     simp only[run_underlying hu,Go.sizeOf,typeInfo,hi,hsz,hls,newRow,Sem.run_bind,Sem.run_pure,Result.andThen_ok,run_program,hr0,if_true]
     rw[q1]
     simp[hl0]
    ·simp[run_underlying hu,Go.sizeOf,typeInfo,hi,hsz,hls,hb,zeroValue,hz,q1,newRow]
   have hlm:len≤maxLen:=by
    have:len*1≤len*s:=Nat.mul_le_mul_left len (by omega)
    unfold maxLen;omega
   have hcsz:cs'.size=len*s:=by
    have:=q3.size
    rw[hlu]at this
    simpa using this
   obtain⟨l,g',hle,hne,hRel,hA⟩:=h1.C0 (s:=s) (xs:=xs) (us:=us') (c:=len) (dz w (.cells cs' e')) (by omega) (Nat.le_refl _) (heap_alloc_new w _) hcsz (by omega) hlm q2 q3.each q4 (fun i u j x a b=>by have:=q3.at_ i u j x a b;simpa using this) (zg (by omega) (by rw[Array.length_toList,hcsz,hlu]) q3.each q4 (fun i u j x a b=>by have:=q3.at_ i u j x a b;simpa using this))
   rw[hlen]at hA
   have h':=h l (dn hne)
   rw[hlen]at h'
   exact⟨_,_,_,_,_,hrun,hle,hRel,hA,h'⟩
  ·exact h.elim
 ·exact h.elim
theorem Cu{o:Oper}{t len:Nat}{parts:List (Nat×Operand)}(ho:o.op= .buildSlice t len parts.toArray){ρD:Operand→DV}{S:St}{K:DV→St→Prop}
 (h:gy S (parts.map fun p=>ρD p.2) fun ds S=>aP (tk P t) (zD P (eG P t)) len ((parts.map (·.1)).zip ds) fun d=>BV d S K):aj P w0 o ρD S K:=by
 intro g w ρ h1 h2 hcst
 have hR:=jP (g:=g) (ρD:=ρD) (ρ:=ρ) parts (fun p hp=>h2 p.2 (by simp only[ho,Op.operands];simp;exact⟨p.1,hp⟩))
 obtain⟨g',ds,S',l1,R1,r1,k1⟩:=iT _ h1 hR h
 have hlen:(parts.map (·.1)).length=ds.length:=by have:=r1.len;simpa using this.symm
 obtain⟨d,u,w',g2,S2,e1,l2,R2,e2,e3⟩:=ur (P:=P) R1 (t:=t) (len:=len) (parts:=(parts.map (·.1)).zip ds) (vs:=parts.map fun p=>(p.1,ρ p.2)) (by rw[zip_fst hlen];simp) (by rw[sO hlen];simpa[Function.comp_def]using r1)
  (e:=eG P t) (fun e' s b i hk=>by simp[eG,hk]) k1
 have hrun:(execOp ρ o).run P w= .ok (.value u) w':=by
  have e:(parts.toArray.map fun(i,x)=>(i,ρ x))=(parts.map fun p=>(p.1,ρ p.2)).toArray:=by simp
  simp only[execOp,ho,Sem.run_bind]
  rw[e,e1]
  rfl
 rw[hrun]
 exact⟨g2,d,S2,l1.trans l2,R2,e2,e3⟩
def QE(P:Program)(w0:W0)(op:Op)(fr:List DV)(S:St)(K:DV→St→Prop):Prop:=match op with
 | .buildSlice t len parts=>gy S (parts.toList.map fun p=>ev fr p.2) fun ds S=>aP (tk P t) (zD P (eG P t)) len ((parts.toList.map (·.1)).zip ds) fun d=>BV d S K
 |op=>aI P w0 op fr S K
def vk(P:Program)(w0:W0)(ops:Array Oper)(K:List DV→St→Prop):List Oper→List DV→St→Prop
 |[],fr,S=>K fr S
 |o::rest,fr,S=>bV ops fr o.guard (fun fr=>QE P w0 o.op fr S fun d S'=>vk P w0 ops K rest (pt fr o.dst d) S') (fun fr=>vk P w0 ops K rest (pt fr o.dst ud) S)
theorem Gl{o:Oper}{fr:List DV}{S:St}{K:DV→St→Prop}(hs:gR o.op=true)(h:QE P w0 o.op fr S K):aj P w0 o (ev fr) S K:=by
 cases hop:o.op with
 |buildSlice t len parts=>rw[hop]at h;exact Cu (parts:=parts.toList) (by simpa using hop) h
 |_=>rw[hop]at h;exact bC hs (by rw[hop];exact h)
theorem lS{ops:Array Oper}{K:List DV→St→Prop}:∀(l:List Oper) {fr:List DV} {S:St},l.all (fun o=>gR o.op)=true→vk P w0 ops K l fr S→Ax P w0 ops K l fr S
 |[],fr,S,_,h=>h
 |o::rest,fr,S,hs,h=>by
  simp only[List.all_cons,Bool.and_eq_true]at hs
  refine iz (fun fr h=>?_) (fun fr h=>lS rest hs.2 h) h
  exact aQ (fun d S h=>lS rest hs.2 h) (Gl hs.1 h)
theorem YR{id:Nat}{l:List Oper}{fr:List DV}{S:St}{Q:Exit→List DV→St→Prop}(hs:l.all (fun o=>gR o.op)=true)(h:vk P w0 l.toArray (fun fr S=>jA fr fun fr=>Q .normal fr S) l fr S):gk P w0 (.region id l.toArray false) fr S Q:=
 sP (lS l hs h)
section
variable {ops:Array Oper} {fr:List DV} {S:St} {rest:List Oper} {dst:Option Tmp} {op:Op} {ty:TypeId} {pos:String} {aft:Array Edge} {K:List DV→St→Prop} {K2:DV→St→Prop}
theorem U0:vk P w0 ops K [] fr S=K fr S:=rfl
theorem Tl:vk P w0 ops K (⟨dst,op,ty,pos,aft,none⟩::rest) fr S=QE P w0 op fr S fun d S'=>vk P w0 ops K rest (pt fr dst d) S':=rfl
theorem R6(t:TypeId)(x:Operand):QE P w0 (.load t x) fr S K2=aI P w0 (.load t x) fr S K2:=rfl
theorem Mg(x:Operand):QE P w0 (.assign x) fr S K2=aI P w0 (.assign x) fr S K2:=rfl
theorem xX(t:TypeId)(len:Nat)(parts:List (Nat×Operand)):QE P w0 (.buildSlice t len parts.toArray) fr S K2=(gy S (parts.map fun p=>ev fr p.2) fun ds S=>aP (tk P t) (zD P (eG P t)) len ((parts.map (·.1)).zip ds) fun d=>BV d S K2):=rfl
theorem TH(s:Nat)(xs:List DV):BV (.sl s true xs) S K2=∀l:FN S.acc,K2 (.acc l.n xs.length) ⟨S.box,(l.n,.arr s xs)::S.acc⟩:=se S.acc fun l=>K2 (.acc l xs.length) ⟨S.box,(l,.arr s xs)::S.acc⟩
@[congr] theorem Zh {fr':List DV} {S':St} (h1:fr=fr') (h2:S=S'):QE P w0 op fr S K2=QE P w0 op fr' S' K2:=by cases h1;cases h2;rfl
@[congr] theorem YU {l:List Oper} {fr':List DV} {S':St} (h1:fr=fr') (h2:S=S'):vk P w0 ops K l fr S=vk P w0 ops K l fr' S':=by cases h1;cases h2;rfl
@[congr] theorem YT {d d':DV} {S':St} (h1:d=d') (h2:S=S'):BV d S K2=BV d' S' K2:=by cases h1;cases h2;rfl
end
end
attribute [go_sem ↓] U0 Tl R6 Mg xX TH
end Aml
namespace Aml
open Go Go.RowKit
section
variable {P:Program} {w0:W0}
theorem Lm{g:Gh}{S:St}{w:World}(h1:Rel w0 g S w){l:Nat}{xs:List DV}(hl:lk S.acc l=some (.arr 1 xs)){b c:Nat}(hval:g.acc l xs.length=some (.slice (some ⟨b,0,none⟩) xs.length c)){k:Nat}(hk:k<xs.length)
 {t e ty:TypeId} {z:Value} (hu:P.underlying t=some (.slice e)) (hv:∀w,(zeroValue e).run P w= .ok z w) (hz:z.cells= #[z]) (hz1:z.oneCell'=true) {zd:DV} (hrz:aK g zd z) (c':Nat):
 ∃w',(Builtin.clear_ #[t] ty #[.slice (some ⟨b,k,none⟩) (xs.length-k) c']).run P w= .ok (.tuple #[]) w'∧Rel w0 g ⟨S.box,up S.acc l (.arr 1 (xs.take k++List.replicate (xs.length-k) zd))⟩ w':=by
 obtain⟨ow,hO⟩:=h1.open_
 obtain⟨hs,⟨he,o2,ha⟩|⟨b',c0,cs,e0,q1,q2,q3,q4,q5,q6,q7,q8,qA,us,q9,q10,q11,q12⟩⟩:=hO.acc l _ (cn hl)
 ·rw[he]at hk;simp at hk
 have hval':=hval
 rw[q1]at hval'
 simp only[Option.some.injEq,Value.slice.injEq,Addr.mk.injEq,true_and,and_true]at hval'
 obtain⟨rfl,rfl⟩:=hval'
 have hzc:(Builtin.zeroCells z.cells (xs.length-k)).toList=List.replicate (xs.length-k) z:=by
  rw[hz]
  simp[Builtin.zeroCells]
  apply List.ext_getElem
  ·simp
  ·intro i h1 h2
   simp[Nat.mod_one]
 obtain⟨m,hm⟩:∃m,m+1=xs.length-k:=⟨xs.length-k-1,by omega⟩
 have hul:us.length=xs.length:=q9.len.symm
 have hst:=run_storeCells_at (P:=P) b' k e0 (List.replicate (xs.length-k) z) 0 cs w q5 (by simp;omega) (fun u hu=>by rw[List.eq_of_mem_replicate hu];exact hz1)
 have hle2:k+(List.replicate (xs.length-k) z).length≤cs.toList.length:=by simp;omega
 refine⟨w.setRow b' (aO cs.toList k (List.replicate (xs.length-k) z)).toArray,?_,?_⟩
 ·rw[cG _ _ _ hle2]
  simp only[Nat.add_zero]at hst
  rw[←hm]at hst hzc ⊢
  simp[Builtin.clear_,run_underlying hu,hv,hzc,hst]
 ·have hxs:(xs.take k++List.replicate (xs.length-k) zd).length=xs.length:=by simp;omega
  refine h1.I7 (ys:=xs.take k++List.replicate (xs.length-k) zd) (us:=us.take k++List.replicate (xs.length-k) z) (b:=b') (c:=c0) (e:=e0) (cs:=(aO cs.toList k (List.replicate (xs.length-k) z)).toArray) hl hval hxs (by omega) ?_ ?_ ?_ ?_ ?_ ?_ ?_ ?_ ?_ ?_
  ·exact setRow_heap w b' cs _ e0 (0,0) q5
  ·rw[List.size_toArray,cG _ _ _ hle2]
   simp only[List.length_append,List.length_take,List.length_drop,Array.length_toList]
   simp only[Array.length_toList]at hle2
   rw[←q6];omega
  ·exact h1.below.step ⟨rfl,rfl,rfl,by simp,fun k hk=>setRow_other w b' k _ (by omega),Nat.le_refl _⟩ b' (mq q5) fun k _ hne=>setRow_other w b' k _ hne
  ·simp
  ·intro k _ hkb;exact setRow_other w b' k _ hkb
  ·refine ai.append ?_ ?_
   ·exact⟨by simp[hul],fun i d u a1 a2=>by
     rw[List.getElem?_take]at a1 a2
     split at a1
     ·rename_i hlt;rw[if_pos hlt]at a2;exact q9.at_ i d u a1 a2
     ·cases a1⟩
   ·exact⟨by simp,fun i d u a1 a2=>by
     rw[List.getElem?_replicate]at a1 a2
     split at a1
     ·rename_i hlt;rw[if_pos hlt]at a2;cases a1;cases a2;exact hrz
     ·cases a1⟩
  ·intro j u hj
   rcases List.mem_append.1 (List.mem_of_getElem? hj)with hu|hu
   ·obtain⟨i,hi⟩:=List.mem_iff_getElem?.1 (List.mem_of_mem_take hu)
    exact q10 i u hi
   ·rw[List.eq_of_mem_replicate hu,hz];rfl
  ·intro u hu x hx
   rcases List.mem_append.1 hu with hu|hu
   ·exact q11 u (List.mem_of_mem_take hu) x hx
   ·rw[List.eq_of_mem_replicate hu,hz]at hx
    simp only[List.mem_singleton]at hx
    subst hx;exact hz1
  ·intro i u j x hi2 hj
   rw[List.getElem?_toArray,fX hle2]
   rcases Nat.lt_or_ge i k with hik|hik
   ·rw[List.getElem?_append_left (by simp;omega),List.getElem?_take,if_pos hik]at hi2
    have hjs:j<1:=by rw[←q10 i u hi2];exact(Array.getElem?_eq_some_iff.1 hj).1
    rw[if_neg (by simp;omega)]
    simpa using q12 i u j x hi2 hj
   ·have hlk:(us.take k).length=k:=by simp;omega
    rw[List.getElem?_append_right (by omega),hlk,List.getElem?_replicate]at hi2
    split at hi2
    ·rename_i hlt
     cases hi2
     rw[hz]at hj
     have hj0:j=0:=by
      have:=(Array.getElem?_eq_some_iff.1 hj).1
      simp at this;omega
     subst hj0
     rw[if_pos (by simp;omega),List.getElem?_replicate,if_pos (by omega)]
     simpa using hj
    ·cases hi2
  ·intro x hx
   rw[List.toList_toArray,cG _ _ _ hle2]at hx
   rcases List.mem_append.1 hx with hx|hx
   ·rcases List.mem_append.1 hx with hx|hx
    ·exact qA x (List.mem_of_mem_take hx)
    ·rw[List.eq_of_mem_replicate hx];exact hz1
   ·exact qA x (List.mem_of_mem_drop hx)
theorem Ug{id:Nat}{i p q r j:Nat}{t t1 t2 t3 t4:TypeId}{s1 s2 s3 s4:String}{a1 a2 a3 a4:Array Edge}{fr:List DV}{S:St}{Q:Exit→List DV→St→Prop}{l k:Nat}{xs:List DV}{kk:IntKind}{e by':Nat}{zd:Value}
 (hk:tk P t= .sl e 1 by' true) (hz:zD P e= .v zd) (hi:fr[i]? =some (.acc l xs.length)) (hj:fr[j]? =some (.v (.int kk k))) (hl:lk S.acc l=some (.arr 1 xs)) (hkx:k<xs.length)
 (hs:(decide (j≠i)&&decide (j≠p)&&decide (q≠p)&&decide (i≠p)&&decide (i≠q)&&decide (i≠r))=true) (hp:p<fr.length) (hq:q<fr.length) (hr:r<fr.length)
 (h:∀v u,Q .normal (((((fr.set i (.v v)).set p (.v v)).set q (.v (.int kk k))).set r (.v u)).set i (.acc l xs.length)) ⟨S.box,up S.acc l (.arr 1 (xs.take k++List.replicate (xs.length-k) (.v zd)))⟩):
 gk P w0 (.region id #[⟨some p,.move (.tmp i),t1,s1,a1,none⟩,⟨some q,.move (.tmp j),t2,s2,a2,none⟩,⟨some r,.slice t (.tmp p) (some (.tmp q)) none none,t3,s3,a3,none⟩,⟨none,.call ⟨.builtin .clear, #[.tmp r], #[t]⟩,t4,s4,a4,none⟩] false) fr S Q:=by
 simp only[Bool.and_eq_true,decide_eq_true_eq]at hs
 obtain⟨⟨⟨⟨⟨n1,n2⟩,n3⟩,n4⟩,n5⟩,n6⟩:=hs
 intro g a w h1 h2 h3
 have hilt:i<fr.length:=(List.getElem?_eq_some_iff.1 hi).1
 have hjlt:j<fr.length:=(List.getElem?_eq_some_iff.1 hj).1
 have hlen:fr.length=a.tmps.toList.length:=h2.len
 have hri:=h2.at_ i _ _ hi (List.getElem?_eq_getElem (by omega))
 obtain⟨v,hv⟩:∃v,v=a.tmps.toList[i]'(by omega):=⟨_,rfl⟩
 rw[←hv]at hri
 obtain⟨b,c,hval,hve⟩:∃b c,g.acc l xs.length=some (.slice (some ⟨b,0,none⟩) xs.length c)∧v= .slice (some ⟨b,0,none⟩) xs.length c∧xs.length≤c:=by
  obtain⟨ow,hO⟩:=h1.open_
  obtain⟨hs,⟨he,o2,ha⟩|⟨b',c0,cs,e0,q1,q2,q3,q4,q5,q6,q7,q8,qA,us,q9,q10,q11,q12⟩⟩:=hO.acc l _ (cn hl)
  ·rw[he]at hkx;simp at hkx
  ·refine⟨b',c0,q1,?_,q7⟩
   cases hri with
   |acc _ _ o c h=>rw[q1]at h;exact(Option.some.inj h).symm
 obtain⟨hve,hnc⟩:=hve
 let w1:W0:=⟨w0.w,g⟩
 have hsub:∀(g:Gh),g.sub g:=fun g=>⟨fun _ _ _ h=>h,fun _ _ _ h=>h,fun _ _ h=>h⟩
 have R1:Rel w1 g S w:=h1.aw (w0':=w1) (ob:=g.obj) rfl h1.below.obj (hsub g)
 have ho:v.oneCell'=true:=by rw[hve];rfl
 have h2':ai g (fr.set i (.v v)) a.tmps.toList:=fj h2 (by rw[hv];exact List.getElem?_eq_getElem (by omega)) (.v _ ho)
 obtain⟨hu,hss,_,hei⟩:=eC hk
 obtain⟨ti,z,hii,hzz,hzs,hpos⟩:=cB hei
 have hsz:ti.size=1:=by simpa[Program.cellsOf,hii]using hss
 have hzD:zD P e=cv z:=by simp[zD,hii,hzz]
 have hzv:z=zd:=by
  have hr:=jz g z
  rw[←hzD,hz]at hr
  exact ay hr
 have hz1:zd.oneCell'=true∧zd.cells= #[zd]:=by
  have hr:=jz g z
  rw[←hzD,hz]at hr
  have hone:=hr.one rfl
  rw[←hzv]
  rw[hsz]at hzs
  cases hr with
  |v _ h=>rw[hzv];exact⟨h,by cases zd <;>first|rfl|cases h⟩
 have hrun:=fun(w:World)=>(show(zeroValue e).run P w= .ok zd w by simp[zeroValue,typeInfo,hii,hzz,hzv])
 have hsize:∀w,(Go.sizeOf e).run P w= .ok 1 w:=fun w=>by simp[Go.sizeOf,typeInfo,hii,hsz]
 have g1:(fr.set i (.v v)).getD i ud= .v v:=by simp[List.getD_eq_getElem?_getD,hilt]
 have g2:((fr.set i (.v v)).set p (.v v)).getD j ud= .v (.int kk k):=by
  rw[List.getD_eq_getElem?_getD,List.getElem?_set_ne (fun e=>n2 e.symm),List.getElem?_set_ne (fun e=>n1 e.symm),hj];rfl
 have g3:(((fr.set i (.v v)).set p (.v v)).set q (.v (.int kk k))).getD p ud= .v v:=by
  rw[List.getD_eq_getElem?_getD,List.getElem?_set_ne n3,List.getElem?_set_self (by simpa using hp)];rfl
 have g4:(((fr.set i (.v v)).set p (.v v)).set q (.v (.int kk k))).getD q ud= .v (.int kk k):=by
  rw[List.getD_eq_getElem?_getD,List.getElem?_set_self (by simpa using hq)];rfl
 have g5:∀x,((((fr.set i (.v v)).set p (.v v)).set q (.v (.int kk k))).set r x).getD r ud=x:=fun x=>by
  rw[List.getD_eq_getElem?_getD,List.getElem?_set_self (by simpa using hr)];rfl
 have L:∀ops:Array Oper,Ax P w1 ops (fun fr' S'=>fr'[i]? =some (.v v)∧Q .normal (fr'.set i (.acc l xs.length)) S') [⟨some p,.move (.tmp i),t1,s1,a1,none⟩,⟨some q,.move (.tmp j),t2,s2,a2,none⟩,⟨some r,.slice t (.tmp p) (some (.tmp q)) none none,t3,s3,a3,none⟩,⟨none,.call ⟨.builtin .clear, #[.tmp r], #[t]⟩,t4,s4,a4,none⟩] (fr.set i (.v v)) S:=by
  intro ops
  refine Co (P:=P) rfl ?_
  show Ax P w1 ops _ _ ((fr.set i (.v v)).set p ((fr.set i (.v v)).getD i ud)) S
  rw[g1]
  refine Co (P:=P) rfl ?_
  show Ax P w1 ops _ _ (((fr.set i (.v v)).set p (.v v)).set q (((fr.set i (.v v)).set p (.v v)).getD j ud)) S
  rw[g2]
  show aj P w1 _ _ S _
  intro ga wa ρ ra rb rc
  have hx:=rb (.tmp p) (by simp[Op.operands])
  have hy:=rb (.tmp q) (by simp[Op.operands])
  change aK ga ((((fr.set i (.v v)).set p (.v v)).set q (.v (.int kk k))).getD p ud) _ at hx
  change aK ga ((((fr.set i (.v v)).set p (.v v)).set q (.v (.int kk k))).getD q ud) _ at hy
  rw[g3]at hx
  rw[g4]at hy
  have hx:=ay hx
  have hy:=ay hy
  have hb:(Instr.sliceBounds true xs.length c (some (.int kk (k:Int))) none none).run P wa= .ok (k,xs.length,c) wa:=by
   have:(Instr.sliceBound (.int kk (k:Int)) xs.length .sliceB).run P wa= .ok k wa:=by
    have:=aB (P:=P) (k:=kk) (i:=(k:Int)) (y:=xs.length) (code:= .sliceB) (w:=wa) (by omega) (by omega)
    simpa using this
   simp[Instr.sliceBounds,this]
  have hck:¬c=k:=by omega
  have hrun3:(execOp ρ ⟨some r,.slice t (.tmp p) (some (.tmp q)) none none,t3,s3,a3,none⟩).run P wa= .ok (.value (.slice (some ⟨b,k,none⟩) (xs.length-k) (c-k))) wa:=by
   simp[execOp,hx,hve,Instr.sliceAt,Instr.slice,run_underlying hu,hy,hb,hsize,hck,Addr.add] <;>omega
  rw[hrun3]
  refine⟨ga,.v (.slice (some ⟨b,k,none⟩) (xs.length-k) (c-k)),S,.refl ga,ra,.v _ rfl,?_⟩
  show aj P w1 _ _ S _
  intro gb wb ρ2 ra2 rb2 rc2
  have hx2:=rb2 (.tmp r) (by simp[Op.operands,Call.operands])
  change aK gb (((((fr.set i (.v v)).set p (.v v)).set q (.v (.int kk k))).set r _).getD r ud) _ at hx2
  rw[g5]at hx2
  have hx2:=ay hx2
  obtain⟨w',e1,e2⟩:=Lm (P:=P) (ty:=t4) ra2 hl (ra2.below.kn.acc _ _ _ hval) hkx hu hrun hz1.2 hz1.1 (zd:= .v zd) (.v _ hz1.1) (c-k)
  have hrun4:(execOp ρ2 ⟨none,.call ⟨.builtin .clear, #[.tmp r], #[t]⟩,t4,s4,a4,none⟩).run P wb= .ok (.value (.tuple #[])) w':=by
   simp[execOp,resolve,invoke,builtin,hx2,e1]
  rw[hrun4]
  refine⟨gb,.any,_,.refl gb,e2,.any _,?_,h _ _⟩
  show(((((fr.set i (.v v)).set p (.v v)).set q (.v (.int kk k))).set r _)[i]? :Option DV)=_
  rw[List.getElem?_set_ne (fun e=>n6 e.symm),List.getElem?_set_ne (fun e=>n5 e.symm),List.getElem?_set_ne (fun e=>n4 e.symm),List.getElem?_set_self hilt]
 refine eK (jw fun ro=>kM (w0:=w1) (Q:=fun e fr' S'=>fr'[i]? =some (.v v)∧Q e (fr'.set i (.acc l xs.length)) S') _ _ S g a w (.refl g) R1 h2' h3 (L _)) ?_
 rintro e' a' w' ⟨hd,g',fr',S',k1,k2,k3,k5,k4⟩
 have hb0:w0.gh.sub g':=⟨fun _ _ _ h=>k2.below.kn.bM _ _ _ (h1.below.kn.bM _ _ _ h),fun _ _ _ h=>k2.below.kn.acc _ _ _ (h1.below.kn.acc _ _ _ h),fun _ _ h=>k2.below.kn.obj _ _ (h1.below.kn.obj _ _ h)⟩
 refine⟨hd,g',fr'.set i (.acc l xs.length),S',k1,k2.aw (w0':=w0) (ob:=g'.obj) rfl k2.below.obj hb0,?_,k4⟩
 have hlt':i<a'.tmps.toList.length:=by rw[←k3.len];exact(List.getElem?_eq_some_iff.1 k5).1
 have hu':=List.getElem?_eq_getElem hlt'
 have hvi:=ay (k3.at_ i _ _ k5 hu')
 refine fj k3 hu' ?_
 rw[hvi,hve]
 exact .acc _ _ _ _ (k1.acc _ _ _ hval)
end
end Aml
namespace Aml
open Go Go.RowKit
inductive Tr where
 |leaf|head (t:Tr)|snd (t:Tr)|both (t u:Tr)
def UE(P:Program)(w0:W0)(K:List DV→St→Prop):Tr→List Oper→List DV→St→Prop
 | .leaf,[],fr,S=>K fr S
 | .head t,o::r,fr,S=>aI P w0 o.op fr S fun d S'=>UE P w0 K t r (pt fr o.dst d) S'
 | .snd t,p::o::r,fr,S=>aI P w0 o.op fr S fun d S'=>UE P w0 K t (p::r) (pt fr o.dst d) S'
 | .both t u,p::o::r,fr,S=>(aI P w0 p.op fr S fun d S'=>UE P w0 K t (o::r) (pt fr p.dst d) S')∧aI P w0 o.op fr S fun d S'=>UE P w0 K u (p::r) (pt fr o.dst d) S'
 |_,_,_,_=>False
section
variable {P:Program} {w0:W0}
section
variable {K:List DV→St→Prop} {fr:List DV} {S:St} {t u:Tr} {o p:Oper} {r:List Oper} {dst dst2:Option Tmp} {op op2:Op} {ty ty2:TypeId} {pos pos2:String} {aft aft2:Array Edge}
@[congr] theorem ZJ {fr':List DV} {S':St} (h1:fr=fr') (h2:S=S'):UE P w0 K t r fr S=UE P w0 K t r fr' S':=by cases h1;cases h2;rfl
end
end
end Aml
namespace Aml
open Go Go.RowKit
section
variable {P:Program} {w0:W0}
theorem Jt{o:Oper}{ρD:Operand→DV}{S:St}{r:DV}(h:aj P w0 o ρD S fun d S'=>shr S' d fun d' S''=>d'=r∧Sub S S''):aj P w0 o ρD S fun d S'=>d=r∧S'=S:=by
 intro g w ρ h1 h2 hcst
 have:=h g w ρ h1 h2 hcst
 split at this
 ·obtain⟨g',d,S',a,b,c,e⟩:=this
  obtain⟨g2,d2,S2,q1,q2,q3,q4,q5⟩:=mI b c e
  exact⟨g2,d2,S,a.trans q1,q2.forget q5.box q5.acc,q3,q4,rfl⟩
 ·obtain⟨g',S',a,b,e⟩:=this
  have e:ud=r∧Sub S S':=e
  exact⟨g',S,a,b.forget e.2.box e.2.acc,e.1,rfl⟩
 ·refine this.mono ?_
  rintro e w'' ⟨r',g',d,S',a,b,c,x,y⟩
  obtain⟨g2,d2,S2,q1,q2,q3,q4,q5⟩:=mI c x y
  exact⟨r',g2,d2,S,a,b.trans q1,q2.forget q5.box q5.acc,q3,q4,rfl⟩
 ·refine fun ro=>(this ro).mono ?_
  rintro e w'' ⟨r',g',d,S',a,b,c,x,y⟩
  obtain⟨g2,d2,S2,q1,q2,q3,q4,q5⟩:=mI c x y
  exact⟨r',g2,d2,S,a,b.trans q1,q2.forget q5.box q5.acc,q3,q4,rfl⟩
 ·exact this
def tQ(k:TK)(z x y:DV)(K:DV→Prop):Prop:=match k,x,y with
 | .sl _ s by' true,.v (.int _ n),.v (.int _ m)=>eL z=true∧0≤n∧n≤m∧m*by'≤140737488355328∧m≤9223372036854775807∧K (.sl s false (List.replicate n.toNat z))
 |_,_,_=>False
def tS(a b ke:TK)(x:DV)(K:DV→Prop):Prop:=match a,b,x with
 | .sl _ _ _ _,.str,.sl s _ xs=>ke= .int .u8∧s=1∧nI xs=true∧K (.v (.string (strOfNums (vK xs))))
 |a,b,x=>iP a b x K
def BG(P:Program)(w0:W0)(op:Op)(fr:List DV)(S:St)(K:DV→Prop):Prop:=match op with
 | .makeSlice t x y=>tQ (tk P t) (zD P (eG P t)) (ev fr x) (ev fr y) K
 | .convert s d x=>tS (tk P s) (tk P d) (tk P (eG P s)) (ev fr x) K
 |op=>aH P w0 op fr S K
def Vj:Op→Bool
 | .makeSlice ..=>true
 |op=>pY op
def LZ(P:Program)(w0:W0)(S:St)(ops:Array Oper)(K:List DV→St→Prop):List Oper→List DV→Prop
 |[],fr=>K fr S
 |o::rest,fr=>eI (Vj o.op) (bV ops fr o.guard (fun fr=>BG P w0 o.op fr S fun d=>LZ P w0 S ops K rest (pt fr o.dst d)) (fun fr=>LZ P w0 S ops K rest (pt fr o.dst ud))) (yu P w0 ops K (o::rest) fr S)
theorem vT{o:Oper}{fr:List DV}{S:St}{K:DV→Prop}(hs:gR o.op=true)(h:BG P w0 o.op fr S K):∃d,QY P w0 S o fr d∧K d:=by
 cases hop:o.op with
 |makeSlice t x y=>
  rw[hop]at h
  simp only[BG,tQ]at h
  split at h
  ·rename_i e s by' k1 n k2 m hk hx hy
   obtain⟨q1,q2,q3,q4,q5,q6⟩:=h
   refine⟨_,Jt (rD hop ?_),q6⟩
   rw[hk,hx,hy]
   refine⟨q1,q2,q3,q4,q5,fun l hl=>?_⟩
   show shr _ _ _
   unfold shr nh
   simp only[lk,if_true,List.length_replicate,true_and]
   exact⟨List.Sublist.refl _,by show List.Sublist S.acc (up _ _ _);simp only[up,if_true];exact List.sublist_cons_self _ _⟩
  ·exact h.elim
 |convert s d x=>
  rw[hop]at h hs
  simp only[BG,tS]at h
  split at h
  ·rename_i e c b i s0 f xs hk hd hx
   obtain⟨q1,q2,q3,q4⟩:=h
   refine⟨_,EL (K:=fun d S'=>d=_∧S'=S) hop ?_,q4⟩
   rw[hk,hd,hx]
   exact⟨q1,rfl,q2,q3,rfl,rfl⟩
  ·exact jV (by rw[hop];exact hs) (by rw[hop];exact h)
 |_=>rw[hop]at h hs;exact jV (by rw[hop];exact hs) (by rw[hop];exact h)
section
variable {ops:Array Oper} {K:List DV→St→Prop} {K2:DV→Prop} {fr:List DV} {S:St} {r:List Oper} {dst:Option Tmp} {op:Op} {ty:TypeId} {pos:String} {aft:Array Edge}
@[congr] theorem abg {fr':List DV} (h1:fr=fr'):LZ P w0 S ops K r fr=LZ P w0 S ops K r fr':=by cases h1;rfl
@[congr] theorem Zq {fr':List DV} (h1:fr=fr'):BG P w0 op fr S K2=BG P w0 op fr' S K2:=by cases h1;rfl
@[congr] theorem VL {k k':TK} {z z' x x' y y':DV} (h1:k=k') (h2:z=z') (h3:x=x') (h4:y=y'):tQ k z x y K2=tQ k' z' x' y' K2:=by cases h1;cases h2;cases h3;cases h4;rfl
@[congr] theorem UZ {k k' q q' ke ke':TK} {x x':DV} (h1:k=k') (h2:q=q') (h3:ke=ke') (h4:x=x'):tS k q ke x K2=tS k' q' ke' x' K2:=by cases h1;cases h2;cases h3;cases h4;rfl
end
end
attribute [go_sem] Vj
end Aml
namespace Aml.Z
open Go Go.RowKit
def kX:Op→Nat
 | .load ..=>1
 | .alloc _=>2
 | .call c=>match c.callee with
  | .value _=>1
  | .builtin .len=>0
  | .builtin .cap=>0
  | .builtin .min=>0
  | .builtin .max=>0
  |_=>3
 | .move _=>0
 | .assign _=>0
 | .pick ..=>0
 | .fieldAddr ..=>0
 | .indexAddr ..=>0
 | .index ..=>0
 | .field ..=>0
 | .extract ..=>0
 | .nilCheck _=>0
 | .binOp ..=>0
 | .unOp ..=>0
 | .convert ..=>0
 | .makeInterface ..=>0
 | .makeFunc ..=>0
 | .slice ..=>0
 | .build ..=>0
 | .buildSlice ..=>0
 | .makeSlice ..=>0
 |_=>3
def Fr(S:St)(B:List (Nat×List DV)):Prop:=∀x,x∈B→jD S.box x.1
def fh(P:Program)(w0:W0)(o:Oper)(fr:List DV)(S:St)(K:List DV→St→Prop):Prop:=
 (kX o.op=0∧∃d,(∀S',QY P w0 S' o fr d)∧K (pt fr o.dst d) S)∨
 (kX o.op=1∧∃d,(∀B,Fr S B→QY P w0 ⟨B++S.box,S.acc⟩ o fr d)∧K (pt fr o.dst d) S)∨
 (kX o.op=2∧∃t,o.op= .alloc t∧eL (zD P t)=true∧∀b,jD S.box b→K (pt fr o.dst (.v (.pointer (some ⟨b,0,none⟩)))) ⟨(b,cd (zD P t))::S.box,S.acc⟩)∨
 (kX o.op=3∧aj P w0 o (ev fr) S fun d S'=>K (pt fr o.dst d) S')
def ft(P:Program)(w0:W0)(ops:Array Oper)(o:Oper)(fr:List DV)(S:St)(K:List DV→St→Prop):Prop:=
 (dA ops fr o.guard=some true∧fh P w0 o fr S K)∨(dA ops fr o.guard=some false∧K (pt fr o.dst ud) S)
def mn(a b:Nat):Bool:=a==0||(a==1&&decide (b<3))
section
variable {P:Program} {w0:W0} {ops:Array Oper} {md:Region.Mode}
theorem jj{o:Oper}{fr:List DV}{S:St}{K K':List DV→St→Prop}(h:∀fr S,K fr S→K' fr S)(b:fh P w0 o fr S K):fh P w0 o fr S K':=by
 rcases b with⟨c,d,q,k⟩|⟨c,d,q,k⟩|⟨c,t,ht,hz,k⟩|⟨c,q⟩
 ·exact .inl ⟨c,d,q,h _ _ k⟩
 ·exact .inr (.inl ⟨c,d,q,h _ _ k⟩)
 ·exact .inr (.inr (.inl ⟨c,t,ht,hz,fun b hb=>h _ _ (k b hb)⟩))
 ·exact .inr (.inr (.inr ⟨c,aQ (fun d S hk=>h _ _ hk) q⟩))
theorem gY{o:Oper}{fr:List DV}{S:St}{K K':List DV→St→Prop}(h:∀fr S,K fr S→K' fr S)(b:ft P w0 ops o fr S K):ft P w0 ops o fr S K':=
 b.imp (fun⟨a,b⟩=>⟨a,jj h b⟩) fun⟨a,b⟩=>⟨a,h _ _ b⟩
theorem rm{o:Oper}{fr:List DV}{S:St}{K:List DV→St→Prop}{dst:Option Tmp}{e:DV}(h1:∀t,dst=some t→t∉o.looksAt ops)(h2:∀t,dst=some t→o.dst≠some t):
 fh P w0 o (pt fr dst e) S K↔fh P w0 o fr S fun fr' S'=>K (pt fr' dst e) S':=by
 have hq:∀S d,QY P w0 S o (pt fr dst e) d↔QY P w0 S o fr d:=fun S d=>
  ⟨aR (fun x hx=>fc (ops:=ops) h1 x hx),aR (fun x hx=>(fc (ops:=ops) h1 x hx).symm)⟩
 have hc:∀d,pt (pt fr dst e) o.dst d=pt (pt fr o.dst d) dst e:=fun d=>j9 fr e d h2
 have hy:∀K,aj P w0 o (ev (pt fr dst e)) S K↔aj P w0 o (ev fr) S K:=fun K=>
  ⟨aR (fun x hx=>fc (ops:=ops) h1 x hx),aR (fun x hx=>(fc (ops:=ops) h1 x hx).symm)⟩
 unfold fh
 simp only[hq,hc,hy]
theorem jl{o:Oper}{fr:List DV}{S:St}{K:List DV→St→Prop}{dst:Option Tmp}{e:DV}(h1:∀t,dst=some t→t∉o.looksAt ops)(h2:∀t,dst=some t→o.dst≠some t):
 ft P w0 ops o (pt fr dst e) S K↔ft P w0 ops o fr S fun fr' S'=>K (pt fr' dst e) S':=by
 unfold ft
 rw[iA h1,rm h1 h2,j9 fr e ud h2]
theorem mB{o:Oper}{fr:List DV}{S:St}{K K':List DV→St→Prop}(h:∀e S,K (pt fr o.dst e) S→K' (pt fr o.dst e) S)(b:fh P w0 o fr S K):fh P w0 o fr S K':=by
 rcases b with⟨c,d,q,k⟩|⟨c,d,q,k⟩|⟨c,t,ht,hz,k⟩|⟨c,q⟩
 ·exact .inl ⟨c,d,q,h _ _ k⟩
 ·exact .inr (.inl ⟨c,d,q,h _ _ k⟩)
 ·exact .inr (.inr (.inl ⟨c,t,ht,hz,fun b hb=>h _ _ (k b hb)⟩))
 ·exact .inr (.inr (.inr ⟨c,aQ (fun d S hk=>h _ _ hk) q⟩))
theorem jk{o:Oper}{fr:List DV}{S:St}{K K':List DV→St→Prop}(h:∀e S,K (pt fr o.dst e) S→K' (pt fr o.dst e) S)(b:ft P w0 ops o fr S K):ft P w0 ops o fr S K':=
 b.imp (fun⟨a,b⟩=>⟨a,mB h b⟩) fun⟨a,b⟩=>⟨a,h _ _ b⟩
theorem qs{x y:Oper}(hap:x.apart ops y=true)(hk:mn (kX x.op) (kX y.op)=true){fr:List DV}{S:St}{K:List DV→St→Prop}(h:ft P w0 ops x fr S fun fr S=>ft P w0 ops y fr S K):
 ft P w0 ops y fr S fun fr S=>ft P w0 ops x fr S K:=by
 obtain⟨b1,b2,b3⟩:=Oper.apart_spec hap
 have hw:∀e,dA ops (pt fr y.dst e) x.guard=dA ops fr x.guard:=fun e=>iA b3
 have hq:∀{S d e},QY P w0 S x fr d→QY P w0 S x (pt fr y.dst e) d:=fun{S d e} q=>aR (fun z hz=>(fc (ops:=ops) b3 z hz).symm) q
 rcases h with⟨hg,hb⟩|⟨hg,hb⟩
 ·rcases hb with⟨c,d,q,k⟩|⟨c,d,q,k⟩|⟨c, -⟩|⟨c, -⟩
  ·rw[jl b1 b2]at k
   exact jk (fun e S' hk=> .inl ⟨by rw[hw];exact hg,.inl ⟨c,d,fun S''=>hq (q S''),hk⟩⟩) k
  ·rw[jl b1 b2]at k
   rcases k with⟨g2,k⟩|⟨g2,k⟩
   ·rcases k with⟨c2,d2,q2,k⟩|⟨c2,d2,q2,k⟩|⟨c2,t,ht,hz,k⟩|⟨c2, -⟩
    ·exact .inl ⟨g2,.inl ⟨c2,d2,q2,.inl ⟨by rw[hw];exact hg,.inr (.inl ⟨c,d,fun B hB=>hq (q B hB),k⟩)⟩⟩⟩
    ·exact .inl ⟨g2,.inr (.inl ⟨c2,d2,q2,.inl ⟨by rw[hw];exact hg,.inr (.inl ⟨c,d,fun B hB=>hq (q B hB),k⟩)⟩⟩)⟩
    ·refine .inl ⟨g2,.inr (.inr (.inl ⟨c2,t,ht,hz,fun b hb=> .inl ⟨by rw[hw];exact hg,.inr (.inl ⟨c,d,fun B hB=>hq ?_,k b hb⟩)⟩⟩))⟩
     have:=q (B++[(b,cd (zD P t))]) fun z hz'=>by
      rcases List.mem_append.1 hz' with h|h
      ·exact(hB z h).2.2
      ·simp only[List.mem_singleton]at h;subst h;exact hb
     rw[List.append_assoc]at this
     exact this
    ·rw[c,c2]at hk;exact absurd hk (by decide)
   ·exact .inr ⟨g2,.inl ⟨by rw[hw];exact hg,.inr (.inl ⟨c,d,fun B hB=>hq (q B hB),k⟩)⟩⟩
  ·rw[c]at hk;simp[mn]at hk
  ·rw[c]at hk;simp[mn]at hk
 ·rw[jl b1 b2]at hb
  exact jk (fun e S' hk=> .inr ⟨by rw[hw];exact hg,hk⟩) hb
def kH(P:Program)(w0:W0)(ops:Array Oper)(i:Nat)(fr:List DV)(S:St)(K:List DV→St→Prop):Prop:=match ops[i]? with
 |none=>K fr S
 |some o=>ft P w0 ops o fr S K
def GN(P:Program)(w0:W0)(md:Region.Mode)(ops:Array Oper)(K:List DV→St→Prop):Nat→Array Bool→List DV→St→Prop
 |0,listed,fr,S=>Region.ready md ops listed=[]∧K fr S
 |fuel+1,listed,fr,S=>(Region.ready md ops listed=[]→K fr S)∧∀i∈Region.ready md ops listed,kH P w0 ops i fr S (GN P w0 md ops K fuel (listed.setIfInBounds i true))
theorem qT{K:List DV→St→Prop}{i:Nat}{oi:Oper}(hi:ops[i]? =some oi):
 ∀(fuel:Nat) (listed:Array Bool) (fr:List DV) (S:St),
  (∀j oj,ops[j]? =some oj→j≠i→listed.getD j true=false→(∀e∈oj.after,Region.binds md e=true→e.on≠i)→oi.apart ops oj=true∧mn (kX oi.op) (kX oj.op)=true)→
  (∀l:List Nat,l.Nodup→(∀k,k∈l→listed.getD k true=false)→l.length≤fuel+1)→
  i∈Region.ready md ops listed→ft P w0 ops oi fr S (GN P w0 md ops K fuel (listed.setIfInBounds i true))→GN P w0 md ops K (fuel+1) listed fr S:=by
 intro fuel
 induction fuel with
 |zero=>
  intro listed fr S _ hcnt hr H
  refine⟨fun h=>(by rw[h]at hr;cases hr),fun j hj=>?_⟩
  by_cases hji:j=i
  ·subst hji;unfold kH;simp only[hi];exact H
  ·exfalso
   have:=hcnt [i,j] (by simp[Ne.symm hji]) fun k hk=>by
    simp only[List.mem_cons,List.not_mem_nil,or_false]at hk
    rcases hk with rfl|rfl
    ·exact(mem_ready.1 hr).1
    ·exact(mem_ready.1 hj).1
   simp at this
 |succ fuel ih=>
  intro listed fr S hfree hcnt hr H
  refine⟨fun h=>(by rw[h]at hr;cases hr),fun j hj=>?_⟩
  by_cases hji:j=i
  ·subst hji;unfold kH;simp only[hi];exact H
  ·obtain⟨hjun,oj,hoj,hall⟩:=mem_ready.1 hj
   have hnot:∀e∈oj.after,Region.binds md e=true→e.on≠i:=fun e he hb heq=>by
    have h1:=hall e he hb
    have h0:=(mem_ready.1 hr).1
    rw[heq]at h1
    rcases Nat.lt_or_ge i listed.size with h'|h'
    ·simp[h']at h0 h1;rw[h0]at h1;cases h1
    ·simp[Array.getElem?_eq_none h']at h1
   have h1:ft P w0 ops oi fr S fun fr S=>ft P w0 ops oj fr S (GN P w0 md ops K fuel ((listed.setIfInBounds i true).setIfInBounds j true)):=
    gY (fun fr S h=>by
     have:=h.2 j (ready_mono hj hji)
     unfold kH at this;simp only[hoj]at this;exact this) H
   have hc:=hfree j oj hoj hji hjun hnot
   have h2:=qs hc.1 hc.2 h1
   have hfree':∀k ok,ops[k]? =some ok→k≠i→(listed.setIfInBounds j true).getD k true=false→
    (∀e∈ok.after,Region.binds md e=true→e.on≠i)→oi.apart ops ok=true∧mn (kX oi.op) (kX ok.op)=true:=fun k ok hk hki hun hno=>by
    refine hfree k ok hk hki ?_ hno
    by_cases hjk:j=k
    ·subst hjk;exact hjun
    ·rw[getD_set_ne true hjk]at hun;exact hun
   unfold kH
   simp only[hoj]
   have hcnt':∀l:List Nat,l.Nodup→(∀k,k∈l→(listed.setIfInBounds j true).getD k true=false)→l.length≤fuel+1:=by
    intro l hn hl
    have hjs:j<listed.size:=by
     rcases Nat.lt_or_ge j listed.size with h|h
     ·exact h
     ·rw[Array.getD_eq_getD_getElem?,Array.getElem?_eq_none h]at hjun;cases hjun
    have hjl:j∉l:=fun hj=>by
     have:=hl j hj
     rw[Array.getD_eq_getD_getElem?,Array.getElem?_setIfInBounds]at this
     simp[hjs]at this
    have:=hcnt (j::l) (List.nodup_cons.2 ⟨hjl,hn⟩) fun k hk=>by
     rcases List.mem_cons.1 hk with rfl|hk
     ·exact hjun
     ·have:=hl k hk
      rw[getD_set_ne true (show j≠k from fun e=>hjl (e▸hk))]at this
      exact this
    simp at this;omega
   refine gY (fun fr S h=>ih (listed.setIfInBounds j true) fr S hfree' hcnt' (ready_mono hr (Ne.symm hji)) ?_) h2
   rw[Array.setIfInBounds_comm _ _ hji]
   exact h
def BB(md:Region.Mode)(ops:Array Oper)(listed:Array Bool)(i:Nat):Bool:=(List.range ops.size).all fun j=>match ops[i]?,ops[j]? with
 |some oi,some oj=>j==i||listed.getD j true||oj.after.any (fun e=>Region.binds md e&&e.on==i)||(oi.apart ops oj&&mn (kX oi.op) (kX oj.op))
 |_,_=>false
def qY(md:Region.Mode)(ops:Array Oper):Nat→Nat→Array Bool→Bool
 |0,_,listed=>(Region.ready md ops listed).isEmpty
 |n+1,k,listed=>(Region.ready md ops listed).contains k&&BB md ops listed k&&qY md ops n (k+1) (listed.setIfInBounds k true)
theorem oG{listed:Array Bool}{i:Nat}{oi:Oper}(hi:ops[i]? =some oi)(h:BB md ops listed i=true):∀j oj,ops[j]? =some oj→j≠i→listed.getD j true=false→(∀e∈oj.after,Region.binds md e=true→e.on≠i)→oi.apart ops oj=true∧mn (kX oi.op) (kX oj.op)=true:=by
 intro j oj hj hji hun hno
 have hlt:j<ops.size:=(Array.getElem?_eq_some_iff.1 hj).1
 have:=List.all_eq_true.1 h j (List.mem_range.2 hlt)
 simp only[hi,hj,hun,Bool.or_false,Bool.or_eq_true,beq_iff_eq,Bool.and_eq_true]at this
 rcases this with(h|h)|h
 ·exact absurd h hji
 ·exfalso
  obtain⟨e,he,h⟩:=Array.any_eq_true'.1 h
  simp only[Bool.and_eq_true,beq_iff_eq]at h
  exact hno e he h.1 h.2
 ·exact h
def LX(P:Program)(w0:W0)(ops:Array Oper)(K:List DV→St→Prop):List Oper→List DV→St→Prop
 |[],fr,S=>K fr S
 |o::rest,fr,S=>ft P w0 ops o fr S (LX P w0 ops K rest)
theorem pN{K:List DV→St→Prop}:∀(l:List Oper) (k:Nat) (listed:Array Bool) (fr:List DV) (S:St),(∀j,l[j]? =ops[k+j]?)→
 (∀l':List Nat,l'.Nodup→(∀k,k∈l'→listed.getD k true=false)→l'.length≤l.length)→
 qY md ops l.length k listed=true→LX P w0 ops K l fr S→GN P w0 md ops K l.length listed fr S
 |[],_,_,_,_,_,_,hB,h=>⟨by simpa[qY]using hB,h⟩
 |o::l,k,listed,fr,S,hl,hcnt,hB,h=>by
  have h0:ops[k]? =some o:=by simpa using(hl 0).symm
  simp only[List.length_cons,qY,Bool.and_eq_true]at hB
  obtain⟨⟨hr,hf⟩,hB'⟩:=hB
  have hr':k∈Region.ready md ops listed:=by simpa using hr
  have hun:=(mem_ready.1 hr').1
  refine qT h0 l.length listed fr S (oG h0 hf) (by simpa using hcnt) hr' ?_
  refine gY (fun fr S h=>pN l (k+1) _ fr S (fun j=>by have:=hl (j+1);simpa[Nat.add_assoc,Nat.add_comm 1 j]using this) ?_ hB' h) h
  intro l' hn hl'
  have hks:k<listed.size:=by
   rcases Nat.lt_or_ge k listed.size with h|h
   ·exact h
   ·rw[Array.getD_eq_getD_getElem?,Array.getElem?_eq_none h]at hun;cases hun
  have hkl:k∉l':=fun hk=>by
   have:=hl' k hk
   rw[Array.getD_eq_getD_getElem?,Array.getElem?_setIfInBounds]at this
   simp[hks]at this
  have:=hcnt (k::l') (List.nodup_cons.2 ⟨hkl,hn⟩) fun m hm=>by
   rcases List.mem_cons.1 hm with rfl|hm
   ·exact hun
   ·have:=hl' m hm
    rw[getD_set_ne true (show k≠m from fun e=>hkl (e▸hm))]at this
    exact this
  simp at this;omega
theorem lu{o:Oper}{fr:List DV}{S:St}{K:List DV→St→Prop}(h:fh P w0 o fr S K):aj P w0 o (ev fr) S fun d S'=>K (pt fr o.dst d) S':=by
 rcases h with⟨c,d,q,k⟩|⟨c,d,q,k⟩|⟨c,t,ht,hz,k⟩|⟨c,q⟩
 ·exact aQ (fun d' S' h=>by rw[h.1,h.2];exact k) (q S)
 ·have:=q [] (fun x hx=>by cases hx)
  exact aQ (fun d' S' h=>by rw[h.1,h.2];exact k) this
 ·exact sw ht ⟨hz,k⟩
 ·exact q
theorem eF{ro:Option Nat}{g0:Gh}{Q:Exit→List DV→St→Prop}:∀(fuel:Nat) (listed:Array Bool) (fr:List DV) (S:St) (g:Gh) (a:Act) (w:World),g0.le g→Rel w0 g S w→ai g fr a.tmps.toList→Dk w0 g.obj a w→
 GN P w0 md ops (fun fr S=>Q .normal fr S) fuel listed fr S→wpAnyIn (fz ro) 0 P md ops (Good w0 g0 Q) fuel listed a w
 |0,listed,fr,S,g,a,w,k,h1,h2,h3,h=>⟨h.1,k.kd h3,g,fr,S,k,h1,h2,h.2⟩
 |fuel+1,listed,fr,S,g,a,w,k,h1,h2,h3,h=>by
  refine⟨fun h0=>⟨k.kd h3,g,fr,S,k,h1,h2,h.1 h0⟩,fun i hi=>?_⟩
  have hq:=h.2 i hi
  unfold kH at hq
  unfold wpOpIn
  split
  ·rename_i ho;simp only[ho]at hq;exact eF fuel _ fr S g a w k h1 h2 h3 hq
  ·rename_i o ho
   simp only[ho]at hq
   rcases hq with⟨hw,hb⟩|⟨hw,hk⟩
   ·have hw':=eu (o:=o) h2 hw
    rw[if_pos hw']
    refine ef (lu hb) h1 (fun x _=>mi h2 x) h3 fun g' d' u S' w' k1 k2 k3 k4 k5=>?_
    exact eF fuel _ _ _ g' _ _ (k.trans k1) k2 (dq (h2.mono k1) _ k3) (k1.dk k5) k4
   ·have hw':=eu (o:=o) h2 hw
    rw[if_neg (by simp[hw'])]
    exact⟨fun _ _=>trivial,eF fuel _ _ _ g _ _ k h1 (dq h2 _ (jq g)) (h3.keep (put_defers _ _ _) fun _ _ h _=>h) hk⟩
theorem qQ{id:Nat}{l:List Oper}{fr:List DV}{S:St}{Q:Exit→List DV→St→Prop}(hm:P.follows .mixedOrders=true)(hB:qY .any l.toArray l.length 0 (Array.replicate l.length false)=true)(h:LX P w0 l.toArray (fun fr S=>Q .normal fr S) l fr S):gk P w0 (.region id l.toArray true) fr S Q:=by
 intro g a w h1 h2 h3
 refine gv hm fun ro=>?_
 have hR:Rel w0 g S {w with drawn:=w.drawn+1}:=h1.grow (lC w)
 have hcnt:∀l':List Nat,l'.Nodup→(∀k,k∈l'→(Array.replicate l.length false).getD k true=false)→l'.length≤l.length:=by
  intro l' hn hl
  have hsub:∀k,k∈l'→k∈List.range l.length:=fun k hk=>by
   have:=hl k hk
   rw[List.mem_range]
   rcases Nat.lt_or_ge k l.length with h|h
   ·exact h
   ·rw[Array.getD_eq_getD_getElem?,Array.getElem?_eq_none (by simpa using h)]at this;cases this
  have:=hn.length_le_of_subset (l₂:=List.range l.length) hsub
  simpa using this
 have:=pN (P:=P) (w0:=w0) (md:= .any) (ops:=l.toArray) l 0 (Array.replicate l.length false) fr S (by simp) hcnt hB h
 have:=eF (ro:=ro) (g0:=g) (Q:=Q) _ _ fr S g a _ (.refl g) hR h2 (h3.keep rfl fun _ _ h _=>h) this
 simpa using this
theorem pq{op:Op}(hk:kX op=0){fr:List DV}{S:St}{K:DV→Prop}(h:aH P w0 op fr S K):∃d,(∀S',aH P w0 op fr S' (·=d))∧K d:=by
 cases op with
 |move x=>exact⟨_,fun _=>rfl,h⟩
 |assign x=>exact⟨_,fun _=>rfl,h⟩
 |pick c a b=>obtain⟨d,q1,q2⟩:=sS h;exact⟨d,fun _=>q1,q2⟩
 |fieldAddr t x f=>obtain⟨d,q1,q2⟩:=qB h;exact⟨d,fun _=>q1,q2⟩
 |indexAddr t x i=>obtain⟨d,q1,q2⟩:=Fp h;exact⟨d,fun _=>q1,q2⟩
 |index t x i=>obtain⟨d,q1,q2⟩:=rp h;exact⟨d,fun _=>q1,q2⟩
 |field t x f=>obtain⟨d,q1,q2⟩:=oy h;exact⟨d,fun _=>q1,q2⟩
 |extract x i=>obtain⟨d,q1,q2⟩:=mQ h;exact⟨d,fun _=>q1,q2⟩
 |nilCheck x=>exact⟨_,fun _=>⟨h.1,rfl⟩,h.2⟩
 |binOp b t x y t'=>obtain⟨d,q1,q2⟩:=uf h.2;exact⟨d,fun _=>⟨h.1,q1⟩,q2⟩
 |unOp b t x=>obtain⟨d,q1,q2⟩:=Cx h;exact⟨d,fun _=>q1,q2⟩
 |convert s d x=>obtain⟨d,q1,q2⟩:=sW h;exact⟨d,fun _=>q1,q2⟩
 |makeInterface t x=>exact⟨_,fun _=>⟨h.1,h.2.1,rfl⟩,h.2.2⟩
 |makeFunc fn a b=>obtain⟨d,q1,q2⟩:=uT h;exact⟨d,fun _=>q1,q2⟩
 |slice t x lo hi mx=>obtain⟨d,q1,q2⟩:=qy h.2.2;exact⟨d,fun _=>⟨h.1,h.2.1,q1⟩,q2⟩
 |build t parts=>obtain⟨d,q1,q2⟩:=rq h.2;exact⟨d,fun _=>⟨h.1,q1⟩,q2⟩
 |buildSlice t len parts=>obtain⟨d,q1,q2⟩:=jH h.2;exact⟨d,fun _=>⟨h.1,q1⟩,q2⟩
 |call c=>
  obtain⟨callee,args,ts⟩:=c
  simp only[aH]at h ⊢
  split at h
  ·split at h
   ·obtain⟨d,q1,q2⟩:=xS h
    exact⟨d,fun _=>by simpa using q1,q2⟩
   ·exact h.elim
  ·split at h
   ·obtain⟨d,q1,q2⟩:=yE h
    exact⟨d,fun _=>by simpa using q1,q2⟩
   ·exact h.elim
  ·split at h
   ·obtain⟨d,q1,q2⟩:=xv h
    exact⟨d,fun _=>by simpa using q1,q2⟩
   ·exact h.elim
  ·split at h
   ·obtain⟨d,q1,q2⟩:=yb h
    exact⟨d,fun _=>by simpa using q1,q2⟩
   ·exact h.elim
  ·cases hk
  ·cases hk
  ·exact h.elim
 |_=>first|exact h.elim|cases hk
theorem vX{op:Op}(hk:kX op=0){fr:List DV}{S:St}{K:DV→Prop}(h:BG P w0 op fr S K):∃d,(∀S',BG P w0 op fr S' (·=d))∧K d:=by
 cases op with
 |makeSlice t x y=>
  simp only[BG,tQ]at h ⊢
  split at h
  ·obtain⟨q1,q2,q3,q4,q5,q6⟩:=h
   exact⟨_,fun _=>⟨q1,q2,q3,q4,q5,rfl⟩,q6⟩
  ·exact h.elim
 |convert s d x=>
  simp only[BG]at h ⊢
  unfold tS at h ⊢
  split at h
  ·obtain⟨q1,q2,q3,q4⟩:=h
   exact⟨_,fun _=>⟨q1,q2,q3,rfl⟩,q4⟩
  ·obtain⟨dd,p1,p2⟩:=pq (P:=P) (w0:=w0) (op:= .convert s d x) (fr:=fr) (S:=S) (K:=K) rfl h
   exact⟨dd,p1,p2⟩
 |_=>exact pq (P:=P) (w0:=w0) (S:=S) (fr:=fr) hk h
theorem Ek{S:St}{B:List (Nat×List DV)}(hB:Fr S B){b:Nat}{ds:List DV}(h:lk S.box b=some ds):lk (B++S.box) b=some ds:=by
 induction B with
 |nil=>exact h
 |cons x B ih=>
  have h1:=hB x List.mem_cons_self
  have hne:¬x.1=b:=fun e=>by rw[e]at h1;rw[mD h1]at h;cases h
  obtain⟨k,y⟩:=x
  show lk ((k,y)::(B++S.box)) b=_
  rw[px hne]
  exact ih fun z hz=>hB z (List.mem_cons_of_mem _ hz)
theorem uD{k:TK}{S:St}{x:DV}{K:DV→Prop}{B:List (Nat×List DV)}(hB:Fr S B)(h:bG k S x K):bG k ⟨B++S.box,S.acc⟩ x K:=by
 unfold bG at*
 split at h
 ·split at h
  ·rename_i ds hb
   simp only[Ek hB hb]
   exact h
  ·exact h.elim
 ·exact h
 ·exact h
 ·exact h.elim
end
def QX(P:Program)(w0:W0)(f:FuncId)(ds:List DV)(S:St)[K:Cn (DV→Prop)]:Prop:=∃d,(∀B,Fr S B→aa P w0 f ds ⟨B++S.box,S.acc⟩ fun d' S'=>d'=d∧S'=⟨B++S.box,S.acc⟩)∧K.k d
def gT(P:Program)(w0:W0)(cal:DV)(ds:List DV)(S:St)(K:DV→Prop):Prop:=match cal with
 | .v (.func (.func f) a cap)=>a.size=0∧okF P f=true∧cap.toList.all (fun u=>u.oneCell')=true∧ds.all gz=true∧@QX P w0 f (ds++cap.toList.map .v) S ⟨K⟩
 |_=>False
def oA(P:Program)(w0:W0)(op:Op)(fr:List DV)(S:St)(K:DV→St→Prop):Prop:=match op with
 | .load t x=>bG (tk P t) S (ev fr x) (K · S)
 | .alloc t=>eL (zD P t)=true∧E7 S (zD P t) K
 | .call ⟨.value cal,args,_⟩=>gT P w0 (ev fr cal) (args.toList.map (ev fr)) S (K · S)
 |op=>eI (kX op==0) (BG P w0 op fr S (K · S)) (aI P w0 op fr S K)
def oF(P:Program)(w0:W0)(ops:Array Oper)(K:List DV→St→Prop):List Oper→List DV→St→Prop
 |[],fr,S=>K fr S
 |o::rest,fr,S=>bV ops fr o.guard (fun fr=>oA P w0 o.op fr S fun d S'=>oF P w0 ops K rest (pt fr o.dst d) S') (fun fr=>oF P w0 ops K rest (pt fr o.dst ud) S)
section
variable {P:Program} {w0:W0} {ops:Array Oper} {md:Region.Mode}
theorem qq{o:Oper}{fr:List DV}{S:St}{K:List DV→St→Prop}(hs:gR o.op=true)(h:oA P w0 o.op fr S fun d S'=>K (pt fr o.dst d) S'):fh P w0 o fr S K:=by
 have gen:∀(h:eI (kX o.op==0) (BG P w0 o.op fr S fun d=>K (pt fr o.dst d) S) (aI P w0 o.op fr S fun d S'=>K (pt fr o.dst d) S')),kX o.op=0∨kX o.op=3→fh P w0 o fr S K:=by
  intro h hk
  rcases hk with hk|hk
  ·rw[hk]at h
   obtain⟨d,q1,q2⟩:=vX hk (show BG P w0 o.op fr S fun d=>K (pt fr o.dst d) S from h)
   exact .inl ⟨hk,d,fun S'=>by
    obtain⟨d',k1,k2⟩:=vT hs (q1 S')
    subst k2;exact k1,q2⟩
  ·rw[hk]at h
   exact .inr (.inr (.inr ⟨hk,bC hs h⟩))
 cases hop:o.op with
 |load t x=>
  rw[hop]at h hs
  obtain⟨d,q1,q2⟩:=pQ (show bG (tk P t) S (ev fr x) (fun d=>K (pt fr o.dst d) S)from h)
  refine .inr (.inl ⟨by rw[hop];rfl,d,fun B hB=>?_,q2⟩)
  exact bC (by rw[hop];exact hs) (by rw[hop];simpa[aI]using uD hB q1)
 |alloc t=>
  rw[hop]at h
  exact .inr (.inr (.inl ⟨by rw[hop];rfl,t,hop,h.1,h.2⟩))
 |call c=>
  obtain⟨callee,args,ts⟩:=c
  cases callee with
  |value cal=>
   rw[hop]at h hs
   simp only[oA,gT]at h
   split at h
   ·rename_i f a cap hcal
    obtain⟨h1,h2,h3,h4,d,h5,h6⟩:=h
    refine .inr (.inl ⟨by rw[hop];rfl,d,fun B hB=>?_,h6⟩)
    exact bC (by rw[hop];exact hs) (by rw[hop];simp only[aI,hcal];exact pC h1 h3 (by rw[h2,Lf];exact mK h4 (h5 B hB)))
   ·exact h.elim
  |builtin b=>
   refine gen (by rw[hop]at h ⊢;exact h) ?_
   rw[hop]
   cases b <;>first|exact .inl rfl|exact .inr rfl
  |invoke r m=>
   refine gen (by rw[hop]at h ⊢;exact h) ?_
   rw[hop];exact .inr rfl
 |_=>refine gen (by rw[hop]at h ⊢;exact h) ?_;rw[hop];first|exact .inl rfl|exact .inr rfl
theorem fK{K:List DV→St→Prop}:∀(l:List Oper) {fr:List DV} {S:St},l.all (fun o=>gR o.op)=true→oF P w0 ops K l fr S→LX P w0 ops K l fr S
 |[],fr,S,_,h=>h
 |o::rest,fr,S,hs,h=>by
  simp only[List.all_cons,Bool.and_eq_true]at hs
  rcases j2 h with⟨hw,ha⟩|⟨hw,hb⟩
  ·exact .inl ⟨hw,jj (fun fr S h=>fK rest hs.2 h) (qq hs.1 ha)⟩
  ·exact .inr ⟨hw,fK rest hs.2 hb⟩
def Vv(l:List Oper):Bool:=l.all (fun o=>gR o.op)&&qY .any l.toArray l.length 0 (Array.replicate l.length false)
theorem P1{id:Nat}{l:List Oper}{fr:List DV}{S:St}{Q:Exit→List DV→St→Prop}(hm:P.follows .mixedOrders=true)(hB:Vv l=true)(h:oF P w0 l.toArray (fun fr S=>jA fr fun fr=>Q .normal fr S) l fr S):gk P w0 (.region id l.toArray true) fr S Q:=by
 simp only[Vv,Bool.and_eq_true]at hB
 exact qQ hm hB.2 (fK l hB.1 h)
theorem N1{f:FuncId}{args args':List DV}{S:St}{K:DV→Prop}{r:DV}(h:∀B,Fr S B→aa P w0 f args' ⟨B++S.box,S.acc⟩ (fun d S'=>d=r∧S'=⟨B++S.box,S.acc⟩))(hk:K r)(ha:gC args args':=by exact gC.refl _):@QX P w0 f args S ⟨K⟩:=
 ⟨r,fun B hB=>kN (h B hB) ha ⟨rfl,rfl⟩,hk⟩
end
end Aml.Z
namespace Aml.Z
open Go Go.RowKit
section
variable {P:Program} {w0:W0} {ops:Array Oper} {fr:List DV} {S:St} {rest:List Oper} {dst:Option Tmp} {op:Op} {ty:TypeId} {pos:String} {aft:Array Edge}
section
variable {K:List DV→St→Prop}
theorem Lh:oF P w0 ops K [] fr S=K fr S:=rfl
theorem Ei:oF P w0 ops K (⟨dst,op,ty,pos,aft,none⟩::rest) fr S=oA P w0 op fr S fun d S'=>oF P w0 ops K rest (pt fr dst d) S':=rfl
end
variable {K:DV→St→Prop}
theorem Cc(t:TypeId)(x:Operand):oA P w0 (.load t x) fr S K=bG (tk P t) S (ev fr x) (K · S):=rfl
theorem yo(t:TypeId):oA P w0 (.alloc t) fr S K=(eL (zD P t)=true∧E7 S (zD P t) K):=rfl
theorem El(cal:Operand)(a:List Operand)(ts:Array TypeId):oA P w0 (.call ⟨.value cal,a.toArray,ts⟩) fr S K=gT P w0 (ev fr cal) (a.map (ev fr)) S (K · S):=rfl
theorem xj(f:FuncId)(a cap:Array Value)(ds:List DV)(K:DV→Prop):gT P w0 (.v (.func (.func f) a cap)) ds S K=(a.size=0∧okF P f=true∧cap.toList.all (fun u=>u.oneCell')=true∧ds.all gz=true∧@QX P w0 f (ds++cap.toList.map .v) S ⟨K⟩):=rfl
@[congr] theorem Ll {cal cal':DV} {ds ds':List DV} {S':St} {K:DV→Prop} (h1:cal=cal') (h2:ds=ds') (h3:S=S'):gT P w0 cal ds S K=gT P w0 cal' ds' S' K:=by cases h1;cases h2;cases h3;rfl
theorem C8(x:Operand):oA P w0 (.move x) fr S K=aH P w0 (.move x) fr S (K · S):=rfl
theorem uQ(x:Operand):oA P w0 (.assign x) fr S K=aH P w0 (.assign x) fr S (K · S):=rfl
theorem nf(t:TypeId)(x:Operand)(f:Nat):oA P w0 (.fieldAddr t x f) fr S K=aH P w0 (.fieldAddr t x f) fr S (K · S):=rfl
theorem qz(x:Operand)(i:Nat):oA P w0 (.extract x i) fr S K=aH P w0 (.extract x i) fr S (K · S):=rfl
theorem n7(x:Operand):oA P w0 (.nilCheck x) fr S K=aH P w0 (.nilCheck x) fr S (K · S):=rfl
theorem xZ(b:BinOp)(t:TypeId)(x y:Operand)(t':TypeId):oA P w0 (.binOp b t x y t') fr S K=aH P w0 (.binOp b t x y t') fr S (K · S):=rfl
theorem xr(t:TypeId)(x y:Operand):oA P w0 (.store t x y) fr S K=aI P w0 (.store t x y) fr S K:=rfl
theorem yH(a:Array Operand)(ts:Array TypeId):oA P w0 (.call ⟨.builtin .len,a,ts⟩) fr S K=aH P w0 (.call ⟨.builtin .len,a,ts⟩) fr S (K · S):=rfl
end
attribute [go_sem ↓] Lh Ei Cc yo El xj C8 uQ nf qz n7 xZ xr yH
theorem xb(b:Bool):(b==false)=!b:=by cases b <;>rfl
attribute [go_sem] xb
end Aml.Z
namespace Aml
open Go Go.RowKit
section
variable {P:Program} {w0:W0}
end
theorem Bi(k k':Value)(d:DV):∀es:List (Value×DV×Nat),((es.map (qu k d)).find? fun e=>@decide (e.1=k') (Classical.propDecidable _))=(es.find? fun e=>@decide (e.1=k') (Classical.propDecidable _)).map (qu k d):=by
 intro es
 rw[List.find?_map]
 congr 2
 funext e
 simp only[Function.comp]
 rcases Classical.em (e.1=k)with h|h
 ·rw[x9 h]
 ·rw[xu h]
theorem kf(es:List (Value×DV×Nat))(clk:Nat)(k:Value)(d:DV):iE (jO es clk k d) k=some d:=by
 unfold jO
 cases hg:iE es k with
 |none=>
  simp only[Option.isSome_none,Bool.false_eq_true,if_false]
  unfold iE at hg ⊢
  rw[List.find?_append]
  rw[Option.map_eq_none_iff]at hg
  rw[hg]
  simp
 |some x=>
  simp only[Option.isSome_some,if_true]
  unfold iE at hg ⊢
  rw[Bi]
  obtain⟨y,hy,_⟩:=Option.map_eq_some_iff.1 hg
  rw[hy]
  have:=List.find?_some hy
  simp only[decide_eq_true_eq]at this
  simp[x9 this]
theorem rv(es:List (Value×DV×Nat))(clk:Nat){k k':Value}(e:k'≠k)(d:DV):iE (jO es clk k d) k'=iE es k':=by
 unfold jO
 cases hg:iE es k with
 |none=>
  simp only[Option.isSome_none,Bool.false_eq_true,if_false]
  unfold iE
  rw[List.find?_append]
  have:List.find? (fun e=>@decide (e.1=k') (Classical.propDecidable _)) [(k,d,clk)]=none:=by
   rw[List.find?_eq_none]
   intro x hx
   rw[List.mem_singleton]at hx;subst hx
   simp;exact fun h=>e h.symm
  rw[this,Option.or_none]
 |some x=>
  simp only[Option.isSome_some,if_true]
  unfold iE
  rw[Bi]
  cases hf:es.find? fun e=>@decide (e.1=k') (Classical.propDecidable _)with
  |none=>rfl
  |some y=>
   have:=List.find?_some hf
   simp only[decide_eq_true_eq]at this
   simp only[Option.map_some]
   rw[xu (by rw[this];exact e)]
end Aml
namespace Go.Proofs.YtpjenciplibdnaaGreatDoor
open Aml Go
@[go_sem] def dL (l:List Int):DV:= .sl 1 false (l.map dI)
theorem eE{α:Type}{l:List α}{k:Nat}{a b:α}(h:l[k]? =some a)(h':l[k]? =some b):a=b:=by rw[h]at h';exact Option.some.inj h'
def mg(a b:ByteArray):Bool:=Op.bytesLess a.data.toList b.data.toList||decide (a.data.toList=b.data.toList)
def cH(a b:ByteArray):Bool:=Op.bytesLess a.data.toList b.data.toList
def eS(a b:ByteArray):Bool:=decide (a.data.toList=b.data.toList)
@[go_sem] theorem Ze (a b:ByteArray) (K:DV→Prop):jx .eql a b K=K (.v (.bool (eS a b))):=rfl
@[go_sem] theorem Zk (a b:ByteArray) (K:DV→Prop):jx .neq a b K=K (.v (.bool (!eS a b))):=rfl
@[go_sem] theorem ZF (a b:ByteArray) (K:DV→Prop):jx .lss a b K=K (.v (.bool (cH a b))):=rfl
@[go_sem] theorem Y5 (a b:ByteArray) (K:DV→Prop):jx .leq a b K=K (.v (.bool (mg a b))):=rfl
@[go_sem] theorem Zm (a b:ByteArray) (K:DV→Prop):jx .geq a b K=K (.v (.bool (!cH a b))):=rfl
def need(z:Int):Nat:=if 16<z∧z≤400 then((z+118)/119).toNat else 0
theorem xM(z:Int):need z≤4:=by unfold need;split <;>omega
def Bd(l:List Int):Prop:=l.length≤1048576∧∀x,x∈l→0≤x∧x≤1048576
theorem Iy:∀(l:List Int),(∀x,x∈l→0≤x∧x≤1048576)→0≤l.sum∧l.sum≤1048576*l.length
 |[],_=>by simp
 |a::l,h=>by
  have h1:=Iy l fun x hx=>h x (List.mem_cons_of_mem _ hx)
  have h2:=h a List.mem_cons_self
  simp only[List.sum_cons,List.length_cons]
  omega
theorem Bd.take{l:List Int}(h:Bd l)(k:Nat):Bd (l.take k):=⟨by rw[List.length_take];have:=h.1;omega,fun x hx=>h.2 x (List.mem_of_mem_take hx)⟩
theorem Bd.drop{l:List Int}(h:Bd l)(k:Nat):Bd (l.drop k):=⟨by rw[List.length_drop];have:=h.1;omega,fun x hx=>h.2 x (List.mem_of_mem_drop hx)⟩
theorem Bd.sum{l:List Int}(h:Bd l):0≤l.sum∧l.sum≤1099511627776:=by
 have:=Iy l h.2
 have:=h.1
 omega
theorem AZ{l:List Int}{k:Nat}{a:Int}(h:l[k]? =some a):(l.take (k+1)).sum=(l.take k).sum+a:=by
 rw[List.take_add_one,h];simp
def fq(l:List Int)(at_:Nat):Int:=if(l.take at_).sum>(l.drop at_).sum then(l.take at_).sum else(l.drop at_).sum
def wc(l:List Int):Nat→Nat
 |0=>1
 |j+1=>if fq l (j+2)<fq l (wc l j)then j+2 else wc l j
theorem CY(l:List Int):∀j,1≤wc l j∧wc l j≤j+1
 |0=>⟨Nat.le_refl _,Nat.le_refl _⟩
 |j+1=>by
  have:=CY l j
  simp only[wc]
  split <;>omega
def atR(l:List Int):Nat:=if l.sum≤122∨l.length<2 then 0 else wc l (l.length-2)
theorem KL(l:List Int)(h:atR l≠0):1≤atR l∧atR l<l.length:=by
 unfold atR at*
 split at h
 ·exact absurd rfl h
 ·rename_i hn
  rw[if_neg hn]
  have:=CY l (l.length-2)
  have:¬l.length<2:=fun h=>hn (.inr h)
  omega
def BR(l:List Int):Bool:=decide (l.sum<30)
def WU(m k:Int):Int:=if k+1<m then k+1 else k-1
mutual
inductive N where
 |mk (aq:Int) (leaf:Bool) (l:List C)
inductive C where
 |mk (key data:ByteArray) (ak:List Int) (kid:List N)
end
def N.aq:N→Int| .mk p _ _=>p
def N.leaf:N→Bool| .mk _ b _=>b
def N.l:N→List C| .mk _ _ l=>l
def C.key:C→ByteArray| .mk k _ _ _=>k
def C.data:C→ByteArray| .mk _ d _ _=>d
def C.ak:C→List Int| .mk _ _ p _=>p
def C.kid:C→List N| .mk _ _ _ k=>k
theorem N.eta(n:N):n= .mk n.aq n.leaf n.l:=by cases n;rfl
theorem C.eta(c:C):c= .mk c.key c.data c.ak c.kid:=by cases c;rfl
mutual
def dN:N→DV
 | .mk p b l=> .agg [dI p,dB b,.sl 4 false (Zn l)]
def dC:C→DV
 | .mk k d ps kid=> .agg [dS k,dS d,.sl 1 false (ps.map dI),.sl 3 false (Y9 kid)]
def Zn:List C→List DV
 |[]=>[]
 |c::l=>dC c::Zn l
def Y9:List N→List DV
 |[]=>[]
 |n::l=>dN n::Y9 l
end
@[go_sem] def eN (n:N):DV:= .agg [dI n.aq,dB n.leaf,.sl 4 false (n.l.map dC)]
@[go_sem] theorem N.E9 (p:Int) (b:Bool) (l:List C):(N.mk p b l).aq=p:=rfl
@[go_sem] theorem N.nq (p:Int) (b:Bool) (l:List C):(N.mk p b l).leaf=b:=rfl
@[go_sem] theorem N.eo (p:Int) (b:Bool) (l:List C):(N.mk p b l).l=l:=rfl
@[go_sem] theorem C.lN (k d:ByteArray) (p:List Int) (q:List N):(C.mk k d p q).key=k:=rfl
@[go_sem] theorem C.PX (k d:ByteArray) (p:List Int) (q:List N):(C.mk k d p q).data=d:=rfl
@[go_sem] theorem C.Lq (k d:ByteArray) (p:List Int) (q:List N):(C.mk k d p q).ak=p:=rfl
@[go_sem] theorem C.uC (k d:ByteArray) (p:List Int) (q:List N):(C.mk k d p q).kid=q:=rfl
mutual
def ZO:N→Prop
 | .mk _ b l=>(b=false→l≠[])∧Wf l b
def ua:C→Bool→Prop
 | .mk _ _ _ kid,b=>b=false→kid.length=1∧U2 kid
def Wf:List C→Bool→Prop
 |[],_=>True
 |c::l,b=>ua c b∧Wf l b
def U2:List N→Prop
 |[]=>True
 |n::l=>ZO n∧U2 l
end
mutual
def bw:N→Nat
 | .mk _ _ l=>yR l
def lJ:C→Nat
 | .mk _ _ _ kid=>1+Ar kid
def yR:List C→Nat
 |[]=>0
 |c::l=>lJ c+yR l
def Ar:List N→Nat
 |[]=>0
 |n::l=>bw n+Ar l
end
theorem we:∀l,yR l=(l.map lJ).sum
 |[]=>by simp[yR]
 |c::l=>by simp[yR,we l]
theorem wS:∀l,Ar l=(l.map bw).sum
 |[]=>by simp[Ar]
 |c::l=>by simp[Ar,wS l]
theorem yn(n:N):bw n=(n.l.map lJ).sum:=by cases n;simp only[bw,we];rfl
theorem eR(c:C):lJ c=1+(c.kid.map bw).sum:=by cases c;simp only[lJ,wS];rfl
mutual
def Yp:N→Nat
 | .mk _ b l=>if b then 0 else 1+QM l
def Yb:C→Nat
 | .mk _ _ _ kid=>Rt kid
def QM:List C→Nat
 |[]=>0
 |c::l=>max (Yb c) (QM l)
def Rt:List N→Nat
 |[]=>0
 |n::l=>max (Yp n) (Rt l)
end
mutual
def Ni:N→Prop
 | .mk _ _ l=>Lv l
def VD:C→Prop
 | .mk k d ps kid=>k.size≤16∧d.size≤400∧ps.length≤4∧II kid
def Lv:List C→Prop
 |[]=>True
 |c::l=>VD c∧Lv l
def II:List N→Prop
 |[]=>True
 |n::l=>Ni n∧II l
end
theorem zV:∀l,Lv l↔∀c,c∈l→VD c
 |[]=>by simp[Lv]
 |n::l=>by simp[Lv,zV l]
theorem Ai:∀l,II l↔∀n,n∈l→Ni n
 |[]=>by simp[II]
 |n::l=>by simp[II,Ai l]
theorem sk(n:N):Ni n↔∀c,c∈n.l→VD c:=by cases n;simp only[Ni,zV];rfl
theorem sG(c:C):VD c↔c.key.size≤16∧c.data.size≤400∧c.ak.length≤4∧∀n,n∈c.kid→Ni n:=by cases c;simp only[VD,Ai];rfl
theorem df(n:N):n.l.length≤bw n:=by
 rw[yn]
 generalize n.l=l
 induction l with
 |nil=>exact Nat.zero_le _
 |cons c l ih=>simp only[List.length_cons,List.map_cons,List.sum_cons,eR];omega
def aW(b:Bool)(c:C):Int:=if b then(if(need c.data.size:Int)>0∨(c.data.size:Int)>400 then 7+c.key.size else 3+c.key.size+c.data.size)else 4+c.key.size
def ae(n:N):List Int:=n.l.map (aW n.leaf)
theorem lj(n:N)(h:Ni n)(ht:n.l.length≤1048576):Bd (ae n):=by
 refine⟨by unfold ae;rw[List.length_map];exact ht,fun x hx=>?_⟩
 obtain⟨c,hc,rfl⟩:=List.mem_map.1 hx
 have:=(sG c).1 ((sk n).1 h c hc)
 unfold aW
 repeat' split <;>omega
def l6(l:List C)(key:ByteArray):Nat→Nat
 |0=>0
 |i+1=>match l[i+1]? with
  |some c=>if mg c.key key then i+1 else l6 l key i
  |none=>l6 l key i
theorem Fz(l:List C)(key:ByteArray):∀i,l6 l key i≤i
 |0=>Nat.le_refl _
 |i+1=>by
  have:=Fz l key i
  simp only[l6]
  split
  ·split <;>omega
  ·omega
def fQ(l:List C)(key:ByteArray):Nat:=l6 l key (l.length-1)
theorem gm{l:List C}(h:l≠[])(key:ByteArray):fQ l key<l.length:=by
 have:=Fz l key (l.length-1)
 have:=List.length_pos_iff.2 h
 unfold fQ;omega
def aE(l:List C)(i:Nat)(some_:List C):List C:=l.take i++some_++l.drop (i+1)
def aJ:ByteArray:=ByteArray.empty
def af(key:ByteArray)(kid:N):C:= .mk key aJ [] [kid]
def bz(key:ByteArray):List C→List C
 |[]=>[]
 |c::l=> .mk key c.data c.ak c.kid::l
def keyOf:List C→ByteArray
 |[]=>aJ
 |c::_=>c.key
def aU(n kid:N)(k:Nat)(key:ByteArray):N×Bool:=
 let i:=atR (ae kid)
 if i=0 then(n,false)else
 let r:=kid.l.drop i
 (.mk 0 false (aE n.l k [af key (.mk 0 kid.leaf (kid.l.take i)),af (keyOf r) (.mk 0 kid.leaf (if kid.leaf then r else bz aJ r))]),true)
def aA(c:C):N:=c.kid.headD (.mk 0 true [])
def cellAt(l:List C)(k:Nat):C:=l.getD k (.mk aJ aJ [] [])
theorem vW{l:List C}{k:Nat}{c:C}(h:l[k]? =some c):cellAt l k=c:=by unfold cellAt;rw[List.getD_eq_getElem?_getD,h];rfl
theorem bx{c:C}{k:N}(h:c.kid=[k]):aA c=k:=by unfold aA;rw[h];rfl
def bF(a b:N)(key:ByteArray):N:= .mk 0 a.leaf (a.l++if b.leaf then b.l else bz key b.l)
def cC(n:N)(k:Nat):N:=
 let c:=cellAt n.l k
 let p:=aU n (aA c) k c.key
 if p.2 then p.1 else
 if !BR (ae (aA c))||decide (n.l.length<2)then n else
 let j:=if k+1<n.l.length then k else k-1
 let both:=bF (aA (cellAt n.l j)) (aA (cellAt n.l (j+1))) (cellAt n.l (j+1)).key
 (aU (.mk 0 false (aE (aE n.l (j+1) []) j [af (cellAt n.l j).key both])) both j (cellAt n.l j).key).1
theorem DH(key:ByteArray)(l:List C):(bz key l).length=l.length:=by cases l <;>rfl
structure aal(n:N):Prop where
 len:n.l.length≤524288
 kid:∀c,c∈n.l→∃k,c.kid=[k]∧Ni k∧k.l.length≤524288
 key:∀c,c∈n.l→c.key.size≤16
def jN:N→N
 | .mk p false [.mk ck cd cp (k::r)]=>jN k
 |n=>if atR (ae n)=0 then n else cC (.mk 0 false [af aJ n]) 0
termination_by n=>SizeOf.sizeOf n
decreasing_by simp;omega
def bd(l:List C)(key:ByteArray):Nat:=(l.takeWhile fun c=>cH c.key key).length
theorem Mj(l:List C)(key:ByteArray):bd l key≤l.length:=by
 unfold bd;exact(List.takeWhile_sublist _).length_le
def cO(l:List C)(key val:ByteArray):List C:=
 let i:=bd l key
 match l[i]? with
 |some c=>if eS c.key key then aE l i [.mk key val [] []]else l.take i++[.mk key val [] []]++l.drop i
 |none=>l.take i++[.mk key val [] []]++l.drop i
def cj(key val:ByteArray):N→N
 | .mk p true l=> .mk 0 true (cO l key val)
 | .mk p false l=>match h:l[fQ l key]? with
  |some (.mk ck cd cp (k::r))=>cC (.mk 0 false (aE l (fQ l key) [af ck (cj key val k)])) (fQ l key)
  |_=> .mk 0 true []
termination_by n=>SizeOf.sizeOf n
decreasing_by
 have h1:=List.sizeOf_lt_of_mem (List.mem_of_getElem? h)
 simp at h1 ⊢;omega
theorem fZ(key val:ByteArray)(n:N)(h:n.leaf=true):cj key val n= .mk 0 true (cO n.l key val):=by
 cases n with|mk p b l=>simp only[N.leaf]at h;subst h;rw[cj];rfl
theorem jQ(key val:ByteArray)(n:N)(h:n.leaf=false){c:C}{k:N}(hc:n.l[fQ n.l key]? =some c)(hk:c.kid=[k]):cj key val n=cC (.mk 0 false (aE n.l (fQ n.l key) [af c.key (cj key val k)])) (fQ n.l key):=by
 cases n with|mk p b l=>
 simp only[N.leaf]at h;subst h
 cases c with|mk ck cd cp cr=>
 simp only[C.kid]at hk;subst hk
 simp only[N.l]at hc ⊢
 rw[cj]
 split
 ·rename_i h1;rw[hc]at h1;cases h1;rfl
 ·rename_i h1;exact absurd hc (h1 _ _ _ _ _)
theorem ku(n:N)(h:n.leaf=false){c:C}{k:N}(hc:n.l=[c])(hk:c.kid=[k]):jN n=jN k:=by
 cases n with|mk p b l=>
 cases c with|mk ck cd cp cr=>
 simp only[N.leaf,N.l,C.kid]at *;subst h;subst hc;subst hk
 rw[jN]
theorem cV(n:N)(h:n.leaf=true∨n.l.length≠1):jN n=if atR (ae n)=0 then n else cC (.mk 0 false [af aJ n]) 0:=by
 cases n with|mk p b l=>
 rw[jN]
 intro p' ck cd cp k r e
 simp only[N.mk.injEq]at e
 rcases h with h|h
 ·simp only[N.leaf]at h;rw[h]at e;exact absurd e.2.1 (by simp)
 ·simp only[N.l]at h;rw[e.2.2]at h;simp at h
theorem gF{n:N}{c:C}{k:N}(h:c∈n.l)(hk:c.kid=[k]):bw k+n.l.length≤bw n:=by
 rw[yn n]
 have:∀l:List C,c∈l→bw k+l.length≤(l.map lJ).sum:=by
  intro l
  induction l with
  |nil=>intro h;cases h
  |cons a l ih=>
   intro h
   simp only[List.map_cons,List.sum_cons,List.length_cons]
   have h1:∀l:List C,l.length≤(l.map lJ).sum:=by
    intro l
    induction l with
    |nil=>exact Nat.zero_le _
    |cons c l ih=>simp only[List.length_cons,List.map_cons,List.sum_cons,eR];omega
   rcases List.mem_cons.1 h with rfl|h
   ·have:=h1 l
    rw[eR,hk];simp;omega
   ·have:=ih h
    have:=eR a
    omega
 exact this _ h
theorem bk:aJ.size=0:=rfl
theorem cA{l m:List C}{i:Nat}(h:i<l.length):(aE l i m).length+1=l.length+m.length:=by
 unfold aE;simp only[List.length_append,List.length_take,List.length_drop];omega
theorem fU{l m:List C}{i:Nat}{c:C}(h:c∈aE l i m):c∈l∨c∈m:=by
 unfold aE at h
 rcases List.mem_append.1 h with h|h
 ·rcases List.mem_append.1 h with h|h
  ·exact .inl (List.mem_of_mem_take h)
  ·exact .inr h
 ·exact .inl (List.mem_of_mem_drop h)
theorem j3{l:List C}{key val:ByteArray}{c:C}(h:c∈cO l key val):c∈l∨c= .mk key val [] []:=by
 have h2:c∈l.take (bd l key)++[.mk key val [] []]++l.drop (bd l key)→c∈l∨c= .mk key val [] []:=fun h=>by
  rcases List.mem_append.1 h with h|h
  ·rcases List.mem_append.1 h with h|h
   ·exact .inl (List.mem_of_mem_take h)
   ·exact .inr (List.mem_singleton.1 h)
  ·exact .inl (List.mem_of_mem_drop h)
 unfold cO at h
 simp only at h
 split at h
 ·split at h
  ·exact(fU h).imp id List.mem_singleton.1
  ·exact h2 h
 ·exact h2 h
theorem zE(l:List C)(key val:ByteArray):(cO l key val).length≤l.length+1:=by
 have h2:(l.take (bd l key)++[C.mk key val [] []]++l.drop (bd l key)).length≤l.length+1:=by
  simp only[List.length_append,List.length_take,List.length_drop,List.length_cons,List.length_nil];omega
 unfold cO
 simp only
 split
 ·rename_i c hc
  split
  ·have:=cA (m:=[C.mk key val [] []]) (List.getElem?_eq_some_iff.1 hc).1
   simp only[List.length_cons,List.length_nil]at this;omega
  ·exact h2
 ·exact h2
def Sh(c:C):Prop:=c.key.size≤16∧c.data.size≤400∧c.ak.length≤4
def SG(c:C):Prop:=c.key.size≤16∧c.data.size≤400∧c.ak.length≤0
theorem SG.sh{c:C}(h:SG c):Sh c:=⟨h.1,h.2.1,Nat.le_trans h.2.2 (Nat.zero_le 4)⟩
def Nd:Nat→N→Prop
 |0,n=>n.leaf=true∧∀c,c∈n.l→Sh c∧c.kid=[]
 |d+1,n=>n.leaf=false∧n.l≠[]∧∀c,c∈n.l→SG c∧∃k,c.kid=[k]∧Nd d k
theorem tA:∀{d:Nat} {n:N},Nd d n→Ni n
 |0,n,h=>(sk n).2 fun c hc=>(sG c).2 (by
  obtain⟨h1,h2⟩:=h.2 c hc
  exact⟨h1.1,h1.2.1,h1.2.2,fun k hk=>by rw[h2]at hk;cases hk⟩)
 |d+1,n,h=>(sk n).2 fun c hc=>(sG c).2 (by
  obtain⟨h1,k,hk,hn⟩:=h.2.2 c hc
  exact⟨h1.1,h1.2.1,h1.sh.2.2,fun k' hk'=>by rw[hk,List.mem_singleton]at hk';rw[hk'];exact tA hn⟩)
theorem QW{d:Nat}{n:N}(h:Nd d n):∀c,c∈n.l→Sh c:=fun c hc=>by
 cases d with
 |zero=>exact(h.2 c hc).1
 |succ d=>exact(h.2.2 c hc).1.sh
theorem u6{d:Nat}{n:N}(h:Nd d n)(p:Int){l:List C}(hl:∀c,c∈l→c∈n.l)(hn:l≠[]):Nd d (.mk p n.leaf l):=by
 cases d with
 |zero=>exact⟨h.1,fun c hc=>h.2 c (hl c hc)⟩
 |succ d=>exact⟨h.1,hn,fun c hc=>h.2.2 c (hl c hc)⟩
theorem vS{d:Nat}{p:Int}{b:Bool}{l:List C}{key:ByteArray}(hk:key.size≤16)(h:Nd d (.mk p b l)):Nd d (.mk p b (bz key l)):=by
 cases l with
 |nil=>exact h
 |cons a l=>
  cases d with
  |zero=>
   refine⟨h.1,fun c hc=>?_⟩
   rcases List.mem_cons.1 hc with rfl|hc
   ·have:=h.2 a List.mem_cons_self
    exact⟨⟨hk,this.1.2⟩,this.2⟩
   ·exact h.2 c (List.mem_cons_of_mem _ hc)
  |succ d=>
   refine⟨h.1,by simp[bz,N.l],fun c hc=>?_⟩
   rcases List.mem_cons.1 hc with rfl|hc
   ·have:=h.2.2 a List.mem_cons_self
    exact⟨⟨hk,this.1.2⟩,this.2⟩
   ·exact h.2.2 c (List.mem_cons_of_mem _ hc)
theorem dO{d:Nat}{key:ByteArray}{k:N}(hk:key.size≤16)(h:Nd d k):SG (af key k)∧∃k',(af key k).kid=[k']∧Nd d k':=
 ⟨⟨hk,by show aJ.size≤400;rw[bk];omega,by simp[af,C.ak]⟩,k,rfl,h⟩
theorem BJ{l:List C}(h:∀c,c∈l→Sh c):(keyOf l).size≤16:=by
 cases l with
 |nil=>show aJ.size≤16;rw[bk];omega
 |cons a l=>exact(h a List.mem_cons_self).1
theorem yT{l m:List C}{i:Nat}(h:1<l.length∨m≠[])(hi:i<l.length):aE l i m≠[]:=by
 intro e
 have:=cA (m:=m) hi
 rw[e]at this
 rcases h with h|h
 ·simp at this;omega
 ·have:=List.length_pos_iff.2 h;simp at *;omega
theorem wR{d:Nat}{n kid:N}{k:Nat}{key:ByteArray}(hn:Nd (d+1) n)(hk:Nd d kid)(hkey:key.size≤16)(hlt:k<n.l.length):Nd (d+1) (aU n kid k key).1:=by
 unfold aU
 simp only
 split
 ·exact hn
 ·rename_i h0
  obtain⟨_,h1,h2⟩:=hn
  have ha:=KL _ h0
  have hl:(ae kid).length=kid.l.length:=by unfold ae;rw[List.length_map]
  rw[hl]at ha
  generalize atR (ae kid)=i at*
  refine⟨rfl,yT (.inr (by simp)) hlt,fun c hc=>?_⟩
  rcases fU hc with hc|hc
  ·exact h2 c hc
  ·rcases List.mem_cons.1 hc with rfl|hc
   ·exact dO hkey (u6 hk _ (fun c hc=>List.mem_of_mem_take hc) fun e=>by have:=congrArg List.length e;rw[List.length_take,List.length_nil]at this;omega)
   ·rw[List.mem_singleton]at hc
    subst hc
    have hr:Nd d (.mk 0 kid.leaf (kid.l.drop i)):=u6 hk _ (fun c hc=>List.mem_of_mem_drop hc) fun e=>by have:=congrArg List.length e;rw[List.length_drop,List.length_nil]at this;omega
    refine dO (BJ fun c hc=>QW hk c (List.mem_of_mem_drop hc)) ?_
    split
    ·exact hr
    ·exact vS (by rw[bk];omega) hr
theorem bU{d:Nat}{n:N}(hn:Nd (d+1) n){k:Nat}(hk:k<n.l.length):∃c kid,n.l[k]? =some c∧cellAt n.l k=c∧aA c=kid∧c.kid=[kid]∧c.key.size≤16∧Nd d kid:=by
 obtain⟨c,hc⟩:∃c,n.l[k]? =some c:=⟨_,List.getElem?_eq_getElem hk⟩
 obtain⟨q1,kid,hkid,hnd⟩:=hn.2.2 c (List.mem_of_getElem? hc)
 exact⟨c,kid,hc,vW hc,bx hkid,hkid,q1.1,hnd⟩
theorem lW:∀{d:Nat} {a b:N},Nd d a→Nd d b→a.leaf=b.leaf
 |0,a,b,ha,hb=>ha.1.trans hb.1.symm
 |d+1,a,b,ha,hb=>ha.1.trans hb.1.symm
theorem ye{d:Nat}{a b:N}{key:ByteArray}(ha:Nd d a)(hb:Nd d b)(hk:key.size≤16):Nd d (bF a b key):=by
 have hl:=lW ha hb
 unfold bF
 by_cases hbl:b.l=[]
 ·have:(if b.leaf then b.l else bz key b.l)=[]:=by rw[hbl];split <;>rfl
  rw[this,List.append_nil]
  cases d with
  |zero=>exact ha
  |succ d=>exact absurd hbl hb.2.1
 ·have hb':Nd d (.mk 0 a.leaf (if b.leaf then b.l else bz key b.l)):=by
   have:Nd d (.mk 0 a.leaf b.l):=hl▸u6 hb 0 (fun _ h=>h) hbl
   split
   ·exact this
   ·exact vS hk this
  generalize (if b.leaf then b.l else bz key b.l)=r at*
  cases d with
  |zero=>
   refine⟨ha.1,fun c hc=>?_⟩
   rcases List.mem_append.1 hc with hc|hc
   ·exact ha.2 c hc
   ·exact hb'.2 c hc
  |succ d=>
   refine⟨ha.1,fun e=>ha.2.1 (List.append_eq_nil_iff.1 e).1,fun c hc=>?_⟩
   rcases List.mem_append.1 hc with hc|hc
   ·exact ha.2.2 c hc
   ·exact hb'.2.2 c hc
theorem iq{d:Nat}{n:N}(hn:Nd (d+1) n){i:Nat}(hi:i<n.l.length)(p:Int){m:List C}(h1:1<n.l.length∨m≠[])(hm:∀c,c∈m→SG c∧∃k,c.kid=[k]∧Nd d k):Nd (d+1) (.mk p false (aE n.l i m)):=
 ⟨rfl,yT h1 hi,fun c hc=>(fU hc).elim (hn.2.2 c) (hm c)⟩
theorem sM{d:Nat}{n:N}{k:Nat}(hn:Nd (d+1) n)(hlt:k<n.l.length):Nd (d+1) (cC n k):=by
 obtain⟨c,kid,hc,e1,e2,hkid,hkey,hnd⟩:=bU hn hlt
 unfold cC
 simp only[e1,e2]
 split
 ·exact wR hn hnd hkey hlt
 ·split
  ·exact hn
  ·rename_i h1 h2
   simp only[Bool.or_eq_true,decide_eq_true_eq,not_or]at h2
   have hj:(if k+1<n.l.length then k else k-1)+1<n.l.length:=by split <;>omega
   generalize (if k+1<n.l.length then k else k-1)=j at*
   obtain⟨c0,k0,hc0,f1,f2,hk0,hkey0,hnd0⟩:=bU hn (k:=j) (by omega)
   obtain⟨c1,k1,hc1,g1,g2,hk1,hkey1,hnd1⟩:=bU hn hj
   rw[f1,f2,g1,g2]
   have hbo:=ye hnd0 hnd1 hkey1
   have hw1:Nd (d+1) (.mk 0 false (aE n.l (j+1) [])):=iq hn hj 0 (.inl (by omega)) (fun c hc=>by cases hc)
   have hwl:=cA (m:=[]) hj
   simp only[List.length_nil]at hwl
   have hw2:=iq hw1 (i:=j) (by simp only[N.eo];omega) 0 (m:=[af c0.key (bF k0 k1 c1.key)]) (.inr (by simp)) fun c hc=>by
    rw[List.mem_singleton]at hc;subst hc;exact dO hkey0 hbo
   refine wR hw2 hbo hkey0 ?_
   have:=cA (l:=aE n.l (j+1) []) (i:=j) (m:=[af c0.key (bF k0 k1 c1.key)]) (by omega)
   simp only[N.eo,List.length_cons,List.length_nil]at this ⊢;omega
theorem gB{key val:ByteArray}(hk:key.size≤16)(hv:val.size≤400):∀{d:Nat} {n:N},Nd d n→Nd d (cj key val n)
 |0,n,h=>by
  rw[fZ _ _ _ h.1]
  refine⟨rfl,fun c hc=>?_⟩
  rcases j3 hc with hc|rfl
  ·exact h.2 c hc
  ·exact⟨⟨hk,hv,by simp[C.ak]⟩,rfl⟩
 |d+1,n,h=>by
  have hw:=gm h.2.1 key
  obtain⟨c,kid,hc,_,_,hkid,hkey,hnd⟩:=bU h hw
  rw[jQ _ _ _ h.1 hc hkid]
  have h1:=iq h hw 0 (m:=[af c.key (cj key val kid)]) (.inr (by simp)) fun c' hc'=>by
   rw[List.mem_singleton]at hc';subst hc';exact dO hkey (gB hk hv hnd)
  have:=cA (m:=[af c.key (cj key val kid)]) hw
  exact sM h1 (by simp only[N.eo,List.length_cons,List.length_nil]at *;omega)
theorem ML:∀{d:Nat} {n:N},Nd d n→∃d',d'≤d+1∧Nd d' (jN n):=by
 have one:∀{d:Nat} {n:N},Nd d n→∃d',d'≤d+1∧Nd d' (if atR (ae n)=0 then n else cC (.mk 0 false [af aJ n]) 0):=fun{d n} h=>by
  split
  ·exact⟨d,by omega,h⟩
  ·refine⟨d+1,Nat.le_refl _,sM ⟨rfl,by simp[N.l],fun c hc=>?_⟩ (by simp[N.l])⟩
   simp only[N.eo,List.mem_singleton]at hc
   subst hc
   exact dO (by rw[bk];omega) h
 intro d
 induction d with
 |zero=>intro n h;rw[cV _ (.inl h.1)];exact one h
 |succ d ih=>
  intro n h
  by_cases h1:n.l.length=1
  ·obtain⟨c,hc⟩:=List.length_eq_one_iff.1 h1
   obtain⟨_,k,hk,hn⟩:=h.2.2 c (by rw[hc];exact List.mem_singleton_self c)
   rw[ku n h.1 hc hk]
   obtain⟨d',h2,h3⟩:=ih hn
   exact⟨d',by omega,h3⟩
  ·rw[cV _ (.inr h1)];exact one h
def kR(l:List C):Nat:=(l.map lJ).sum
theorem j5(a b:List C):kR (a++b)=kR a+kR b:=by unfold kR;rw[List.map_append,List.sum_append]
theorem bj(c:C)(l:List C):kR (c::l)=lJ c+kR l:=by unfold kR;rw[List.map_cons,List.sum_cons]
theorem lA:kR []=0:=rfl
theorem aL(n:N):bw n=kR n.l:=yn n
theorem jW(p:Int)(b:Bool)(l:List C):bw (.mk p b l)=kR l:=by rw[aL];rfl
theorem jF(key:ByteArray)(k:N):lJ (af key k)=1+bw k:=by rw[eR];simp[af,C.kid]
theorem cK{c:C}{k:N}(h:c.kid=[k]):lJ c=1+bw k:=by rw[eR,h];simp
theorem wN(l:List C)(i:Nat):kR (l.take i)+kR (l.drop i)=kR l:=by rw[←j5,List.take_append_drop]
theorem kC{l m:List C}{i:Nat}{c:C}(h:l[i]? =some c):kR (aE l i m)+lJ c=kR l+kR m:=by
 have h1:=wN l i
 have h2:l.drop i=c::l.drop (i+1):=by
  obtain⟨hlt,rfl⟩:=List.getElem?_eq_some_iff.1 h
  exact List.drop_eq_getElem_cons hlt
 rw[h2,bj]at h1
 unfold aE
 rw[j5,j5]
 omega
theorem u9(key:ByteArray)(l:List C):kR (bz key l)=kR l:=by
 cases l with
 |nil=>rfl
 |cons a l=>simp only[bz,bj,eR,C.uC]
theorem uA{n kid:N}{k:Nat}{c:C}(hc:n.l[k]? =some c)(hk:c.kid=[kid])(key:ByteArray):bw (aU n kid k key).1≤bw n+1:=by
 unfold aU
 simp only
 split
 ·simp
 ·have h1:=wN kid.l (atR (ae kid))
  have h2:=kC (m:=[af key (.mk 0 kid.leaf (kid.l.take (atR (ae kid)))),af (keyOf (kid.l.drop (atR (ae kid)))) (.mk 0 kid.leaf (if kid.leaf then(kid.l.drop (atR (ae kid)))else bz aJ (kid.l.drop (atR (ae kid)))))]) hc
  have h3:kR (if kid.leaf then(kid.l.drop (atR (ae kid)))else bz aJ (kid.l.drop (atR (ae kid))))=kR (kid.l.drop (atR (ae kid))):=by
   split
   ·rfl
   ·exact u9 _ _
  rw[bj,bj,lA,jF,jF,jW,jW,cK hk,aL kid,h3]at h2
  rw[jW,aL n]
  omega
theorem s9{l m:List C}{i:Nat}{c:C}(hi:i<l.length):(aE l i (c::m))[i]? =some c:=by
 unfold aE
 rw[List.append_assoc,List.getElem?_append_right (by rw[List.length_take];omega),List.length_take,show i-min i l.length=0 by omega]
 rfl
theorem ux{d:Nat}{n:N}{k:Nat}(hn:Nd (d+1) n)(hlt:k<n.l.length):bw (cC n k)≤bw n+1:=by
 obtain⟨c,kid,hc,e1,e2,hkid,hkey,hnd⟩:=bU hn hlt
 unfold cC
 simp only[e1,e2]
 split
 ·exact uA hc hkid _
 ·split
  ·omega
  ·rename_i h1 h2
   simp only[Bool.or_eq_true,decide_eq_true_eq,not_or]at h2
   have hj:(if k+1<n.l.length then k else k-1)+1<n.l.length:=by split <;>omega
   generalize (if k+1<n.l.length then k else k-1)=j at*
   obtain⟨c0,k0,hc0,f1,f2,hk0,hkey0,hnd0⟩:=bU hn (k:=j) (by omega)
   obtain⟨c1,k1,hc1,g1,g2,hk1,hkey1,hnd1⟩:=bU hn hj
   rw[f1,f2,g1,g2]
   have hwl:=cA (m:=[]) hj
   simp only[List.length_nil]at hwl
   have hj2:j<(aE n.l (j+1) []).length:=by omega
   refine Nat.le_trans (uA (c:=af c0.key (bF k0 k1 c1.key)) (s9 hj2) rfl _) ?_
   have t1:=kC (m:=[]) hc1
   have hat:(aE n.l (j+1) [])[j]? =some c0:=by
    unfold aE
    rw[List.append_assoc,List.getElem?_append_left (by rw[List.length_take];omega),List.getElem?_take,if_pos (by omega)]
    exact hc0
   have t2:=kC (m:=[af c0.key (bF k0 k1 c1.key)]) hat
   have t3:bw (bF k0 k1 c1.key)=bw k0+bw k1:=by
    unfold bF
    rw[aL,N.eo,j5,aL k0,aL k1]
    split
    ·rfl
    ·rw[u9]
   rw[bj,lA,jF,t3,cK hk0]at t2
   rw[lA,cK hk1]at t1
   rw[aL,aL n,N.eo]
   omega
theorem Ao{l:List C}(h:∀c,c∈l→c.kid=[])(key val:ByteArray):kR (cO l key val)≤kR l+1:=by
 have ht:∀l:List C,(∀c,c∈l→c.kid=[])→kR l=l.length:=by
  intro l
  induction l with
  |nil=>intro _;rfl
  |cons a l ih=>
   intro h
   rw[bj,eR,h a List.mem_cons_self,ih fun c hc=>h c (List.mem_cons_of_mem _ hc),List.length_cons]
   simp;omega
 rw[ht l h,ht _ fun c hc=>(j3 hc).elim (h c) fun e=>by rw[e];rfl]
 exact zE l key val
theorem sE{key val:ByteArray}(hk:key.size≤16)(hv:val.size≤400):∀{d:Nat} {n:N},Nd d n→bw (cj key val n)≤bw n+1+d
 |0,n,h=>by
  rw[fZ _ _ _ h.1,aL,aL n,N.eo]
  have:=Ao (fun c hc=>(h.2 c hc).2) key val
  omega
 |d+1,n,h=>by
  have hw:=gm h.2.1 key
  obtain⟨c,kid,hc,_,_,hkid,hkey,hnd⟩:=bU h hw
  rw[jQ _ _ _ h.1 hc hkid]
  have h1:=iq h hw 0 (m:=[af c.key (cj key val kid)]) (.inr (by simp)) fun c' hc'=>by
   rw[List.mem_singleton]at hc';subst hc';exact dO hkey (gB hk hv hnd)
  have h2:=cA (m:=[af c.key (cj key val kid)]) hw
  have h3:=ux h1 (k:=fQ n.l key) (by simp only[N.eo,List.length_cons,List.length_nil]at *;omega)
  have h4:=kC (m:=[af c.key (cj key val kid)]) hc
  have h5:=sE hk hv hnd
  rw[bj,lA,jF,cK hkid]at h4
  rw[aL (.mk 0 false _),N.eo]at h3
  rw[aL n]
  omega
theorem Fy{d:Nat}:∀{n:N},Nd d n→bw (jN n)≤bw n+2:=by
 have one:∀{d:Nat} {n:N},Nd d n→bw (if atR (ae n)=0 then n else cC (.mk 0 false [af aJ n]) 0)≤bw n+2:=fun{d n} h=>by
  split
  ·omega
  ·have:=ux (d:=d) (n:= .mk 0 false [af aJ n]) (k:=0) ⟨rfl,by simp[N.l],fun c hc=>by
    simp only[N.eo,List.mem_singleton]at hc
    subst hc
    exact dO (by rw[bk];omega) h⟩ (by simp[N.l])
   rw[aL (.mk 0 false _),N.eo,bj,lA,jF]at this
   omega
 induction d with
 |zero=>intro n h;rw[cV _ (.inl h.1)];exact one h
 |succ d ih=>
  intro n h
  by_cases h1:n.l.length=1
  ·obtain⟨c,hc⟩:=List.length_eq_one_iff.1 h1
   obtain⟨_,k,hk,hn⟩:=h.2.2 c (by rw[hc];exact List.mem_singleton_self c)
   rw[ku n h.1 hc hk]
   have:=ih hn
   have:=gF (c:=c) (k:=k) (n:=n) (by rw[hc];exact List.mem_singleton_self c) hk
   omega
  ·rw[cV _ (.inr h1)];exact one h
def k7(key val:ByteArray)(n:N):N:=jN (cj key val n)
theorem Ua{key val:ByteArray}(hk:key.size≤16)(hv:val.size≤400){d:Nat}{n:N}(h:Nd d n):∃d',d'≤d+1∧Nd d' (k7 key val n)∧bw (k7 key val n)≤bw n+d+3:=by
 have h1:=gB hk hv h
 obtain⟨d',h2,h3⟩:=ML h1
 have:=sE hk hv h
 have:=Fy h1
 exact⟨d',h2,h3,by unfold k7;omega⟩
def cw(key:ByteArray):N→Option ByteArray
 | .mk p true l=>(l.find? fun c=>eS c.key key).map C.data
 | .mk p false l=>match h:l[fQ l key]? with
  |some (.mk ck cd cp (k::r))=>cw key k
  |_=>none
termination_by n=>SizeOf.sizeOf n
decreasing_by
 have h1:=List.sizeOf_lt_of_mem (List.mem_of_getElem? h)
 simp at h1 ⊢;omega
theorem oD(key:ByteArray)(n:N)(h:n.leaf=true):cw key n=(n.l.find? fun c=>eS c.key key).map C.data:=by
 cases n with|mk p b l=>simp only[N.leaf]at h;subst h;rw[cw];rfl
theorem sQ(key:ByteArray)(n:N)(h:n.leaf=false){c:C}{k:N}(hc:n.l[fQ n.l key]? =some c)(hk:c.kid=[k]):cw key n=cw key k:=by
 cases n with|mk p b l=>
 simp only[N.leaf]at h;subst h
 cases c with|mk ck cd cp cr=>
 simp only[C.kid]at hk;subst hk
 simp only[N.l]at hc
 rw[cw]
 split
 ·rename_i h1;rw[hc]at h1;cases h1;rfl
 ·rename_i h1;exact absurd hc (h1 _ _ _ _ _)
def aD(key:ByteArray):N→N
 | .mk p true l=> .mk 0 true (l.filter fun c=>!eS c.key key)
 | .mk p false l=>match h:l[fQ l key]? with
  |some (.mk ck cd cp (k::r))=>cC (.mk 0 false (l.set (fQ l key) (.mk ck cd cp [aD key k]))) (fQ l key)
  |_=> .mk 0 true []
termination_by n=>SizeOf.sizeOf n
decreasing_by
 have h1:=List.sizeOf_lt_of_mem (List.mem_of_getElem? h)
 simp at h1 ⊢;omega
theorem cb(key:ByteArray)(n:N)(h:n.leaf=true):aD key n= .mk 0 true (n.l.filter fun c=>!eS c.key key):=by
 cases n with|mk p b l=>simp only[N.leaf]at h;subst h;rw[aD];rfl
theorem fb(key:ByteArray)(n:N)(h:n.leaf=false){c:C}{k:N}(hc:n.l[fQ n.l key]? =some c)(hk:c.kid=[k]):aD key n=cC (.mk 0 false (n.l.set (fQ n.l key) (.mk c.key c.data c.ak [aD key k]))) (fQ n.l key):=by
 cases n with|mk p b l=>
 simp only[N.leaf]at h;subst h
 cases c with|mk ck cd cp cr=>
 simp only[C.kid]at hk;subst hk
 simp only[N.l]at hc ⊢
 rw[aD]
 split
 ·rename_i h1;rw[hc]at h1;cases h1;rfl
 ·rename_i h1;exact absurd hc (h1 _ _ _ _ _)
theorem mem_set{α:Type}:∀{l:List α} {i:Nat} {a b:α},b∈l.set i a→b∈l∨b=a
 |[],_,_,_,h=>by simp at h
 |x::l,0,a,b,h=>by
  rw[List.set_cons_zero]at h
  rcases List.mem_cons.1 h with rfl|h
  ·exact .inr rfl
  ·exact .inl (List.mem_cons_of_mem _ h)
 |x::l,i+1,a,b,h=>by
  rw[List.set_cons_succ]at h
  rcases List.mem_cons.1 h with rfl|h
  ·exact .inl List.mem_cons_self
  ·exact(mem_set h).imp (List.mem_cons_of_mem _) id
theorem ri{d:Nat}{n:N}(hn:Nd (d+1) n){i:Nat}(hi:i<n.l.length){c':C}(h:SG c'∧∃k,c'.kid=[k]∧Nd d k):Nd (d+1) (.mk 0 false (n.l.set i c')):=
 ⟨rfl,fun e=>by have:=congrArg List.length e;simp only[N.eo,List.length_set,List.length_nil]at this;omega,fun c hc=>by
  rcases mem_set hc with hc|rfl
  ·exact hn.2.2 c hc
  ·exact h⟩
theorem Ey{l:List C}{i:Nat}{c c':C}(h:l[i]? =some c):kR (l.set i c')+lJ c=kR l+lJ c':=by
 induction l generalizing i with
 |nil=>simp at h
 |cons a l ih=>
  cases i with
  |zero=>simp at h;subst h;rw[List.set_cons_zero,bj,bj];omega
  |succ i=>rw[List.set_cons_succ,bj,bj];have:=ih (i:=i) (by simpa using h);omega
theorem cE{key:ByteArray}:∀{d:Nat} {n:N},Nd d n→Nd d (aD key n)
 |0,n,h=>by
  rw[cb _ _ h.1]
  exact⟨rfl,fun c hc=>h.2 c (List.mem_filter.1 hc).1⟩
 |d+1,n,h=>by
  have hw:=gm h.2.1 key
  obtain⟨c,kid,hc,_,_,hkid,hkey,hnd⟩:=bU h hw
  rw[fb _ _ h.1 hc hkid]
  refine sM (ri h hw ⟨(h.2.2 c (List.mem_of_getElem? hc)).1,_,rfl,cE hnd⟩) ?_
  simp only[N.eo,List.length_set];exact hw
theorem Cy(p:C→Bool)(l:List C):kR (l.filter p)≤kR l:=by
 induction l with
 |nil=>exact Nat.le_refl _
 |cons a l ih=>
  rw[List.filter_cons,bj]
  split
  ·rw[bj];omega
  ·omega
theorem jS{key:ByteArray}:∀{d:Nat} {n:N},Nd d n→bw (aD key n)≤bw n+d
 |0,n,h=>by
  rw[cb _ _ h.1,jW,aL n]
  exact Cy _ _
 |d+1,n,h=>by
  have hw:=gm h.2.1 key
  obtain⟨c,kid,hc,_,_,hkid,hkey,hnd⟩:=bU h hw
  rw[fb _ _ h.1 hc hkid]
  have h1:=ri h hw (c':= .mk c.key c.data c.ak [aD key kid]) ⟨(h.2.2 c (List.mem_of_getElem? hc)).1,_,rfl,cE hnd⟩
  have h2:=ux h1 (k:=fQ n.l key) (by simp only[N.eo,List.length_set];exact hw)
  have h3:=Ey hc (c':= .mk c.key c.data c.ak [aD key kid])
  have h4:=jS hnd (key:=key)
  rw[cK hkid,cK (k:=aD key kid) rfl]at h3
  rw[jW]at h2
  rw[aL n]
  omega
def l9(key:ByteArray)(n:N):N:=if(cw key n).isSome then jN (aD key n)else n
theorem Sa{key:ByteArray}{d:Nat}{n:N}(h:Nd d n):∃d',d'≤d+1∧Nd d' (l9 key n)∧bw (l9 key n)≤bw n+d+3:=by
 unfold l9
 split
 ·have h1:=cE (key:=key) h
  obtain⟨d',h2,h3⟩:=ML h1
  have:=jS h (key:=key)
  have:=Fy h1
  exact⟨d',h2,h3,by omega⟩
 ·exact⟨d,by omega,h,by omega⟩
theorem wv:∀(a:List UInt8),Op.bytesLess a a=false
 |[]=>rfl
 |x::a=>by simp[Op.bytesLess,wv a]
theorem zN:∀{a b c:List UInt8},Op.bytesLess a b=true→Op.bytesLess b c=true→Op.bytesLess a c=true
 |[],[],_,h,_=>by simp[Op.bytesLess]at h
 |[],_::_,[],_,h=>by simp[Op.bytesLess]at h
 |[],_::_,_::_,_,_=>by simp[Op.bytesLess]
 |_::_,[],_,h,_=>by simp[Op.bytesLess]at h
 |_::_,_::_,[],_,h=>by simp[Op.bytesLess]at h
 |x::a,y::b,z::c,h1,h2=>by
  simp only[Op.bytesLess,Bool.or_eq_true,decide_eq_true_eq,Bool.and_eq_true,beq_iff_eq]at h1 h2 ⊢
  rcases h1 with h1|⟨rfl,h1⟩
  ·rcases h2 with h2|⟨rfl,h2⟩
   ·exact .inl (UInt8.lt_trans h1 h2)
   ·exact .inl h1
  ·rcases h2 with h2|⟨rfl,h2⟩
   ·exact .inl h2
   ·exact .inr ⟨rfl,zN h1 h2⟩
theorem KE:∀(a b:List UInt8),Op.bytesLess a b=true∨a=b∨Op.bytesLess b a=true
 |[],[]=> .inr (.inl rfl)
 |[],_::_=> .inl (by simp[Op.bytesLess])
 |_::_,[]=> .inr (.inr (by simp[Op.bytesLess]))
 |x::a,y::b=>by
  simp only[Op.bytesLess,Bool.or_eq_true,decide_eq_true_eq,Bool.and_eq_true,beq_iff_eq]
  rcases UInt8.lt_or_lt_of_ne (a:=x) (b:=y)|>fun f=>Classical.em (x=y) |>.elim (fun h=>Or.inr h) fun h=>Or.inl (f h)with h|rfl
  ·rcases h with h|h
   ·exact .inl (.inl h)
   ·exact .inr (.inr (.inl h))
  ·rcases KE a b with h|rfl|h
   ·exact .inl (.inr ⟨rfl,h⟩)
   ·exact .inr (.inl rfl)
   ·exact .inr (.inr (.inr ⟨rfl,h⟩))
theorem DM{a b:ByteArray}(h:a.data.toList=b.data.toList):a=b:=by
 cases a;cases b;simp only[ByteArray.mk.injEq];exact Array.toList_inj.1 h
theorem cN{a b:ByteArray}:eS a b=true↔a=b:=by
 unfold eS
 rw[decide_eq_true_eq]
 exact⟨DM,fun h=>h▸rfl⟩
theorem jy(a:ByteArray):eS a a=true:=cN.2 rfl
theorem dc{a b:ByteArray}:eS a b=false↔a≠b:=by rw[←Bool.not_eq_true,cN]
theorem cI(a:ByteArray):cH a a=false:=wv _
theorem fO{a b c:ByteArray}(h:cH a b=true)(k:cH b c=true):cH a c=true:=zN h k
theorem nu(a b:ByteArray):cH a b=true∨a=b∨cH b a=true:=(KE a.data.toList b.data.toList).imp id (Or.imp DM id)
theorem fk{a b:ByteArray}(h:cH a b=true):cH b a=false:=by
 rw[←Bool.not_eq_true];intro k
 have:=fO h k
 rw[cI]at this;cases this
theorem bH{a b:ByteArray}(h:cH a b=true):a≠b:=by rintro rfl;rw[cI]at h;cases h
theorem LF(a b:ByteArray):mg a b=!cH b a:=by
 unfold mg
 rcases nu a b with h|rfl|h
 ·rw[fk h,show Op.bytesLess a.data.toList b.data.toList=true from h];rfl
 ·rw[cI];simp
 ·have h1:=fk h
  have h2:¬a.data.toList=b.data.toList:=fun e=>bH h (DM e).symm
  rw[h,show Op.bytesLess a.data.toList b.data.toList=false from h1,decide_eq_false h2];rfl
theorem ig{a b:ByteArray}:mg a b=true↔cH b a=false:=by rw[LF];simp
theorem pL(a:ByteArray):mg a a=true:=ig.2 (cI a)
theorem tr{a b:ByteArray}:mg a b=false↔cH b a=true:=by rw[LF];simp
theorem qS{a b:ByteArray}(h:cH a b=true):mg a b=true:=ig.2 (fk h)
theorem lX{a b c:ByteArray}(h:mg a b=true)(k:cH b c=true):cH a c=true:=by
 rcases nu a b with h1|rfl|h1
 ·exact fO h1 k
 ·exact k
 ·rw[ig.1 h]at h1;cases h1
theorem im{a b c:ByteArray}(h:cH a b=true)(k:mg b c=true):cH a c=true:=by
 rcases nu b c with h1|rfl|h1
 ·exact fO h h1
 ·exact h
 ·rw[ig.1 k]at h1;cases h1
theorem ot(a:ByteArray):mg aJ a=true:=by
 rw[ig];unfold cH;show Op.bytesLess _ []=false;cases a.data.toList <;>rfl
theorem sU(l:List Int):∀j p,1≤p→p≤j+1→fq l (wc l j)≤fq l p
 |0,p,h1,h2=>by have:p=1:=by omega
                subst this;exact Int.le_refl _
 |j+1,p,h1,h2=>by
  simp only[wc]
  split
  ·rename_i h
   rcases Nat.lt_or_ge p (j+2)with h3|h3
   ·have:=sU l j p h1 (by omega);omega
   ·have:p=j+2:=by omega
    subst this;exact Int.le_refl _
  ·rename_i h
   rcases Nat.lt_or_ge p (j+2)with h3|h3
   ·exact sU l j p h1 (by omega)
   ·have:p=j+2:=by omega
    subst this;omega
theorem kg(l:List Int)(p:Nat):(l.take p).sum+(l.drop p).sum=l.sum:=by
 rw[←List.sum_append,List.take_append_drop]
theorem EU{l:List Int}(h:∀x,x∈l→0≤x):0≤l.sum:=by
 induction l with
 |nil=>exact Int.le_refl _
 |cons a l ih=>have:=ih fun x hx=>h x (List.mem_cons_of_mem _ hx);have:=h a List.mem_cons_self;rw[List.sum_cons];omega
theorem half{m:Int}(hm:0≤m):∀(l:List Int),(∀x,x∈l→0≤x∧x≤m)→∀u:Int,0≤u→u≤2*l.sum→∃p,p≤l.length∧2*(l.take p).sum≤u+m∧u≤2*(l.take p).sum+m:=by
 intro l
 induction l with
 |nil=>intro _ u h0 h1;exact⟨0,Nat.le_refl _,by simp at *;omega,by simp at *;omega⟩
 |cons a l ih=>
  intro h u h0 h1
  obtain⟨a0,am⟩:=h a List.mem_cons_self
  rw[List.sum_cons]at h1
  by_cases ht:u≤a
  ·exact⟨0,Nat.zero_le _,by simp;omega,by simp;omega⟩
  ·by_cases hta:u≤2*a
   ·exact⟨1,by simp,by simp;omega,by simp;omega⟩
   ·obtain⟨p,p1,p2,p3⟩:=ih (fun x hx=>h x (List.mem_cons_of_mem _ hx)) (u-2*a) (by omega) (by omega)
    exact⟨p+1,by simp;omega,by rw[List.take_succ_cons,List.sum_cons];omega,by rw[List.take_succ_cons,List.sum_cons];omega⟩
theorem F6{l:List Int}{m:Int}(h:∀x,x∈l→0≤x∧x≤m)(h0:122<l.sum)(hm0:0≤m)(hm:m≤35):
 1≤atR l∧atR l<l.length∧2*(l.take (atR l)).sum≤l.sum+m∧2*(l.drop (atR l)).sum≤l.sum+m:=by
 obtain⟨p,p1,p2,p3⟩:=half hm0 l h l.sum (by omega) (by omega)
 have hp0:p≠0:=by rintro rfl;simp at p3;omega
 have hpl:p≠l.length:=by rintro rfl;rw[List.take_length]at p2;omega
 have hb:=sU l (l.length-2) p (by omega) (by omega)
 have hat:atR l=wc l (l.length-2):=by unfold atR;rw[if_neg];rintro(h|h) <;>omega
 have hle:=CY l (l.length-2)
 rw[hat]
 generalize wc l (l.length-2)=q at*
 have sp:=kg l p
 have sq:=kg l q
 refine⟨hle.1,by omega,?_,?_⟩
 ·unfold fq at hb
  split at hb <;>split at hb <;>omega
 ·unfold fq at hb
  split at hb <;>split at hb <;>omega
theorem pc{l:List Int}(h:l.sum≤122):atR l=0:=by unfold atR;rw[if_pos (.inl h)]
mutual
def di:N→List C
 | .mk _ b l=>Ql b l
def ja(b:Bool):C→List C
 | .mk k d ps kid=>if b then [.mk k d ps kid]else Ym kid
def Ql(b:Bool):List C→List C
 |[]=>[]
 |c::l=>ja b c++Ql b l
def Ym:List N→List C
 |[]=>[]
 |n::_=>di n
end
theorem FJ(b:Bool)(l:List C):Ql b l=l.flatMap (ja b):=by
 induction l with
 |nil=>rfl
 |cons c l ih=>rw[Ql,ih,List.flatMap_cons]
theorem cF(n:N):di n=n.l.flatMap (ja n.leaf):=by cases n;rw[di,FJ];rfl
theorem fG(p:Int)(b:Bool)(l:List C):di (.mk p b l)=l.flatMap (ja b):=by rw[cF];rfl
theorem Jp(c:C):ja true c=[c]:=by cases c;rfl
theorem bf{c:C}{k:N}(h:c.kid=[k]):ja false c=di k:=by
 cases c with|mk a b d e=>
 simp only[C.uC]at h
 subst h;rfl
theorem db(key:ByteArray)(k:N):ja false (af key k)=di k:=bf rfl
theorem fR(l:List C):l.flatMap (ja true)=l:=by
 induction l with
 |nil=>rfl
 |cons c l ih=>rw[List.flatMap_cons,Jp,ih];rfl
theorem cM{n:N}(h:n.leaf=true):di n=n.l:=by rw[cF,h,fR]
def YN(c:C):Prop:=c.key≠aJ∧c.key.size≤16∧c.data.size≤400∧(c.ak≠[]→16<c.data.size)∧c.ak.length≤4∧c.kid=[]
def ShK(c:C):Prop:=c.key.size≤16∧c.data=aJ∧c.ak=[]
def RC(c c':C):Prop:=cH c.key c'.key=true∧∀x,x∈ja false c→cH x.key c'.key=true
def dm(l:List C):Prop:=l.Pairwise fun a b=>cH a.key b.key=true
def Fits(n:N):Prop:=30≤(ae n).sum∧(ae n).sum≤122
def iy(G F:N→Prop)(c:C):Prop:=ShK c∧(∀x,x∈ja false c→mg c.key x.key=true)∧∃k,c.kid=[k]∧G k∧F k
structure QQ(G:N→Prop)(l:List C):Prop where
 k0:keyOf l=aJ
 pw:l.Pairwise RC
 cell:∀c,c∈l→iy G Fits c
def Good:Nat→N→Prop
 |0,n=>n.leaf=true∧dm n.l∧∀c,c∈n.l→YN c
 |d+1,n=>n.leaf=false∧n.l≠[]∧QQ (Good d) n.l
structure Uq(d:Nat)(A:List C)(c:C)(B:List C):Prop where
 k0:keyOf (A++c::B)=aJ
 pw:(A++c::B).Pairwise RC
 ahead:∀x,x∈A→iy (Good d) Fits x
 behind:∀x,x∈B→iy (Good d) Fits x
 own:iy (Good d) (fun k=>(ae k).sum≤167) c
theorem az:∀{d:Nat} {n:N},Good d n→Nd d n
 |0,n,h=>⟨h.1,fun c hc=>by obtain⟨h1,h2,h3,h4,h5,h6⟩:=h.2.2 c hc;exact⟨⟨h2,h3,h5⟩,h6⟩⟩
 |d+1,n,h=>⟨h.1,h.2.1,fun c hc=>by
  obtain⟨⟨h1,h2,h3⟩,h4,k,h5,h6,h7⟩:=h.2.2.cell c hc
  exact⟨⟨h1,by rw[h2,bk];omega,by rw[h3];exact Nat.le_refl _⟩,k,h5,az h6⟩⟩
theorem fF(c:C):aW false c=4+c.key.size:=rfl
theorem size_leaf{c:C}(h:c.key.size≤16∧c.data.size≤400):0≤aW true c∧aW true c≤35:=by
 unfold aW need
 simp only[if_true]
 split
 ·split <;>omega
 ·split <;>omega
theorem cq(p:Int)(b:Bool)(l:List C):ae (.mk p b l)=l.map (aW b):=rfl
theorem gV:∀{d:Nat} {n:N},Good d n→∀x,x∈ae n→0≤x∧x≤(if d=0 then 35 else 20)
 |0,n,h,x,hx=>by
  unfold ae at hx
  obtain⟨c,hc,rfl⟩:=List.mem_map.1 hx
  obtain⟨h1,h2,h3,_⟩:=h.2.2 c hc
  rw[h.1]
  exact size_leaf ⟨h2,h3⟩
 |d+1,n,h,x,hx=>by
  unfold ae at hx
  obtain⟨c,hc,rfl⟩:=List.mem_map.1 hx
  have:=(h.2.2.cell c hc).1.1
  rw[h.1,fF,if_neg (by omega)]
  omega
theorem oT{n:N}(h:Fits n):n.l≠[]:=by
 intro e
 have:=h.1
 unfold ae at this
 rw[e]at this
 simp at this
theorem xV:∀{d:Nat} {n:N},Good d n→n.l≠[]→di n≠[]
 |0,n,h,hn=>by rw[cM h.1];exact hn
 |d+1,n,h,hn=>by
  obtain⟨c,l,hl⟩:∃c l,n.l=c::l:=by cases hx:n.l with|nil=>exact absurd hx hn|cons c l=>exact⟨c,l,rfl⟩
  obtain⟨_,_,k,h5,h6,h7⟩:=h.2.2.cell c (by rw[hl];exact List.mem_cons_self)
  have:=xV h6 (oT h7)
  rw[cF,h.1,hl,List.flatMap_cons,bf h5]
  intro e
  exact this (List.append_eq_nil_iff.1 e).1
theorem lL{d:Nat}{c:C}(h:iy (Good d) Fits c):∃x,x∈ja false c:=by
 obtain⟨_,_,k,h5,h6,h7⟩:=h
 rw[bf h5]
 exact List.exists_mem_of_ne_nil _ (xV h6 (oT h7))
theorem jC(key:ByteArray){a:C}(l:List C):bz key (a::l)= .mk key a.data a.ak a.kid::l:=rfl
theorem lV(key:ByteArray)(c:C):ja false (.mk key c.data c.ak c.kid)=ja false c:=by cases c;simp[ja,C.kid]
theorem mU(key:ByteArray)(l:List C):(bz key l).flatMap (ja false)=l.flatMap (ja false):=by
 cases l with
 |nil=>rfl
 |cons a l=>rw[jC,List.flatMap_cons,List.flatMap_cons,lV]
theorem Ng{G:N→Prop}{l:List C}(h1:l.Pairwise RC)(h2:∀c,c∈l→dm (ja false c)∧∀x,x∈ja false c→mg c.key x.key=true):dm (l.flatMap (ja false)):=by
 unfold dm
 induction l with
 |nil=>exact List.Pairwise.nil
 |cons c l ih=>
  rw[List.pairwise_cons]at h1
  rw[List.flatMap_cons,List.pairwise_append]
  refine⟨(h2 c List.mem_cons_self).1,ih h1.2 fun x hx=>h2 x (List.mem_cons_of_mem _ hx),fun x hx y hy=>?_⟩
  obtain⟨c',hc',hy⟩:=List.mem_flatMap.1 hy
  exact im ((h1.1 c' hc').2 x hx) ((h2 c' (List.mem_cons_of_mem _ hc')).2 y hy)
theorem vz:∀{d:Nat} {n:N},Good d n→dm (di n)
 |0,n,h=>by rw[cM h.1];exact h.2.1
 |d+1,n,h=>by
  rw[cF,h.1]
  refine Ng (G:=Good d) h.2.2.pw fun c hc=>?_
  obtain⟨_,h4,k,h5,h6,h7⟩:=h.2.2.cell c hc
  exact⟨by rw[bf h5];exact vz h6,h4⟩
theorem eO{l m:List C}{R:C→C→Prop}:(l++m).Pairwise R↔l.Pairwise R∧m.Pairwise R∧∀a,a∈l→∀b,b∈m→R a b:=List.pairwise_append
theorem fP(A:List C)(c:C)(B m:List C):aE (A++c::B) A.length m=A++m++B:=by
 unfold aE
 rw[List.take_left',List.append_assoc,List.append_assoc,show A.length+1=(A++[c]).length by simp,show A++c::B=(A++[c])++B by simp,List.drop_left']
 ·rfl
 ·rfl
theorem qP{A B B':List C}(h:keyOf B=keyOf B')(hB:B≠[])(hB':B'≠[]):keyOf (A++B)=keyOf (A++B'):=by
 cases A with
 |nil=>exact h
 |cons a A=>rfl
theorem Qj{d:Nat}{A B m:List C}{c:C}(h:Uq d A c B)(hm:m≠[])(h0:keyOf m=c.key)(hp:m.Pairwise RC)(hcell:∀x,x∈m→iy (Good d) Fits x)(hle:∀x,x∈m→mg c.key x.key=true)
 (hU:∀b,b∈B→∀x,x∈m→RC x b):QQ (Good d) (A++m++B):=by
 obtain⟨p1,p2,p3⟩:=eO.1 h.pw
 rw[List.pairwise_cons]at p2
 refine⟨?_,?_,?_⟩
 ·rw[←h.k0,List.append_assoc]
  refine qP ?_ (by simp[hm]) (by simp)
  cases m with
  |nil=>exact absurd rfl hm
  |cons x m=>exact h0
 ·rw[List.append_assoc,eO,eO]
  refine⟨p1,⟨hp,p2.2,fun x hx b hb=>hU b hb x hx⟩,fun a ha x hx=>?_⟩
  rcases List.mem_append.1 hx with hx|hx
  ·have:=p3 a ha c List.mem_cons_self
   exact⟨im this.1 (hle x hx),fun y hy=>im (this.2 y hy) (hle x hx)⟩
  ·exact p3 a ha x (List.mem_cons_of_mem _ hx)
 ·intro x hx
  rcases List.mem_append.1 hx with hx|hx
  ·rcases List.mem_append.1 hx with hx|hx
   ·exact h.ahead x hx
   ·exact hcell x hx
  ·exact h.behind x hx
theorem BQ(n:N)(i:Nat):(n.l.take i).map (aW n.leaf)=(ae n).take i:=by unfold ae;rw[List.map_take]
theorem CP(n:N)(i:Nat):(n.l.drop i).map (aW n.leaf)=(ae n).drop i:=by unfold ae;rw[List.map_drop]
theorem O5{d:Nat}{n:N}(h:Good d n)(h0:122<(ae n).sum)(h1:(ae n).sum≤167){i:Nat}(hi:i=atR (ae n)){r:List C}(hr:r=n.l.drop i):
 i≠0∧Good d (.mk 0 n.leaf (n.l.take i))∧Fits (.mk 0 n.leaf (n.l.take i))∧Good d (.mk 0 n.leaf (if n.leaf then r else bz aJ r))∧Fits (.mk 0 n.leaf (if n.leaf then r else bz aJ r))∧
 di (.mk 0 n.leaf (n.l.take i))++di (.mk 0 n.leaf (if n.leaf then r else bz aJ r))=di n∧(keyOf r).size≤16∧(∀x,x∈di (.mk 0 n.leaf (n.l.take i))→cH x.key (keyOf r)=true)∧
 (∀x,x∈di (.mk 0 n.leaf (if n.leaf then r else bz aJ r))→mg (keyOf r) x.key=true)∧(∃y,y∈di n∧mg (keyOf r) y.key=true):=by
 have hs:=gV h
 have hm:∀x,x∈ae n→0≤x∧x≤35:=fun x hx=>by have:=hs x hx;split at this <;>omega
 obtain⟨a1,a2,a3,a4⟩:=F6 (m:=if d=0 then 35 else 20) hs h0 (by split <;>omega) (by split <;>omega)
 have asum:=kg (ae n) (atR (ae n))
 rw[←hi]at a1 a2 a3 a4 asum
 have hlen:(ae n).length=n.l.length:=by unfold ae;rw[List.length_map]
 obtain⟨c,r',hc⟩:∃c r',r=c::r':=by
  cases hx:r with
  |nil=>have:=congrArg List.length (hr.symm.trans hx);rw[List.length_drop]at this;simp at this;omega
  |cons c r'=>exact⟨c,r',rfl⟩
 have happ:n.l.take i++(c::r')=n.l:=by rw[←hc,hr,List.take_append_drop]
 have hcm:c∈n.l:=by rw[←happ];simp
 have htk:n.l.take i≠[]:=fun e=>by have:=congrArg List.length e;rw[List.length_take,List.length_nil]at this;omega
 have st:=congrArg List.sum (BQ n i)
 have sd:=congrArg List.sum (CP n i)
 rw[←hr]at sd
 cases d with
 |zero=>
  have hlf:=h.1
  rw[hlf]at st sd ⊢
  simp only[if_true]at*
  have hrise:=h.2.1
  unfold dm at hrise
  rw[←happ,eO]at hrise
  obtain⟨q1,q2,q3⟩:=hrise
  rw[hc]
  refine⟨by omega,⟨rfl,q1,fun x hx=>h.2.2 x (List.mem_of_mem_take hx)⟩,⟨?_,?_⟩,⟨rfl,q2,fun x hx=>h.2.2 x (by rw[←happ];exact List.mem_append_right _ hx)⟩,⟨?_,?_⟩,?_,(h.2.2 c hcm).2.1,?_,?_,c,by rw[cM hlf];exact hcm,pL _⟩
  ·rw[cq,st];omega
  ·rw[cq,st];omega
  ·rw[cq,←hc,sd];omega
  ·rw[cq,←hc,sd];omega
  ·rw[fG,fG,fR,fR,cM hlf,happ]
  ·intro x hx
   rw[fG,fR]at hx
   exact q3 x hx c List.mem_cons_self
  ·intro x hx
   rw[fG,fR]at hx
   rcases List.mem_cons.1 hx with rfl|hx
   ·exact pL _
   ·rw[List.pairwise_cons]at q2
    exact qS (q2.1 x hx)
 |succ d=>
  have hlf:=h.1
  have hB:=h.2.2
  rw[hlf]at st sd ⊢
  simp only[Bool.false_eq_true,if_false,show¬(d+1=0)by omega]at*
  have hpw:=hB.pw
  rw[←happ,eO]at hpw
  obtain⟨q1,q2,q3⟩:=hpw
  rw[List.pairwise_cons]at q2
  have hcG:=hB.cell c hcm
  obtain⟨x0,hx0⟩:=lL hcG
  have hk:∀x,x∈(c::r').flatMap (ja false)→mg c.key x.key=true:=fun x hx=>by
   obtain⟨c',hc',hx2⟩:=List.mem_flatMap.1 hx
   rcases List.mem_cons.1 hc' with e|hc'
   ·rw[e]at hx2;exact hcG.2.1 x hx2
   ·exact qS (im (q2.1 c' hc').1 ((hB.cell c' (by rw[←happ];simp[hc'])).2.1 x hx2))
  rw[hc]
  have hsz:=hcG.1.1
  have e1:((bz aJ (c::r')).map (aW false)).sum=((c::r').map (aW false)).sum-c.key.size:=by
   rw[jC,List.map_cons,List.sum_cons,List.map_cons,List.sum_cons,fF,fF,C.lN,bk];omega
  have en:(n.l.take i).flatMap (ja false)++(c::r').flatMap (ja false)=di n:=by rw[cF,hlf,←List.flatMap_append,happ]
  refine⟨by omega,⟨rfl,htk,⟨?_,q1,fun x hx=>hB.cell x (List.mem_of_mem_take hx)⟩⟩,⟨?_,?_⟩,⟨rfl,by simp[bz,N.l],⟨rfl,?_,?_⟩⟩,⟨?_,?_⟩,?_,hsz,?_,?_,?_⟩
  ·rw[←hB.k0]
   show keyOf (n.l.take i)=keyOf n.l
   obtain⟨a,t,ht⟩:∃a t,n.l.take i=a::t:=by cases hx:n.l.take i with|nil=>exact absurd hx htk|cons a t=>exact⟨a,t,rfl⟩
   rw[ht]at happ ⊢
   rw[←happ];rfl
  ·rw[cq,st];omega
  ·rw[cq,st];omega
  ·show(bz aJ (c::r')).Pairwise RC
   rw[jC,List.pairwise_cons]
   refine⟨fun b hb=>⟨lX (ot _) (q2.1 b hb).1,fun x hx=>?_⟩,q2.2⟩
   rw[lV]at hx
   exact(q2.1 b hb).2 x hx
  ·intro x hx
   rcases List.mem_cons.1 hx with rfl|hx
   ·obtain⟨⟨w1,w2,w3⟩,w4,w5⟩:=hcG
    exact⟨⟨by show aJ.size≤16;rw[bk];omega,w2,w3⟩,fun y _=>ot _,w5⟩
   ·exact hB.cell x (by rw[←happ];simp[hx])
  ·rw[cq,e1,←hc,sd];omega
  ·rw[cq,e1,←hc,sd];omega
  ·rw[fG,fG,mU,en]
  ·intro x hx
   rw[fG]at hx
   obtain⟨c',hc',hx⟩:=List.mem_flatMap.1 hx
   exact(q3 c' hc' c List.mem_cons_self).2 x hx
  ·intro x hx
   rw[fG,mU]at hx
   exact hk x hx
  ·exact⟨x0,by rw[←en];exact List.mem_append_right _ (List.mem_flatMap.2 ⟨c,List.mem_cons_self,hx0⟩),hcG.2.1 x0 hx0⟩
theorem rj{d:Nat}{p:Int}{A B:List C}{c:C}{kid:N}(h:Uq d A c B)(hk:c.kid=[kid]){m:N×Bool}(hm:m=aU (.mk p false (A++c::B)) kid A.length c.key):
 (m.2=false∧m.1= .mk p false (A++c::B)∧(ae kid).sum≤122)∨(m.2=true∧m.1.leaf=false∧m.1.l.length=A.length+B.length+2∧QQ (Good d) m.1.l∧di m.1=(A++c::B).flatMap (ja false)∧m.1.aq=0∧(ae m.1).sum≤((A++c::B).map (aW false)).sum+20):=by
 obtain⟨o1,o2,kid',o3,o4,o5⟩:=h.own
 rw[hk]at o3;cases o3
 rw[bf hk]at o2
 have hs:=gV o4
 rcases Int.lt_or_le 122 (ae kid).sum with h0|h0
 ·refine .inr ?_
  obtain⟨i,hi⟩:∃i,i=atR (ae kid):=⟨_,rfl⟩
  obtain⟨r,hr⟩:∃r,r=kid.l.drop i:=⟨_,rfl⟩
  obtain⟨q0,q1,q2,q3,q4,q5,q6,q7,q8,y,q9,q10⟩:=O5 o4 h0 o5 hi hr
  unfold aU at hm
  simp only[←hi,if_neg q0,←hr]at hm
  rw[hm]
  generalize hX:(N.mk 0 kid.leaf (List.take i kid.l))=X at*
  generalize hY:(N.mk 0 kid.leaf (if kid.leaf=true then r else bz aJ r))=Y at*
  simp only[N.eo,N.nq,N.E9,fP]
  have hne:di X≠[]:=xV q1 (oT q2)
  obtain⟨x0,hx0⟩:=List.exists_mem_of_ne_nil _ hne
  have hX':∀x,x∈di X→x∈di kid:=fun x hx=>by rw[←q5];exact List.mem_append_left _ hx
  have hY':∀x,x∈di Y→x∈di kid:=fun x hx=>by rw[←q5];exact List.mem_append_right _ hx
  obtain⟨p1,p2,p3⟩:=eO.1 h.pw
  rw[List.pairwise_cons]at p2
  refine⟨trivial,trivial,by simp;omega,?_,?_,trivial,?_⟩
  ·have hck:cH c.key (keyOf r)=true:=lX (o2 x0 (hX' x0 hx0)) (q7 x0 hx0)
   refine Qj h (by simp) rfl ?_ ?_ ?_ ?_
   ·rw[List.pairwise_cons]
    refine⟨fun b hb=>?_,List.pairwise_singleton _ _⟩
    rw[List.mem_singleton]at hb;subst hb
    refine⟨hck,fun x hx=>?_⟩
    rw[db]at hx
    exact q7 x hx
   ·intro x hx
    rcases List.mem_cons.1 hx with rfl|hx
    ·exact⟨⟨o1.1,rfl,rfl⟩,fun x hx=>by rw[db]at hx;exact o2 x (hX' x hx),X,rfl,q1,q2⟩
    ·rw[List.mem_singleton]at hx;subst hx
     exact⟨⟨q6,rfl,rfl⟩,fun x hx=>by rw[db]at hx;exact q8 x hx,Y,rfl,q3,q4⟩
   ·intro x hx
    rcases List.mem_cons.1 hx with rfl|hx
    ·exact pL _
    ·rw[List.mem_singleton]at hx;subst hx
     exact qS hck
   ·intro b hb x hx
    have hcb:=p2.1 b hb
    rw[RC,bf hk]at hcb
    rcases List.mem_cons.1 hx with rfl|hx
    ·exact⟨hcb.1,fun x hx=>by rw[db]at hx;exact hcb.2 x (hX' x hx)⟩
    ·rw[List.mem_singleton]at hx;subst hx
     exact⟨lX q10 (hcb.2 y q9),fun x hx=>by rw[db]at hx;exact hcb.2 x (hY' x hx)⟩
  ·rw[fG,List.flatMap_append,List.flatMap_append,List.flatMap_append,List.flatMap_cons,List.flatMap_cons,List.flatMap_cons,List.flatMap_nil,db,db,bf hk,←q5]
   simp
  ·rw[cq]
   simp only[List.map_append,List.map_cons,List.map_nil,List.sum_append,List.sum_cons,List.sum_nil,fF,af,C.lN]
   omega
 ·refine .inl ?_
  unfold aU at hm
  simp only[pc h0,if_true]at hm
  rw[hm]
  exact⟨rfl,rfl,h0⟩
theorem zr{d:Nat}{A B:List C}{c:C}{kid:N}(h:Uq d A c B)(hk:c.kid=[kid])(h0:30≤(ae kid).sum)(h1:(ae kid).sum≤122):QQ (Good d) (A++c::B):=by
 refine⟨h.k0,h.pw,fun x hx=>?_⟩
 rcases List.mem_append.1 hx with hx|hx
 ·exact h.ahead x hx
 ·rcases List.mem_cons.1 hx with rfl|hx
  ·obtain⟨o1,o2,k,o3,o4,o5⟩:=h.own
   rw[hk]at o3;cases o3
   exact⟨o1,o2,kid,hk,o4,h0,h1⟩
  ·exact h.behind x hx
theorem Pn{d:Nat}{kx ky:N}{key:ByteArray}(hx:Good d kx)(hy:Good d ky)(h1:∀e,e∈di kx→cH e.key key=true)(h2:∀e,e∈di ky→mg key e.key=true)(hs:key.size≤16):
 Good d (bF kx ky key)∧di (bF kx ky key)=di kx++di ky∧(ae kx).sum+(ae ky).sum≤(ae (bF kx ky key)).sum∧(ae (bF kx ky key)).sum≤(ae kx).sum+(ae ky).sum+16:=by
 cases d with
 |zero=>
  have e:bF kx ky key= .mk 0 true (kx.l++ky.l):=by unfold bF;rw[hy.1,hx.1,if_pos rfl]
  rw[e,fG,fR,cM hx.1,cM hy.1,cq]
  rw[cM hx.1]at h1
  rw[cM hy.1]at h2
  have e1:ae kx=kx.l.map (aW true):=by unfold ae;rw[hx.1]
  have e2:ae ky=ky.l.map (aW true):=by unfold ae;rw[hy.1]
  refine⟨⟨rfl,eO.2 ⟨hx.2.1,hy.2.1,fun a ha b hb=>im (h1 a ha) (h2 b hb)⟩,fun c hc=>?_⟩,rfl,?_,?_⟩
  ·rcases List.mem_append.1 hc with hc|hc
   ·exact hx.2.2 c hc
   ·exact hy.2.2 c hc
  ·rw[List.map_append,List.sum_append,e1,e2];omega
  ·rw[List.map_append,List.sum_append,e1,e2];omega
 |succ d=>
  have e:bF kx ky key= .mk 0 false (kx.l++bz key ky.l):=by unfold bF;rw[hy.1,hx.1,if_neg (by simp)]
  rw[e,fG,cF kx,cF ky,hx.1,hy.1,cq,List.flatMap_append,mU]
  rw[cF,hx.1]at h1
  rw[cF,hy.1]at h2
  have e1:ae kx=kx.l.map (aW false):=by unfold ae;rw[hx.1]
  have e2:ae ky=ky.l.map (aW false):=by unfold ae;rw[hy.1]
  have hX:=hx.2.2
  have hY:=hy.2.2
  obtain⟨c0,r,hr⟩:∃c0 r,ky.l=c0::r:=by cases hq:ky.l with|nil=>exact absurd hq hy.2.1|cons a t=>exact⟨a,t,rfl⟩
  have hc0:=hY.cell c0 (by rw[hr];exact List.mem_cons_self)
  have hp:=hY.pw
  have hk0:=hY.k0
  rw[hr,List.pairwise_cons]at hp
  rw[hr]at h2 e2 hk0
  have hk0:c0.key=aJ:=hk0
  rw[hr,jC]
  obtain⟨x0,hx0⟩:=lL hc0
  have hl0:=h2 x0 (List.mem_flatMap.2 ⟨c0,List.mem_cons_self,hx0⟩)
  have hkb:∀b,b∈r→cH key b.key=true:=fun b hb=>lX hl0 ((hp.1 b hb).2 x0 hx0)
  have hle:∀b,b∈C.mk key c0.data c0.ak c0.kid::r→mg key b.key=true:=fun b hb=>by
   rcases List.mem_cons.1 hb with rfl|hb
   ·exact pL _
   ·exact qS (hkb b hb)
  refine⟨⟨rfl,by simp[N.l],?_,?_,?_⟩,rfl,?_,?_⟩
  ·show keyOf (kx.l++_)=aJ
   rw[←hX.k0]
   cases hq:kx.l with
   |nil=>exact absurd hq hx.2.1
   |cons a t=>rfl
  ·refine eO.2 ⟨hX.pw,List.pairwise_cons.2 ⟨fun b hb=>⟨hkb b hb,fun x hx=>?_⟩,hp.2⟩,fun a ha b hb=>?_⟩
   ·rw[lV]at hx
    exact(hp.1 b hb).2 x hx
   ·obtain⟨xa,hxa⟩:=lL (hX.cell a ha)
    have h3:∀x,x∈ja false a→cH x.key key=true:=fun x hx=>h1 x (List.mem_flatMap.2 ⟨a,ha,hx⟩)
    exact⟨im (lX ((hX.cell a ha).2.1 xa hxa) (h3 xa hxa)) (hle b hb),fun x hx=>im (h3 x hx) (hle b hb)⟩
  ·intro c hc
   rcases List.mem_append.1 hc with hc|hc
   ·exact hX.cell c hc
   ·rcases List.mem_cons.1 hc with rfl|hc
    ·obtain⟨⟨w1,w2,w3⟩,w4,w5⟩:=hc0
     refine⟨⟨hs,w2,w3⟩,fun y hy=>?_,w5⟩
     rw[lV]at hy
     exact h2 y (List.mem_flatMap.2 ⟨c0,List.mem_cons_self,hy⟩)
    ·exact hY.cell c (by rw[hr];exact List.mem_cons_of_mem _ hc)
  ·rw[List.map_append,List.sum_append,e1,e2,List.map_cons,List.sum_cons,List.map_cons,List.sum_cons,fF,fF,C.lN,hk0,bk];omega
  ·rw[List.map_append,List.sum_append,e1,e2,List.map_cons,List.sum_cons,List.map_cons,List.sum_cons,fF,fF,C.lN,hk0,bk];omega
theorem lH(A:List C)(c:C)(B:List C):cellAt (A++c::B) A.length=c:=vW (by simp)
theorem I6{d:Nat}{A B:List C}{x y:C}{kx ky:N}(hk0:keyOf (A++x::y::B)=aJ)(hpw:(A++x::y::B).Pairwise RC)(hA:∀c,c∈A→iy (Good d) Fits c)(hB:∀c,c∈B→iy (Good d) Fits c)
 (hx:iy (Good d) (fun _=>True) x) (hy:iy (Good d) (fun _=>True) y) (ex:x.kid=[kx]) (ey:y.kid=[ky]) (hsum:(ae kx).sum+(ae ky).sum≤151):
 Uq d A (af x.key (bF kx ky y.key)) B∧(A++af x.key (bF kx ky y.key)::B).flatMap (ja false)=(A++x::y::B).flatMap (ja false)∧(ae kx).sum+(ae ky).sum≤(ae (bF kx ky y.key)).sum:=by
 obtain⟨x1,x2,kx',x3,x4,_⟩:=hx
 rw[ex]at x3;cases x3
 obtain⟨y1,y2,ky',y3,y4,_⟩:=hy
 rw[ey]at y3;cases y3
 rw[bf ex]at x2
 rw[bf ey]at y2
 obtain⟨p1,p2,p3⟩:=eO.1 hpw
 rw[List.pairwise_cons,List.pairwise_cons]at p2
 obtain⟨p2,p4,p5⟩:=p2
 have hxy:=p2 y List.mem_cons_self
 rw[RC,bf ex]at hxy
 obtain⟨b1,b2,b3,b4⟩:=Pn x4 y4 hxy.2 y2 y1.1
 refine⟨⟨?_,?_,hA,hB,⟨⟨x1.1,rfl,rfl⟩,fun e he=>?_,_,rfl,b1,by omega⟩⟩,?_,b3⟩
 ·rw[←hk0];exact qP rfl (by simp) (by simp)
 ·refine eO.2 ⟨p1,List.pairwise_cons.2 ⟨fun b hb=>⟨(p2 b (List.mem_cons_of_mem _ hb)).1,fun e he=>?_⟩,p5⟩,fun a ha b hb=>?_⟩
  ·rw[db,b2]at he
   rcases List.mem_append.1 he with he|he
   ·have:=(p2 b (List.mem_cons_of_mem _ hb)).2
    rw[bf ex]at this
    exact this e he
   ·have:=(p4 b hb).2
    rw[bf ey]at this
    exact this e he
  ·rcases List.mem_cons.1 hb with rfl|hb
   ·exact p3 a ha x List.mem_cons_self
   ·exact p3 a ha b (List.mem_cons_of_mem _ (List.mem_cons_of_mem _ hb))
 ·rw[db,b2]at he
  rcases List.mem_append.1 he with he|he
  ·exact x2 e he
  ·exact qS (im hxy.1 (y2 e he))
 ·rw[List.flatMap_append,List.flatMap_append,List.flatMap_cons,List.flatMap_cons,List.flatMap_cons,db,b2,bf ex,bf ey,List.append_assoc]
theorem nE{G F:N→Prop}{c:C}(h:iy G F c):iy G (fun _=>True) c:=by
 obtain⟨h1,h2,k,h3,h4,h5⟩:=h
 exact⟨h1,h2,k,h3,h4,trivial⟩
structure xA(d:Nat)(L:List C)(m:N):Prop where
 leaf:m.leaf=false
 aq:m.aq=0
 ne:m.l≠[]
 br:QQ (Good d) m.l
 en:di m=L.flatMap (ja false)
 sum:(ae m).sum≤(L.map (aW false)).sum+20
theorem EK{d:Nat}{A B:List C}{c:C}(h:Uq d A c B)(hAB:A≠[]∨B≠[]):xA d (A++c::B) (cC (.mk 0 false (A++c::B)) A.length):=by
 obtain⟨o1,o2,kid,hkid,o4,o5⟩:=h.own
 unfold cC
 simp only[N.eo,lH,bx hkid]
 generalize hP:aU (.mk 0 false (A++c::B)) kid A.length c.key=P
 rcases rj h hkid hP.symm with⟨q1,q2,q3⟩|⟨q1,q2,q3,q4,q5,q6,q7⟩
 ·rw[q1,if_neg (by simp)]
  split
  ·rename_i hlow
   have h30:30≤(ae kid).sum:=by
    rw[Bool.or_eq_true]at hlow
    rcases hlow with hlow|hlow
    ·unfold BR at hlow
     simp at hlow;omega
    ·have h2:(A++c::B).length<2:=of_decide_eq_true hlow
     rw[List.length_append,List.length_cons]at h2
     rcases hAB with hA|hB
     ·have:=List.length_pos_iff.2 hA;omega
     ·have:=List.length_pos_iff.2 hB;omega
   exact⟨rfl,rfl,by simp[N.l],zr h hkid h30 q3,fG _ _ _,by rw[cq];omega⟩
  ·rename_i hlow
   have h29:(ae kid).sum≤29:=by
    rw[Bool.or_eq_true,not_or]at hlow
    have:=hlow.1
    unfold BR at this
    simp at this;omega
   have fin:∀(A' B':List C) (x y:C) (kx ky:N),A++c::B=A'++x::y::B'→x.kid=[kx]→y.kid=[ky]→iy (Good d) (fun _=>True) x→iy (Good d) (fun _=>True) y→(∀e,e∈A'→iy (Good d) Fits e)→(∀e,e∈B'→iy (Good d) Fits e)→
    30≤(ae kx).sum+(ae ky).sum→(ae kx).sum+(ae ky).sum≤151→
    xA d (A++c::B) (aU (.mk 0 false (aE (aE (A++c::B) (A'.length+1) []) A'.length [af (cellAt (A++c::B) A'.length).key (bF (aA (cellAt (A++c::B) A'.length)) (aA (cellAt (A++c::B) (A'.length+1))) (cellAt (A++c::B) (A'.length+1)).key)])) (bF (aA (cellAt (A++c::B) A'.length)) (aA (cellAt (A++c::B) (A'.length+1))) (cellAt (A++c::B) (A'.length+1)).key) A'.length (cellAt (A++c::B) A'.length).key).1:=by
    intro A' B' x y kx ky he ex ey hx hy hA' hB' s30 s151
    obtain⟨b1,b2,b3⟩:=I6 (by rw[←he];exact h.k0) (by rw[←he];exact h.pw) hA' hB' hx hy ex ey s151
    have e1:cellAt (A'++x::y::B') (A'.length+1)=y:=by
     have:=lH (A'++[x]) y B'
     simpa using this
    have e2:aE (A'++x::y::B') (A'.length+1) []=A'++x::B':=by
     have:=fP (A'++[x]) y B' []
     simpa using this
    rw[he,lH,e1,e2,bx ex,bx ey,fP,List.append_assoc,List.singleton_append]
    generalize hQ:aU (.mk 0 false (A'++af x.key (bF kx ky y.key)::B')) (bF kx ky y.key) A'.length x.key=Q
    have hsz:((A'++af x.key (bF kx ky y.key)::B').map (aW false)).sum≤((A'++x::y::B').map (aW false)).sum:=by
     simp only[List.map_append,List.map_cons,List.sum_append,List.sum_cons,fF,af,C.lN]
     omega
    rcases rj (p:=0) b1 (kid:=bF kx ky y.key) rfl hQ.symm with⟨r1,r2,r3⟩|⟨r1,r2,r3,r4,r5,r6,r7⟩
    ·rw[r2]
     exact⟨rfl,rfl,by simp[N.l],zr b1 rfl (by omega) r3,by rw[fG,b2],by rw[cq];omega⟩
    ·exact⟨r2,r6,by intro e;rw[e]at r3;simp at r3,r4,by rw[r5,b2],by omega⟩
   have fs:∀x kx,iy (Good d) Fits x→x.kid=[kx]→30≤(ae kx).sum∧(ae kx).sum≤122:=fun x kx hx ex=>by
    obtain⟨_,_,k,h3,_,h5⟩:=hx
    rw[ex]at h3;cases h3;exact h5
   have s0:0≤(ae kid).sum:=EU fun x hx=>(gV o4 x hx).1
   cases B with
   |cons b0 B'=>
    have hb0:=h.behind b0 List.mem_cons_self
    obtain⟨_,_,kb,hkb,_⟩:=id hb0
    have:=fs b0 kb hb0 hkb
    have hlt:A.length+1<(A++c::b0::B').length:=by simp
    simp only[hlt,if_true]
    exact fin A B' c b0 kid kb rfl hkid hkb (nE h.own) (nE hb0) h.ahead (fun e he=>h.behind e (List.mem_cons_of_mem _ he)) (by omega) (by omega)
   |nil=>
    have hA:A≠[]:=hAB.resolve_right (by simp)
    obtain⟨A',a0,rfl⟩:∃A' a0,A=A'++[a0]:=⟨A.dropLast,A.getLast hA,(List.dropLast_concat_getLast hA).symm⟩
    have ha0:=h.ahead a0 (by simp)
    obtain⟨_,_,ka,hka,_⟩:=id ha0
    have:=fs a0 ka ha0 hka
    have hnl:¬(A'++[a0]).length+1<(A'++[a0]++[c]).length:=by simp
    simp only[hnl,if_false]
    have hj:(A'++[a0]).length-1=A'.length:=by simp
    rw[hj]
    exact fin A' [] a0 c ka kid (by simp) hka hkid (nE ha0) (nE h.own) (fun e he=>h.ahead e (List.mem_append_left _ he)) (fun e he=>by cases he) (by omega) (by omega)
 ·rw[q1,if_pos rfl]
  exact⟨q2,q6,by intro e;rw[e]at q3;simp at q3,q4,q5,q7⟩
end Go.Proofs.YtpjenciplibdnaaGreatDoor
