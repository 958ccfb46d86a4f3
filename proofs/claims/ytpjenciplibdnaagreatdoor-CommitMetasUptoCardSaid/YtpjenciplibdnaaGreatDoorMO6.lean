/-
  A scope out of which nothing jumps back; Nodes as pages: what the reference computes; Long values as pages: what the reference computes; A tree laid on pages: what the reference computes; A value, and a cell, laid on pages: what the reference computes; Where a node is parted: what the program computes; Rows of the program's trees: cloned, put together, some of their places anew; Keys looked for; sizes of a node's cells; the kid that has a key: what the program computes; Keys looked for; nodes parted and put together: what the program computes; A kid parted, two neighbours put together, a branch mended: what the program computes; A branch mended: what the program computes; Keys put and found: what the program computes; Keys found and deleted: what the program computes; Elements of an own row deleted: what the library computes; A key deleted: what the program computes; A key deleted, whole; where there is nothing: what the program computes; Where a name stands among a view's trees: what the program computes; A named tree set into an own row: what the library computes; A view's changes, plain; what the program computes; A view's tree changed, plain; what the program computes; A cursor settles: what the program computes; A cursor is set ahead of a key: what the program computes; A cursor's next entry; some entries of a tree by name: what the program computes; Some entries of a view's tree: what the program computes; Views stay views; what one name holds: plain laws; What a view holds at one name: plain laws; The law's steps on a view: what the program computes; The law's example on views: what the program computes; ViewApart: what the program computes; From an argument that reads as a datum to an abstract value; from a walked call to the row's own words; ViewApart; A view's trees as the law has them: what the program computes; A tree's entries: what the reference computes (in a view's words); What a view's names are; what was put is got: plain laws; Whether a tree may be: what the program computes; A tree laid on pages: what the reference computes; A tree laid on pages: plain laws; A tree laid on pages: what it stays; A tree laid on pages: the pages it has; A tree laid on pages: all of it is laid; A tree laid on pages: its entries may stand on a page. By an AI agent.
-/
import Derived.Test.YtpjenciplibdnaaGreatDoorMO5
import Derived.Test.YtpjenciplibdnaaGreatDoorMO4
import Derived.Test.YtpjenciplibdnaaGreatDoorRows
import Derived.ProofKit
import Derived.OpenShut
import Derived.JoinedCond
import Derived.Carry
set_option linter.unusedVariables false
set_option linter.unusedSimpArgs false
set_option maxRecDepth 100000
set_option maxHeartbeats 16000000
namespace Aml
open Go Go.RowKit
section
variable {P:Program} {F:Fence} {n:Nat} {Q:Exit→Act→World→Prop} {a:Act} {w:World} {b:Frame} {k:List Item} {cs:List Frame}
end
section
variable {P:Program} {w0:W0}
end
end Aml
namespace Go.Proofs.YtpjenciplibdnaaGreatDoor
open Aml Go
structure E8 where
 key:ByteArray
 data:ByteArray
 It:Bool
 size:Int
 aq:Int
@[go_sem] def vp (e:E8):DV:= .agg [dS e.key,dS e.data,dB e.It,dI e.size,dI e.aq]
def eH(b:Bool)(e:E8):ByteArray:=
 lZ e.key++(if b then(if e.It then((⟨#[1]⟩:ByteArray)++aC 2 (IntKind.u64.wrap e.size))++aC 2 (IntKind.u64.wrap e.aq)else(⟨#[0]⟩:ByteArray)++e.data)else aC 2 (IntKind.u64.wrap e.aq))
theorem oH(b:Bool)(e:E8):(eH b e).size=1+e.key.size+(if b then(if e.It then 5 else 1+e.data.size)else 2):=by
 unfold eH
 rw[ByteArray.size_append,ju]
 have h0:(⟨#[0]⟩:ByteArray).size=1:=rfl
 have h1:(⟨#[1]⟩:ByteArray).size=1:=rfl
 split
 ·split
  ·rw[ByteArray.size_append,ByteArray.size_append,av,av,h1]
  ·rw[ByteArray.size_append,h0]
 ·rw[av]
def Nb(b:Bool)(e:E8):Prop:=e.key.size≤16∧(if b then(if e.It then e.data=aJ∧16<e.size∧e.size≤400∧2≤e.aq∧e.aq≤999 else e.data.size≤16∧e.size=0∧e.aq=0)else e.data=aJ∧e.It=false∧e.size=0∧2≤e.aq∧e.aq≤999)
def iC(z i:Nat):Nat:=min 119 (z-119*i)
def ou(v:ByteArray)(at_:List Int)(i:Nat):ByteArray:=aC 2 (IntKind.u64.wrap ((at_[i+1]?).getD 0))++v.extract (119*i) (119*i+iC v.size i)
def bl(v:ByteArray)(at_:List Int):List ByteArray:=(List.range at_.length).map fun i=>cS 3 [ou v at_ i]
theorem rr{v:ByteArray}{at_:List Int}{i:Nat}(hi:119*i<v.size):(ou v at_ i).size=2+iC v.size i:=by
 unfold ou iC
 rw[ByteArray.size_append,av,ByteArray.size_extract]
 omega
@[go_sem] def ZR (w:Int×ByteArray):DV:= .agg [dI w.1,dS w.2]
structure abc(S:St)(bs lw:Nat)(left:List Int)(ws:List (Int×ByteArray)):Prop where
 box:lk S.box bs=some [.acc lw ws.length,.sl 1 false (left.map dI)]
 acc:lk S.acc lw=some (.arr 2 (ws.map ZR))
theorem dD{α:Type}{b:Nat}{x:α}:∀{l:List (Nat×α)},lk l b=some x→up l b x=l
 |[],h=>rfl
 |(k,y)::l,h=>by
  unfold lk at h
  unfold up
  split
  ·rename_i e;rw[if_pos e]at h;cases h;rw[e]
  ·rename_i e;rw[if_neg e]at h;rw[dD h]
abbrev LS:=List Int×List (Int×ByteArray)
def eX(d:ByteArray)(ps:List Int)(q:LS):List Int×LS:=
 if need (d.size:Int)=0∨ps≠[]then(ps,q)else(q.1.take (need (d.size:Int)),(q.1.drop (need (d.size:Int)),q.2++(q.1.take (need (d.size:Int))).zip (bl d (q.1.take (need (d.size:Int))))))
def dV(b:Bool)(c:C):E8:=if b then(if c.ak=[]then⟨c.key,c.data,false,0,0⟩else⟨c.key,aJ,true,c.data.size,c.ak.headD 0⟩)else⟨c.key,aJ,false,0,(aA c).aq⟩
theorem IJ(w0:W0)(l:List Int)(S:St)(h:Bd l):aa Tryz.prog w0 216 [dL l] S (fun d S'=>d=dI l.sum∧S'=S):=by
 refine aZ [] mx Tryz.func216 rfl rfl (by kernel_rfl) ?_;(refine @ab _ ?_;refine an @Tryz.ntmps216 ?_)
 refine aF [] l.length [3,6,7,8] (fun k=>[(3,dI (l.take k).sum),(8,dI k)]) (fun _=>S) (fun _=>True) mx (by kernel_rfl) ?_ ?_
 ·(refine @ab _ ?_;refine au ?_)
  rfl
 ·intro k hk _
  have h0:=h.1
  (refine @ab _ ?_;refine au ?_)
  refine⟨fun hlt=>⟨hlt,fun a ha=>⟨by omega,?_,?_⟩⟩,fun hge=>?_⟩
  ·have:=(h.take (k+1)).sum
   rw[AZ ha]at this ⊢
   exact aX (by omega) (by omega)
  ·rw[aX (by omega) (by omega)];omega
  ·rw[List.take_of_length_le (by omega)]
theorem TR(w0:W0)(l:List Int)(S:St)(h:Bd l):aa Tryz.prog w0 174 [dL l] S (fun d S'=>d=dB (BR l)∧S'=S):=by
 refine aZ [] mx Tryz.func174 rfl rfl (by kernel_rfl) ?_;(refine @ab _ ?_;refine an @Tryz.ntmps174 ?_)
 refine ao (IJ w0 _ _ h) ?_
 (refine @ab _ ?_;refine au ?_)
 rfl
theorem nbP(w0:W0)(m k:Int)(S:St)(h0:0≤m)(h1:m≤1048576)(h2:0≤k)(h3:k<m):aa Tryz.prog w0 175 [dI m,dI k] S (fun d S'=>d=dI (WU m k)∧S'=S):=by
 refine aZ [] mx Tryz.func175 rfl rfl (by kernel_rfl) ?_;(refine @ab _ ?_;refine an @Tryz.ntmps175 ?_)
 unfold WU
 rw[aX (n:=k+1) (by omega) (by omega),aX (n:=k-1) (by omega) (by omega)]
 exact⟨fun h=>by rw[if_pos h],fun h=>by rw[if_neg h]⟩
theorem cm(i:Nat)(h:i<2^61):IntKind.i64.wrap ((i:Int)+1)=((i+1:Nat):Int):=by rw[aX (by omega) (by omega)];omega
def Vr(n:Nat):List Nat:=(List.range n).map (·+1)
theorem pT(n:Nat):Vr (n+1)=Vr n++[n+1]:=by simp[Vr,List.range_succ]
theorem C1(n:Nat):(Vr n).length=n:=by simp[Vr]
theorem Ln:∀{j n:Nat},j≤n→Vr j <+: Vr n:=fun{j n} h=>by
 induction n with
 |zero=>have:j=0:=by omega
        subst this;exact List.prefix_refl _
 |succ n ih=>
  rcases Nat.lt_or_ge j (n+1)with q|q
  ·exact(ih (by omega)).trans (by rw[pT];exact List.prefix_append _ _)
  ·have:j=n+1:=by omega
   subst this;exact List.prefix_refl _
theorem Rk{pre:List Nat}{x n:Nat}(h:(pre++[x]) <+: Vr n):x=pre.length+1∧pre.length<n:=by
 obtain⟨t,ht⟩:=h
 have hl:=congrArg List.length ht
 simp only[List.length_append,List.length_cons,List.length_nil,C1]at hl
 have hx:=congrArg (fun z=>z[pre.length]?) ht
 simp only[List.append_assoc,List.getElem?_append_right (Nat.le_refl _),Nat.sub_self,Vr]at hx
 simp at hx
 have hlt:pre.length<n:=by omega
 rw[List.getElem?_range hlt]at hx
 simp at hx
 exact⟨hx,hlt⟩
theorem SR(L:List (Nat×List DV))(b c:Nat)(v:List DV):lk (up L b v) c=if b=c then(lk L c).map (fun _=>v)else lk L c:=by
 split
 ·rename_i e;subst e;exact ax _ _ _
 ·rename_i e;exact aM e _ _
theorem AV{X T:St}(h:Has X T)(b:Nat)(v:List DV):Has ⟨up X.box b v,X.acc⟩ ⟨up T.box b v,T.acc⟩:=⟨fun c x hc=>by
 simp only[SR]at hc ⊢
 split at hc
 ·rename_i e
  obtain⟨y,hy,rfl⟩:=Option.map_eq_some_iff.1 hc
  rw[h.box _ _ hy,if_pos e];rfl
 ·rename_i e
  rw[if_neg e];exact h.box _ _ hc,h.acc⟩
theorem Sw{X T:St}{b c:Nat}{v w:List DV}(hb:¬lk X.box b=none)(hc:¬lk X.box c=none):Kp X T ⟨up (up T.box b v) c w,T.acc⟩:=⟨fun d x hd hx=>by
 show lk (up (up T.box b v) c w) d=some x
 rw[aM (fun e=>hc (by rw[e];exact hd)),aM (fun e=>hb (by rw[e];exact hd))];exact hx,fun d x _ hx=>hx⟩
theorem RX(w0:W0)(l:List Int)(S:St):aa Tryz.prog w0 217 [dL l] S (fun d S'=>∃b:FN S.box,d= .v (.func (.func 242) #[] #[.pointer (some ⟨b.n,0,none⟩)])∧S'=⟨(b.n,[dL l])::S.box,S.acc⟩):=by
 refine mf [] mx Tryz.func217 rfl rfl (by kernel_rfl) ?_;(refine @ab _ ?_;refine an @Tryz.ntmps217 ?_)
 intro b
 exact⟨b,rfl,rfl⟩
def Uf(l:List Int):Nat→Nat
 |0=>0
 |j+1=>wc l j
def O8(l:List Int):Nat→Int
 |0=>l.sum+1
 |j+1=>fq l (wc l j)
theorem rl(l:List Int)(i:Nat):(l.take i).sum+(l.drop i).sum=l.sum:=by
 rw[←List.sum_append_int,List.take_append_drop]
theorem LW{l:List Int}(h:Bd l)(i:Nat):0≤fq l i∧fq l i≤l.sum:=by
 have h1:=(h.take i).sum
 have h2:=(h.drop i).sum
 have h3:=rl l i
 unfold fq
 split <;>omega
theorem IH{l:List Int}(h:Bd l)(p:Nat):(fq l (p+1)<O8 l p→O8 l (p+1)=fq l (p+1)∧Uf l (p+1)=p+1)∧(¬fq l (p+1)<O8 l p→O8 l (p+1)=O8 l p∧Uf l (p+1)=Uf l p):=by
 cases p with
 |zero=>exact⟨fun _=>⟨rfl,rfl⟩,fun hn=>absurd (by have:=(LW h 1).2;show fq l 1<l.sum+1;omega) hn⟩
 |succ j=>
  have e:wc l (j+1)=if fq l (j+2)<fq l (wc l j)then j+2 else wc l j:=rfl
  refine⟨fun hw=>?_,fun hw=>?_⟩
  ·have e2:wc l (j+1)=j+2:=e.trans (if_pos hw)
   exact⟨by show fq l (wc l (j+1))=_;rw[e2],e2⟩
  ·have e2:wc l (j+1)=wc l j:=e.trans (if_neg hw)
   exact⟨by show fq l (wc l (j+1))=_;rw[e2];rfl,e2⟩
theorem SF(w0:W0)(l:Nat)(b:Nat)(r:List Int)(X:List Nat→St)(hr:Bd r)(hb:∀pre,lk (X pre).box b=some [dL r])
 (hy:YK Tryz.prog w0 l X (fun x=>[dI x,dI (fq r x)]) (Vr (r.length-1))):∀T,Has (X []) T→aa Tryz.prog w0 242 [.v (.func (.yield l) #[] #[]),.v (.pointer (some ⟨b,0,none⟩))] T (fun _ T'=>Has (X (Vr (r.length-1))) T'):=by
 intro T hT
 have t0:lk T.box b=some [dL r]:=hT.box _ _ (hb _)
 refine vF [] mx Tryz.func242 rfl rfl (by kernel_rfl) ?_;simp only[Tryz.ntmps242,List.length_cons,List.length_nil,Nat.reduceAdd,Nat.reduceSub,List.reduceReplicate,List.cons_append,List.nil_append];(refine @ab _ ?_;refine ba @Tryz.ntmps242 @t0 ?_)
 refine ao (IJ w0 _ _ hr) ?_
 (refine @ab _ ?_;refine an @t0 ?_)
 have h0:=hr.1
 refine jR [] [0,3,4,9,10,11] (fun s:St×Nat=>[(3,dI (r.take s.2).sum),(4,dI (r.drop s.2).sum),(11,dI s.2)]) (fun s=>s.1) (fun s=>s.2≤r.length∧Has (X (Vr (s.2-1))) s.1) (fun s=>r.length-s.2) (T,0) mx (by kernel_rfl) ?_ ?_
 ·(refine @ab _ ?_;refine au ?_)
  exact⟨⟨Nat.zero_le _,hT⟩,rfl⟩
 ·rintro⟨T,k⟩ ⟨hk,hT'⟩
  simp only at hk hT'
  (refine @ab _ ?_;refine au ?_)
  have hsu:∀a,r[k]? =some a→IntKind.i64.wrap ((r.take k).sum+a)=(r.take (k+1)).sum∧IntKind.i64.wrap ((r.drop k).sum-a)=(r.drop (k+1)).sum:=fun a ha=>by
   have h1:=AZ ha
   have h2:=rl r k
   have h3:=rl r (k+1)
   have h4:=(hr.take (k+1)).sum
   have h5:=(hr.drop (k+1)).sum
   exact⟨by rw[h1]at h4 ⊢;exact aX (by omega) (by omega),by rw[aX (by omega) (by omega)];omega⟩
  refine⟨fun hlt=>⟨hlt,fun a ha=>⟨fun hk0=>?_,fun hk0=>?_⟩⟩,fun hge=>?_⟩
  ·obtain⟨j,rfl⟩:∃j,k=j+1:=⟨k-1,by omega⟩
   have ew:(if(r.take (j+1)).sum<(r.drop (j+1)).sum then(r.drop (j+1)).sum else(r.take (j+1)).sum)=fq r (j+1):=by
    unfold fq
    split <;>split <;>omega
   rw[ew]
   refine Ki (hy (Vr j) (j+1) T (by rw[←pT];exact Ln (by omega)) hT') ?_
   rintro d T2 ⟨rfl,hT2,hK⟩
   (refine @ab _ ?_;refine au ?_)
   exact⟨(T2,j+2),⟨hlt,by show Has (X (Vr (j+1))) T2;rw[pT];exact hT2⟩,by show r.length-(j+2)<r.length-(j+1);omega,⟨(hsu a ha).1,(hsu a ha).2,cm (j+1) (by omega)⟩,.refl _⟩
  ·have:k=0:=by omega
   subst this
   exact⟨(T,1),⟨hlt,hT'⟩,by show r.length-1<r.length-0;omega,⟨(hsu a ha).1,(hsu a ha).2,cm 0 (by omega)⟩,.refl _⟩
  ·have:k=r.length:=by omega
   subst this
   exact⟨_,T,.refl _,.refl _,hT'⟩
theorem XK(w0:W0)(l:List Int)(S:St)(h:Bd l):aa Tryz.prog w0 167 [dL l] S (fun d S'=>d=dI (atR l)∧S'=S):=by
 refine aZ [] mx Tryz.func167 rfl rfl (by kernel_rfl) ?_;(refine @ab _ ?_;refine an @Tryz.ntmps167 ?_)
 have hs:=h.sum
 have h0:=h.1
 refine ao (IJ w0 _ _ h) ?_
 (refine @ab _ ?_;refine au ?_)
 intro b3 b4
 have es:IntKind.i64.wrap (l.sum+1)=l.sum+1:=aX (by omega) (by omega)
 rw[es]
 refine⟨fun hle=>?_,fun hgt=>?_⟩
 ·unfold atR;rw[if_pos (.inl (by omega))];rfl
 refine bA (RX w0 l _) ?_
 rintro _ _ ⟨b,rfl,rfl⟩
 (refine @ab _ ?_;refine au ?_)
 refine qp [] (fun pre:List Nat=>⟨(b.n,[dL l])::(b4.n,[dI (Uf l pre.length)])::(b3.n,[dI (O8 l pre.length)])::S.box,S.acc⟩) (fun x:Nat=>[dI x,dI (fq l x)]) (Vr (l.length-1)) mx (by kernel_rfl) rfl rfl rfl (fun _=>rfl) (fun _=>rfl) (fun _=>rfl) ?_ ?_ ?_
 ·intro ly w1 hy T hT
  exact SF w1 ly b.n l _ h (fun _=>by(refine @ab _ ?_;exact aV)) hy T hT
 ·intro pre x T hp hT
  obtain⟨rfl,hlt⟩:=Rk hp
  have t3:lk T.box b3.n=some [dI (O8 l pre.length)]:=hT.box _ _ (by(refine @ab _ ?_;exact aV))
  have t4:lk T.box b4.n=some [dI (Uf l pre.length)]:=hT.box _ _ (by(refine @ab _ ?_;exact aV))
  have hne:¬b3.n=b4.n:=by(refine @ab _ ?_;exact aV)
  have hl1:(pre++[pre.length+1]).length=pre.length+1:=by simp
  have hH:=fun v w=>AV (AV hT b3.n [dI v]) b4.n [dI w]
  have hu:∀(v w:Int),up (up ((b.n,[dL l])::(b4.n,[dI (Uf l pre.length)])::(b3.n,[dI (O8 l pre.length)])::S.box) b3.n [dI v]) b4.n [dI w]=(b.n,[dL l])::(b4.n,[dI w])::(b3.n,[dI v])::S.box:=fun v w=>by(refine @ab _ ?_;exact aV)
  have hK:∀v w,Kp ⟨(b.n,[dL l])::(b4.n,[dI (Uf l pre.length)])::(b3.n,[dI (O8 l pre.length)])::S.box,S.acc⟩ T ⟨up (up T.box b3.n v) b4.n w,T.acc⟩:=fun v w=>Sw (by(refine @ab _ ?_;exact aV)) (by(refine @ab _ ?_;exact aV))
  simp only[hu]at hH
  simp only[ji]
  (refine @ab _ ?_;refine ba @t3 @t4 ?_)
  obtain⟨XH,XU⟩:=IH h pre.length
  refine⟨fun hw=>?_,fun hw=>?_⟩
  ·rw[(XH hw).1,(XH hw).2]
   exact⟨hH _ _,hK _ _⟩
  ·rw[(XU hw).1,(XU hw).2]
   exact⟨hT,.refl _ _⟩
 ·(refine @ab _ ?_;refine an @C1 ?_)
  unfold atR
  by_cases h2:l.length<2
  ·rw[if_pos (.inr h2),show l.length-1=0 by omega];rfl
  ·rw[if_neg (by omega)]
   obtain⟨m,hm⟩:∃m,l.length=m+2:=⟨l.length-2,by omega⟩
   rw[hm];rfl
theorem DN(a b:Nat)(h:a+b<2^62):IntKind.i64.wrap ((a:Int)+(b:Int))=((a+b:Nat):Int):=by rw[aX (by omega) (by omega)];omega
@[go_sem] def dR (s:Nat) (l:List DV):DV:= .sl s false l
def fl(rows:List (List DV)):List DV:=rows.flatten
theorem j8{rows:List (List DV)}{k:Nat}{a:List DV}(h:rows[k]? =some a):fl (rows.take (k+1))=fl (rows.take k)++a:=by
 unfold fl
 rw[List.take_add_one,h]
 simp
theorem rA(rows:List (List DV))(k:Nat):(fl (rows.take k)).length≤(fl rows).length:=by
 have:fl rows=fl (rows.take k)++fl (rows.drop k):=by
  unfold fl
  rw[←List.flatten_append,List.take_append_drop]
 rw[this];simp
theorem jv{P:Program}{w0:W0}{f:FuncId}{args:List DV}{S:St}{r:DV}(h1:aa P w0 f args S (fun d S'=>oC S' d fun d S''=>Wk d r∧Aml.Sub S S'')):aa P w0 f args S (fun d S'=>d=r∧S'=S):=by
 intro g vs w k1 k2
 refine(h1 g vs w k1 k2).mono ?_
 rintro e w' ⟨v,g',d,S',q1,q2,q3,q4,q5⟩
 obtain⟨g2,d',S2,p1,p2,p3,p4,p5⟩:=sy q3 q4 q5
 exact⟨v,g2,r,S,q1,q2.trans p1,p2.forget p5.box p5.acc,p4 _ _ p3,rfl,rfl⟩
theorem Vb(w0:W0)(n:Int)(S:St)(h0:0≤n)(h1:n≤1099511627776):aa Tryz.prog w0 245 [.sl 0 true [],dI n] S (fun d S'=>∃l:FN S.acc,d= .acc l.n 0∧S'=⟨S.box,(l.n,.arr 1 [])::S.acc⟩):=by
 refine gU (K':=fun d S'=>(d= .sl 0 true []∧S'=S)∨∃l:FN S.acc,d= .acc l.n 0∧S'=⟨S.box,(l.n,.arr 1 [])::S.acc⟩) ?_ 1 (by omega) ?_
 ·refine mf [] mx Tryz.func245 rfl rfl (by kernel_rfl) ?_;(refine @ab _ ?_;refine an @Tryz.ntmps245 ?_)
  have e1:IntKind.i64.wrap (0-0)=0:=aX (by omega) (by omega)
  rw[e1,Int.sub_zero,aX (by omega) (by omega)]
  refine⟨fun h=>by omega,fun h h2=>⟨by omega,by omega,by omega,fun l=> .inl ⟨⟨_,_,_,rfl⟩,by simp,fun l'=>⟨⟨l'.n,l'.h.2.2⟩,rfl,rfl⟩⟩⟩⟩
 ·rintro d S' (⟨rfl,rfl⟩|h)
  ·exact .inr ⟨⟨0,rfl⟩,fun l hl=>⟨⟨l,hl⟩,rfl,rfl⟩⟩
  ·exact .inl h
theorem wU(w0:W0)(rows:List (List DV))(S:St)(h0:rows.length≤1099511627776)(h1:(fl rows).length≤1048576):
 aa Tryz.prog w0 222 [.sl 1 false (rows.map (dR 1))] S (fun d S'=>d=dR 1 (fl rows)∧S'=S):=by
 refine aZ [] mx Tryz.func222 rfl rfl (by kernel_rfl) ?_;(refine @ab _ ?_;refine an @Tryz.ntmps222 ?_)
 refine aF [] rows.length [0,3,9,10,11] (fun k=>[(3,dI (fl (rows.take k)).length),(11,dI k)]) (fun _=>S) (fun k=>True) mx (by kernel_rfl) ?_ ?_
 ·(refine @ab _ ?_;refine au ?_)
  simp[fl]
 ·intro k hk _
  (refine @ab _ ?_;refine au ?_)
  refine⟨fun hlt=>⟨hlt,fun a ha=>?_⟩,fun hge=>?_⟩
  ·have h2:=j8 ha
   have h3:=rA rows (k+1)
   rw[h2,List.length_append]at h3
   rw[aX (by omega) (by omega)]
   refine⟨fun h=>by omega,fun h=>⟨hlt,?_,aX (by omega) (by omega)⟩⟩
   rw[h2,List.length_append];omega
  ·rw[List.take_of_length_le (by omega)]
   refine bA (Vb w0 (fl rows).length S (by omega) (by omega)) ?_
   rintro d S' ⟨l,rfl,rfl⟩
   (refine @ab _ ?_;refine au ?_)
   refine aF [] rows.length [6,25,26,27] (fun k=>[(6,.acc l.n (fl (rows.take k)).length),(27,dI k)]) (fun k=>⟨S.box,(l.n,.arr 1 (fl (rows.take k)))::S.acc⟩) (fun k=>True) mx (by kernel_rfl) ?_ ?_
   ·(refine @ab _ ?_;refine au ?_)
    simp[fl,Wk.refl,Sub.refl]
   ·intro k hk _
    (refine @ab _ ?_;refine au ?_)
    refine⟨fun hlt=>⟨hlt,fun a ha=>?_⟩,fun hge=>?_⟩
    ·have h2:=j8 ha
     have h3:=rA rows (k+1)
     rw[h2,List.length_append]at h3
     refine⟨by omega,by unfold maxLen;omega,hlt,⟨?_,aX (by omega) (by omega)⟩,?_⟩
     ·rw[h2,List.length_append];exact .refl _
     ·rw[h2];exact .refl _
    ·rw[List.take_of_length_le (by omega)];exact .full _ _ _
theorem uv(w0:W0)(l:List DV)(S:St)(h0:l.length≤1048576):aa Tryz.prog w0 120 [dR 1 l] S fun d S'=>∃b:FN S.acc,d= .acc b.n l.length∧S'=⟨S.box,(b.n,.arr 1 l)::S.acc⟩:=by
 refine Ko 1 (by omega) ?_
 refine mf [] mx Tryz.func120 rfl rfl (by kernel_rfl) ?_;(refine @ab _ ?_;refine an @Tryz.ntmps120 ?_)
 intro b hb
 refine⟨fun h1=> .inl ⟨Classical.byContradiction fun hn=>?_,0,rfl⟩,fun h1=>⟨by omega,by unfold maxLen;omega,fun c=> .inr ⟨c,rfl,rfl⟩⟩⟩
 rw[hb hn]at h1;cases h1
theorem xH(w0:W0)(l:List DV)(S:St)(h0:l.length≤1048576):aa Tryz.prog w0 120 [dR 1 l] S fun d S'=>d=dR 1 l∧S'=S:=by
 refine jv (aa.mono (uv w0 l S h0) ?_)
 rintro d S' ⟨b,rfl,rfl⟩
 (refine @ab _ ?_;exact aV)
theorem Ew(w0:W0)(l m:List DV)(i n:Nat)(f:Bool)(S:St)(hi:i+n≤l.length)(h0:l.length≤524288)(h1:m.length≤524288):aa Tryz.prog w0 171 [dR 1 l,dI i,dI n,.sl 1 f m] S (fun d S'=>d=dR 1 (l.take i++m++l.drop (i+n))∧S'=S):=by
 refine aZ [] mx Tryz.func171 rfl rfl (by kernel_rfl) ?_;(refine @ab _ ?_;refine ba @Tryz.ntmps171 (DN i n (by omega)) ?_)
 have e:fl [l.take i,m,l.drop (i+n)]=l.take i++m++l.drop (i+n):=by simp[fl]
 refine⟨by omega,hi,aS (wU w0 [l.take i,m,l.drop (i+n)] _ (by simp) ?_) ?_ ⟨(Wk.full _ _ _).trans (Wk.sl ⟨.refl _,.full _ _ _,.refl _,trivial⟩),trivial⟩⟩
 ·rw[e];simp only[List.length_append,List.length_take,List.length_drop];omega
 ·rw[e];(refine @ab _ ?_;exact aV)
theorem Vk(w0:W0)(n:Int)(S:St)(h0:0≤n)(h1:n≤1099511627776):aa Tryz.prog w0 246 [.sl 0 true [],dI n] S (fun d S'=>∃l:FN S.acc,d= .acc l.n 0∧S'=⟨S.box,(l.n,.arr 2 [])::S.acc⟩):=by
 refine gU (K':=fun d S'=>(d= .sl 0 true []∧S'=S)∨∃l:FN S.acc,d= .acc l.n 0∧S'=⟨S.box,(l.n,.arr 2 [])::S.acc⟩) ?_ 2 (by omega) ?_
 ·refine mf [] mx Tryz.func246 rfl rfl (by kernel_rfl) ?_;(refine @ab _ ?_;refine an @Tryz.ntmps246 ?_)
  have e1:IntKind.i64.wrap (0-0)=0:=aX (by omega) (by omega)
  rw[e1,Int.sub_zero,aX (by omega) (by omega)]
  refine⟨fun h=>by omega,fun h h2=>⟨by omega,by omega,by omega,fun l=> .inl ⟨⟨_,_,_,rfl⟩,by simp,fun l'=>⟨⟨l'.n,l'.h.2.2⟩,rfl,rfl⟩⟩⟩⟩
 ·rintro d S' (⟨rfl,rfl⟩|h)
  ·exact .inr ⟨⟨0,rfl⟩,fun l hl=>⟨⟨l,hl⟩,rfl,rfl⟩⟩
  ·exact .inl h
theorem yD(w0:W0)(rows:List (List DV))(S:St)(h0:rows.length≤1099511627776)(h1:(fl rows).length≤1048576):
 aa Tryz.prog w0 223 [.sl 1 false (rows.map (dR 2))] S (fun d S'=>d=dR 2 (fl rows)∧S'=S):=by
 refine aZ [] mx Tryz.func223 rfl rfl (by kernel_rfl) ?_;(refine @ab _ ?_;refine an @Tryz.ntmps223 ?_)
 refine aF [] rows.length [0,3,9,10,11] (fun k=>[(3,dI (fl (rows.take k)).length),(11,dI k)]) (fun _=>S) (fun k=>True) mx (by kernel_rfl) ?_ ?_
 ·(refine @ab _ ?_;refine au ?_)
  simp[fl]
 ·intro k hk _
  (refine @ab _ ?_;refine au ?_)
  refine⟨fun hlt=>⟨hlt,fun a ha=>?_⟩,fun hge=>?_⟩
  ·have h2:=j8 ha
   have h3:=rA rows (k+1)
   rw[h2,List.length_append]at h3
   rw[aX (by omega) (by omega)]
   refine⟨fun h=>by omega,fun h=>⟨hlt,?_,aX (by omega) (by omega)⟩⟩
   rw[h2,List.length_append];omega
  ·rw[List.take_of_length_le (by omega)]
   refine bA (Vk w0 (fl rows).length S (by omega) (by omega)) ?_
   rintro d S' ⟨l,rfl,rfl⟩
   (refine @ab _ ?_;refine au ?_)
   refine aF [] rows.length [6,25,26,27] (fun k=>[(6,.acc l.n (fl (rows.take k)).length),(27,dI k)]) (fun k=>⟨S.box,(l.n,.arr 2 (fl (rows.take k)))::S.acc⟩) (fun k=>True) mx (by kernel_rfl) ?_ ?_
   ·(refine @ab _ ?_;refine au ?_)
    simp[fl,Wk.refl,Sub.refl]
   ·intro k hk _
    (refine @ab _ ?_;refine au ?_)
    refine⟨fun hlt=>⟨hlt,fun a ha=>?_⟩,fun hge=>?_⟩
    ·have h2:=j8 ha
     have h3:=rA rows (k+1)
     rw[h2,List.length_append]at h3
     refine⟨by omega,by unfold maxLen;omega,hlt,⟨?_,aX (by omega) (by omega)⟩,?_⟩
     ·rw[h2,List.length_append];exact .refl _
     ·rw[h2];exact .refl _
    ·rw[List.take_of_length_le (by omega)];exact .full _ _ _
theorem xh(w0:W0)(l:List DV)(S:St)(h0:l.length≤1048576):aa Tryz.prog w0 121 [dR 2 l] S fun d S'=>∃b:FN S.acc,d= .acc b.n l.length∧S'=⟨S.box,(b.n,.arr 2 l)::S.acc⟩:=by
 refine Ko 2 (by omega) ?_
 refine mf [] mx Tryz.func121 rfl rfl (by kernel_rfl) ?_;(refine @ab _ ?_;refine an @Tryz.ntmps121 ?_)
 intro b hb
 refine⟨fun h1=> .inl ⟨Classical.byContradiction fun hn=>?_,0,rfl⟩,fun h1=>⟨by omega,by unfold maxLen;omega,fun c=> .inr ⟨c,rfl,rfl⟩⟩⟩
 rw[hb hn]at h1;cases h1
theorem E1(w0:W0)(l:List DV)(S:St)(h0:l.length≤1048576):aa Tryz.prog w0 121 [dR 2 l] S fun d S'=>d=dR 2 l∧S'=S:=by
 refine jv (aa.mono (xh w0 l S h0) ?_)
 rintro d S' ⟨b,rfl,rfl⟩
 (refine @ab _ ?_;exact aV)
theorem Q0(w0:W0)(l m:List DV)(i n:Nat)(f:Bool)(S:St)(hi:i+n≤l.length)(h0:l.length≤524288)(h1:m.length≤524288):aa Tryz.prog w0 172 [dR 2 l,dI i,dI n,.sl 2 f m] S (fun d S'=>d=dR 2 (l.take i++m++l.drop (i+n))∧S'=S):=by
 refine aZ [] mx Tryz.func172 rfl rfl (by kernel_rfl) ?_;(refine @ab _ ?_;refine ba @Tryz.ntmps172 (DN i n (by omega)) ?_)
 have e:fl [l.take i,m,l.drop (i+n)]=l.take i++m++l.drop (i+n):=by simp[fl]
 refine⟨by omega,hi,aS (yD w0 [l.take i,m,l.drop (i+n)] _ (by simp) ?_) ?_ ⟨(Wk.full _ _ _).trans (Wk.sl ⟨.refl _,.full _ _ _,.refl _,trivial⟩),trivial⟩⟩
 ·rw[e];simp only[List.length_append,List.length_take,List.length_drop];omega
 ·rw[e];(refine @ab _ ?_;exact aV)
theorem VK(w0:W0)(n:Int)(S:St)(h0:0≤n)(h1:n≤1099511627776):aa Tryz.prog w0 243 [.sl 0 true [],dI n] S (fun d S'=>∃l:FN S.acc,d= .acc l.n 0∧S'=⟨S.box,(l.n,.arr 5 [])::S.acc⟩):=by
 refine gU (K':=fun d S'=>(d= .sl 0 true []∧S'=S)∨∃l:FN S.acc,d= .acc l.n 0∧S'=⟨S.box,(l.n,.arr 5 [])::S.acc⟩) ?_ 5 (by omega) ?_
 ·refine mf [] mx Tryz.func243 rfl rfl (by kernel_rfl) ?_;(refine @ab _ ?_;refine an @Tryz.ntmps243 ?_)
  have e1:IntKind.i64.wrap (0-0)=0:=aX (by omega) (by omega)
  rw[e1,Int.sub_zero,aX (by omega) (by omega)]
  refine⟨fun h=>by omega,fun h h2=>⟨by omega,by omega,by omega,fun l=> .inl ⟨⟨_,_,_,rfl⟩,by simp,fun l'=>⟨⟨l'.n,l'.h.2.2⟩,rfl,rfl⟩⟩⟩⟩
 ·rintro d S' (⟨rfl,rfl⟩|h)
  ·exact .inr ⟨⟨0,rfl⟩,fun l hl=>⟨⟨l,hl⟩,rfl,rfl⟩⟩
  ·exact .inl h
theorem wZ(w0:W0)(rows:List (List DV))(S:St)(h0:rows.length≤1099511627776)(h1:(fl rows).length≤1048576):
 aa Tryz.prog w0 219 [.sl 1 false (rows.map (dR 5))] S (fun d S'=>d=dR 5 (fl rows)∧S'=S):=by
 refine aZ [] mx Tryz.func219 rfl rfl (by kernel_rfl) ?_;(refine @ab _ ?_;refine an @Tryz.ntmps219 ?_)
 refine aF [] rows.length [0,3,9,10,11] (fun k=>[(3,dI (fl (rows.take k)).length),(11,dI k)]) (fun _=>S) (fun k=>True) mx (by kernel_rfl) ?_ ?_
 ·(refine @ab _ ?_;refine au ?_)
  simp[fl]
 ·intro k hk _
  (refine @ab _ ?_;refine au ?_)
  refine⟨fun hlt=>⟨hlt,fun a ha=>?_⟩,fun hge=>?_⟩
  ·have h2:=j8 ha
   have h3:=rA rows (k+1)
   rw[h2,List.length_append]at h3
   rw[aX (by omega) (by omega)]
   refine⟨fun h=>by omega,fun h=>⟨hlt,?_,aX (by omega) (by omega)⟩⟩
   rw[h2,List.length_append];omega
  ·rw[List.take_of_length_le (by omega)]
   refine bA (VK w0 (fl rows).length S (by omega) (by omega)) ?_
   rintro d S' ⟨l,rfl,rfl⟩
   (refine @ab _ ?_;refine au ?_)
   refine aF [] rows.length [6,25,26,27] (fun k=>[(6,.acc l.n (fl (rows.take k)).length),(27,dI k)]) (fun k=>⟨S.box,(l.n,.arr 5 (fl (rows.take k)))::S.acc⟩) (fun k=>True) mx (by kernel_rfl) ?_ ?_
   ·(refine @ab _ ?_;refine au ?_)
    simp[fl,Wk.refl,Sub.refl]
   ·intro k hk _
    (refine @ab _ ?_;refine au ?_)
    refine⟨fun hlt=>⟨hlt,fun a ha=>?_⟩,fun hge=>?_⟩
    ·have h2:=j8 ha
     have h3:=rA rows (k+1)
     rw[h2,List.length_append]at h3
     refine⟨by omega,by unfold maxLen;omega,hlt,⟨?_,aX (by omega) (by omega)⟩,?_⟩
     ·rw[h2,List.length_append];exact .refl _
     ·rw[h2];exact .refl _
    ·rw[List.take_of_length_le (by omega)];exact .full _ _ _
theorem xL(w0:W0)(l:List DV)(S:St)(h0:l.length≤1048576):aa Tryz.prog w0 125 [dR 5 l] S fun d S'=>∃b:FN S.acc,d= .acc b.n l.length∧S'=⟨S.box,(b.n,.arr 5 l)::S.acc⟩:=by
 refine Ko 5 (by omega) ?_
 refine mf [] mx Tryz.func125 rfl rfl (by kernel_rfl) ?_;(refine @ab _ ?_;refine an @Tryz.ntmps125 ?_)
 intro b hb
 refine⟨fun h1=> .inl ⟨Classical.byContradiction fun hn=>?_,0,rfl⟩,fun h1=>⟨by omega,by unfold maxLen;omega,fun c=> .inr ⟨c,rfl,rfl⟩⟩⟩
 rw[hb hn]at h1;cases h1
theorem Fb(w0:W0)(l:List DV)(S:St)(h0:l.length≤1048576):aa Tryz.prog w0 125 [dR 5 l] S fun d S'=>d=dR 5 l∧S'=S:=by
 refine jv (aa.mono (xL w0 l S h0) ?_)
 rintro d S' ⟨b,rfl,rfl⟩
 (refine @ab _ ?_;exact aV)
theorem swapT(w0:W0)(l m:List DV)(i n:Nat)(f:Bool)(S:St)(hi:i+n≤l.length)(h0:l.length≤524288)(h1:m.length≤524288):aa Tryz.prog w0 169 [dR 5 l,dI i,dI n,.sl 5 f m] S (fun d S'=>d=dR 5 (l.take i++m++l.drop (i+n))∧S'=S):=by
 refine aZ [] mx Tryz.func169 rfl rfl (by kernel_rfl) ?_;(refine @ab _ ?_;refine ba @Tryz.ntmps169 (DN i n (by omega)) ?_)
 have e:fl [l.take i,m,l.drop (i+n)]=l.take i++m++l.drop (i+n):=by simp[fl]
 refine⟨by omega,hi,aS (wZ w0 [l.take i,m,l.drop (i+n)] _ (by simp) ?_) ?_ ⟨(Wk.full _ _ _).trans (Wk.sl ⟨.refl _,.full _ _ _,.refl _,trivial⟩),trivial⟩⟩
 ·rw[e];simp only[List.length_append,List.length_take,List.length_drop];omega
 ·rw[e];(refine @ab _ ?_;exact aV)
theorem ze(a:ByteArray):eS a a=true:=by simp[eS]
theorem Vt(w0:W0)(a:ByteArray)(S:St):aa Tryz.prog w0 244 [dS a] S (fun d S'=>d=dB false∧S'=S):=by
 refine aZ [] mx Tryz.func244 rfl rfl (by kernel_rfl) ?_;(refine @ab _ ?_;exact qd @Tryz.ntmps244 @ze)
theorem Vs(w0:W0)(a:ByteArray)(S:St):aa Tryz.prog w0 221 [dS a] S (fun d S'=>d=dB false∧S'=S):=by
 refine aZ [] mx Tryz.func221 rfl rfl (by kernel_rfl) ?_;(refine @ab _ ?_;exact qd @Tryz.ntmps221 @ze)
theorem Sm(w0:W0)(a b:ByteArray)(S:St):aa Tryz.prog w0 220 [dS a,dS b] S (fun d S'=>d=dB (cH a b)∧S'=S):=by
 refine aZ [] mx Tryz.func220 rfl rfl (by kernel_rfl) ?_;(refine @ab _ ?_;refine an @Tryz.ntmps220 ?_)
 refine ao (Vt w0 a S) ?_
 (refine @ab _ ?_;exact aV)
theorem RM(w0:W0)(n:N)(key:ByteArray)(S:St)(ht:n.l.length≤1048576)(hn:n.l≠[]):aa Tryz.prog w0 124 [eT n,dS key] S (fun d S'=>d=dI (fQ n.l key)∧S'=S):=by
 refine aZ [] mx Tryz.func124 rfl rfl (by kernel_rfl) ?_;(refine @ab _ ?_;refine an @Tryz.ntmps124 ?_)
 have h0:=List.length_pos_iff.2 hn
 intro b
 refine aF [] (n.l.length-1) [1,2,5] (fun k=>[(5,dI ((n.l.length-1-k:Nat):Int))]) (fun _=>⟨(b.n,cT n)::S.box,S.acc⟩) (fun k=>fQ n.l key=l6 n.l key (n.l.length-1-k)) mx (by kernel_rfl) ?_ ?_
 ·simp(maxDischargeDepth:=12) (maxSteps:=1000000) -implicitDefEqProofs only[go_sem,Nat.reduceAdd,Nat.reduceSub,Nat.reduceMul,Nat.reduceLeDiff,Nat.reduceEqDiff,Nat.reduceGT,Nat.reduceBEq,reduceCtorEq,↓reduceIte,Int.reduceToNat,Int.reduceLE,Int.reduceLT,Int.reduceNe,Int.reduceEq,cT]
  exact⟨rfl,by rw[aX (by omega) (by omega)];omega⟩
 ·intro k hk hw
  simp(maxDischargeDepth:=12) (maxSteps:=1000000) -implicitDefEqProofs only[go_sem,Nat.reduceAdd,Nat.reduceSub,Nat.reduceMul,Nat.reduceLeDiff,Nat.reduceEqDiff,Nat.reduceGT,Nat.reduceBEq,reduceCtorEq,↓reduceIte,Int.reduceToNat,Int.reduceLE,Int.reduceLT,Int.reduceNe,Int.reduceEq,cT]
  refine⟨fun hg=>?_,fun hg=>?_⟩
  ·obtain⟨i,hi⟩:∃i,n.l.length-1-k=i+1:=⟨n.l.length-1-k-1,by omega⟩
   have hi':n.l.length-1-(k+1)=i:=by omega
   rw[hi]at hw ⊢
   rw[hi']
   refine⟨by omega,fun a ha=>⟨fun hle=>?_,fun hle=>⟨by omega,?_,?_⟩⟩⟩
   ·rw[hw];simp only[l6,ha,hle];rfl
   ·rw[hw];simp only[l6,ha,hle];rfl
   ·rw[aX (by omega) (by omega)];omega
  ·have:n.l.length-1-k=0:=by omega
   rw[hw,this];rfl
theorem qo(w0:W0)(n:N)(S:St)(h:Ni n)(ht:n.l.length≤1048576):aa Tryz.prog w0 168 [eT n] S (fun d S'=>d=dL (ae n)∧S'=S):=by
 refine aZ [] mx Tryz.func168 rfl rfl (by kernel_rfl) ?_;(refine @ab _ ?_;refine an @Tryz.ntmps168 ?_)
 intro b
 refine nV 3 1 rfl (by omega) fun lb=>?_
 refine aF [] n.l.length [1,3,9,10,11] (fun k=>[(3,.acc lb.n k),(11,dI k)]) (fun k=>⟨(b.n,cT n)::S.box,(lb.n,.arr 1 (((ae n).take k).map dI))::S.acc⟩) (fun _=>True) mx (by kernel_rfl) ?_ ?_
 ·simp(maxDischargeDepth:=12) (maxSteps:=1000000) -implicitDefEqProofs only[go_sem,Nat.reduceAdd,Nat.reduceSub,Nat.reduceMul,Nat.reduceLeDiff,Nat.reduceEqDiff,Nat.reduceGT,Nat.reduceBEq,reduceCtorEq,↓reduceIte,Int.reduceToNat,Int.reduceLE,Int.reduceLT,Int.reduceNe,Int.reduceEq,cT]
 ·intro k hk _
  have hl:(ae n).length=n.l.length:=by unfold ae;rw[List.length_map]
  have hmin:min k (ae n).length=k:=by omega
  simp(maxDischargeDepth:=12) (maxSteps:=1000000) -implicitDefEqProofs only[go_sem,Nat.reduceAdd,Nat.reduceSub,Nat.reduceMul,Nat.reduceLeDiff,Nat.reduceEqDiff,Nat.reduceGT,Nat.reduceBEq,reduceCtorEq,↓reduceIte,Int.reduceToNat,Int.reduceLE,Int.reduceLT,Int.reduceNe,Int.reduceEq,hmin,cT]
  have e2:k<n.l.length→IntKind.i64.wrap ((k:Int)+1)=((k+1:Nat):Int):=fun h=>cm k (by omega)
  refine⟨fun hlt=>⟨hlt,fun a ha=>?_⟩,fun hge=>by rw[List.take_of_length_le (by omega)];exact .full _ _ _⟩
  have hb:=(sG a).1 ((sk n).1 h a (List.mem_of_getElem? ha))
  have hs:(ae n).take (k+1)=(ae n).take k++[aW n.leaf a]:=by
   rw[List.take_add_one];unfold ae;rw[List.getElem?_map,ha];rfl
  have e1:IntKind.i64.wrap (4+(a.key.size:Int))=4+a.key.size:=aX (by omega) (by omega)
  have fin:∀(B:List (Nat×List DV)) (z:Int),z=aW n.leaf a→Aml.Sub ⟨B,(lb.n,.arr 1 (((ae n).take (k+1)).map dI))::S.acc⟩ ⟨B,(lb.n,.arr 1 (((ae n).take k).map dI++[.v (.int .i64 z)]))::S.acc⟩:=fun B z e=>by
   rw[hs,List.map_append,e];exact .refl _
  have hm:k+1≤maxLen:=by unfold maxLen;omega
  have h8:(k+1)*8≤140737488355328:=by omega
  refine⟨fun hlf=>?_,fun hlf=>⟨h8,hm,hlt,e2 hlt,fin _ _ ?_⟩⟩
  ·rw[if_pos hlf]
   refine⟨hlt,fun a3 ha3=>?_⟩
   cases eE ha ha3
   refine ao (Ap w0 _ _) ?_
   (refine @ab _ ?_;refine an @hmin ?_)
   refine⟨fun hn=>⟨h8,hm,hlt,e2 hlt,fin _ _ ?_⟩,fun hn=>⟨fun h4=>?_,fun h4=>⟨h8,hm,hlt,e2 hlt,fin _ _ ?_⟩⟩⟩
   ·unfold aW;rw[if_pos hlf,if_pos (.inl (by omega))];exact aX (by omega) (by omega)
   ·omega
   ·unfold aW;rw[if_pos hlf,if_neg (by omega),aX (n:=3+(a.data.size:Int)) (by omega) (by omega),aX (by omega) (by omega)];omega
  ·unfold aW;rw[if_neg (by rw[hlf];simp)];exact e1
def dH(l:List C)(key:ByteArray):Bool:=match l[bd l key]? with
 |some c=>eS c.key key
 |none=>false
theorem qc{α:Type}{p:α→Bool}:∀{l:List α} {i:Nat},i≤l.length→(∀(x:Nat) c,x<i→l[x]? =some c→p c=true)→(∀c,l[i]? =some c→p c=false)→(l.takeWhile p).length=i
 |[],i,h,_,_=>by simp at h;subst h;rfl
 |a::l,0,_,_,h2=>by
  have:=h2 a rfl
  simp[List.takeWhile_cons,this]
 |a::l,i+1,h,h1,h2=>by
  have ha:=h1 0 a (by omega) rfl
  have ih:=qc (p:=p) (l:=l) (i:=i) (by simpa using h) (fun x c hx hc=>h1 (x+1) c (by omega) (by simpa using hc)) (fun c hc=>h2 c (by simpa using hc))
  simp[List.takeWhile_cons,ha,ih]
theorem qO{l:List C}(h:dm l)(key:ByteArray):∀(i j:Nat) (a b:C),i≤j→l[i]? =some a→l[j]? =some b→cH b.key key=true→cH a.key key=true:=fun i j a b hij ha hb hk=>by
 rcases Nat.lt_or_ge i j with q|q
 ·obtain⟨h1,rfl⟩:=List.getElem?_eq_some_iff.1 ha
  obtain⟨h2,rfl⟩:=List.getElem?_eq_some_iff.1 hb
  exact fO (List.pairwise_iff_getElem.1 h i j h1 h2 q) hk
 ·have:i=j:=by omega
  subst this;cases eE ha hb;exact hk
theorem ET(w0:W0)(l:List C)(key:ByteArray)(S:St)(hl:∀(i j:Nat) (a b:C),i≤j→l[i]? =some a→l[j]? =some b→cH b.key key=true→cH a.key key=true)(hb:l.length≤1073741824):
 aa Tryz.prog w0 170 [.sl 1 false (l.map fun c=>dS c.key),dS key] S (fun d S'=>d= .bD [dI (bd l key),dB (dH l key)]∧S'=S):=by
 refine aZ [] mx Tryz.func170 rfl rfl (by kernel_rfl) ?_;(refine @ab _ ?_;refine an @Tryz.ntmps170 ?_)
 refine jR [] [0,1,6,7,8] (fun s:Nat×Nat=>[(7,dI s.1),(8,dI s.2)]) (fun _=>S) (fun s=>s.1≤s.2∧s.2≤l.length∧(∀(i:Nat) a,i<s.1→l[i]? =some a→cH a.key key=true)∧∀(i:Nat) a,s.2≤i→l[i]? =some a→cH a.key key=false) (fun s=>s.2-s.1) (0,l.length) mx (by kernel_rfl) ?_ ?_
 ·(refine @ab _ ?_;refine au ?_)
  exact⟨Nat.zero_le _,fun i a h=>absurd h (by omega),fun i a h e=>absurd (List.getElem?_eq_some_iff.1 e).1 (by omega)⟩
 ·rintro⟨i,j⟩ ⟨h1,h2,h3,h4⟩
  simp only at h1 h2 h3 h4
  have eh:IntKind.i64.wrap ((IntKind.u64.wrap (IntKind.i64.wrap ((i:Int)+j))).fdiv (2^min 1 64))=(((i+j)/2:Nat):Int):=by
   rw[aX (n:=(i:Int)+j) (by omega) (by omega),gJ (by omega) (by omega),Int.fdiv_eq_ediv_of_nonneg _ (by decide)]
   simp only[show min 1 64=1 from rfl,Int.pow_one]
   rw[aX (by omega) (by omega)]
   omega
  (refine @ab _ ?_;refine an @eh ?_)
  refine⟨fun hlt=>⟨by omega,fun a ha=>ao (Sm w0 a.key key S) ?_⟩,fun hge=>?_⟩
  ·(refine @ab _ ?_;refine an @eh ?_)
   refine⟨fun hap=>⟨((i+j)/2+1,j),⟨by simp only;omega,h2,fun x c hx hc=>?_,h4⟩,by simp only;omega,by rw[aX (by omega) (by omega)];rfl,rfl⟩,fun hap=>⟨(i,(i+j)/2),⟨by simp only;omega,by simp only;omega,h3,fun x c hx hc=>?_⟩,by simp only;omega,rfl,rfl⟩⟩
   ·simp only at hx
    exact hl x ((i+j)/2) c a (by omega) hc ha hap
   ·simp only at hx
    refine Bool.eq_false_iff.2 fun hc'=>?_
    rw[hl ((i+j)/2) x a c hx ha hc hc']at hap;cases hap
  ·have hij:i=j:=by omega
   subst hij
   have hi:bd l key=i:=qc h2 h3 fun c hc=>h4 i c (Nat.le_refl _) hc
   refine⟨fun hlt=>⟨hlt,fun a ha=>⟨fun he=>Wk.bD (.cons (.eq ?_) (.cons (.eq ?_) .nil)),fun he=>⟨hlt,fun c hc=>ao (Vs w0 c.key S) ?_⟩⟩⟩,fun hn=>Wk.bD (.cons (.eq ?_) (.cons (.eq ?_) .nil))⟩
   ·rw[hi]
   ·unfold dH;rw[hi,ha];simp only[he]
   ·(refine @ab _ ?_;refine au ?_)
    unfold dH;rw[hi,ha]
    simp only[he]
    exact Wk.bD (.cons (.refl _) (.cons (.refl _) .nil))
   ·rw[hi]
   ·unfold dH;rw[hi,List.getElem?_eq_none (by omega)]
def dK(l:List C):List DV:=l.map fun c=>dT (aA c)
@[go_sem] theorem iH (l:List C):(dK l).length=l.length:=by unfold dK;rw[List.length_map]
@[go_sem] theorem Xf (l:List C) (i:Nat):(dK l).take i=dK (l.take i):=by unfold dK;rw[List.map_take]
@[go_sem] theorem Xy (l:List C) (i:Nat):(dK l).drop i=dK (l.drop i):=by unfold dK;rw[List.map_drop]
@[go_sem] theorem Zj (l:List C) (i:Nat) (F:DV→Prop):F5 (dK l) i F=∀c,l[i]? =some c→F (eT (aA c)):=by
 unfold dK
 rw[Bq]
 exact propext ⟨fun h c hc=>by have:=(h c hc).2;rwa [jT]at this,fun h c hc=>⟨by rw[jT];rfl,by rw[jT];exact h c hc⟩⟩
@[go_sem] theorem Y6 (l:List C) (i:Nat) (F:DV→Prop):Ev (dK l) i F=(i<l.length∧∀c,l[i]? =some c→F (eT (aA c))):=by
 unfold dK
 rw[yQ]
 exact propext ⟨fun h=>⟨h.1,fun c hc=>by have:=(h.2 c hc).2;rwa [jT]at this⟩,fun h=>⟨h.1,fun c hc=>⟨by rw[jT];rfl,by rw[jT];exact h.2 c hc⟩⟩⟩
theorem ox(l m:List C):dK (l++m)=dK l++dK m:=by unfold dK;rw[List.map_append]
def yN(p:Int)(l:List C):DV:= .agg [dI p,dB false,.sl 1 false (l.map fun c=>dS c.key),.sl 2 false [],.sl 5 false (dK l)]
theorem eB{n:N}(hl:n.leaf=false)(h:∀c,c∈n.l→∃k,c.kid=[k]):eT n=yN n.aq n.l:=by
 unfold eT yN aN
 rw[hl]
 simp only[Bool.false_eq_true,if_false,List.map_nil,zT h,List.map_map]
 rfl
theorem bR{n:N}(hl:n.leaf=true):eT n= .agg [dI n.aq,dB true,.sl 1 false (n.l.map fun c=>dS c.key),.sl 2 false (n.l.map fS),.sl 5 false []]:=by
 unfold eT aN
 rw[hl];rfl
theorem Es(p:Int)(l:List C):Wk (.agg [dI p,dB true,.sl 1 false (l.map fun c=>dS c.key),.sl 2 false (l.map fS),.sl 0 true []]) (eT (.mk p true l)):=by
 rw[bR rfl]
 exact .agg (.cons (.refl _) (.cons (.refl _) (.cons (.refl _) (.cons (.refl _) (.cons (.nil _ _ _) .nil)))))
theorem IU(p:Int)(l:List C)(h:∀c,c∈l→∃k,c.kid=[k]):Wk (.agg [dI p,dB false,.sl 1 false (l.map fun c=>dS c.key),.sl 0 true [],.sl 5 false (dK l)]) (eT (.mk p false l)):=by
 rw[eB (n:= .mk p false l) rfl h]
 exact .agg (.cons (.refl _) (.cons (.refl _) (.cons (.refl _) (.cons (.nil _ _ _) (.cons (.refl _) .nil)))))
theorem vJ{l:List C}{a:C}(h:l[0]? =some a):keyOf l=a.key:=by
 cases l with
 |nil=>cases h
 |cons b l=>cases h;rfl
theorem AJ(key:ByteArray)(l:List C):(l.map fun c=>dS c.key).set 0 (dS key)=(bz key l).map fun c=>dS c.key:=by cases l <;>rfl
theorem AP{key:ByteArray}{l:List C}(h:∀c,c∈l→∃k,c.kid=[k]):∀c,c∈bz key l→∃k,c.kid=[k]:=by
 cases l with
 |nil=>exact h
 |cons b l=>
  intro c hc
  rcases List.mem_cons.1 hc with rfl|hc
  ·exact h b List.mem_cons_self
  ·exact h c (List.mem_cons_of_mem _ hc)
theorem IY(key:ByteArray)(l:List C):dK (bz key l)=dK l:=by cases l <;>rfl
theorem SU(p:Int)(l:List C)(h:∀c,c∈l→∃k,c.kid=[k]):Wk (.agg [dI p,dB false,.sl 1 false ((l.map fun c=>dS c.key).set 0 (.v (.string {data:= #[]}))),.sl 0 true [],.sl 5 false (dK l)]) (eT (.mk p false (bz aJ l))):=by
 have e:DV.v (Value.string {data:= #[]})=dS aJ:=rfl
 rw[e,AJ,←IY aJ]
 exact IU p _ (AP h)
theorem Vz(w0:W0)(n:N)(i:Nat)(S:St)(hn:n.leaf=false→∀c,c∈n.l→∃k,c.kid=[k])(hi:0<i)(hi2:i<n.l.length)(h0:n.l.length≤524288):
 aa Tryz.prog w0 224 [eT n,dI i] S (fun d S'=>d= .bD [eT (.mk 0 n.leaf (n.l.take i)),eT (.mk 0 n.leaf (if n.leaf then n.l.drop i else bz aJ (n.l.drop i))),dS (keyOf (n.l.drop i))]∧S'=S):=by
 cases hl:n.leaf with
 |true=>
  rw[bR hl]
  refine aZ [1,8] mx Tryz.func224 rfl rfl (by kernel_rfl) ?_;(refine @ab _ ?_;refine an @Tryz.ntmps224 ?_)
  intro b b1 b2
  refine Y.l8 [8] [] [0,3,1,2,4,5,6,7,8,9] mx (by kernel_rfl) ?_
  (refine @ab _ ?_;refine au ?_)
  intro b3 b4
  refine⟨by omega,aS (xH w0 ((n.l.take i).map fun c=>dS c.key) _ (by rw[List.length_map,List.length_take];omega)) ?_⟩
  (refine @ab _ ?_;refine au ?_)
  refine⟨by omega,aS (xH w0 ((n.l.drop i).map fun c=>dS c.key) _ (by rw[List.length_map,List.length_drop];omega)) ?_⟩
  (refine @ab _ ?_;refine au ?_)
  refine⟨by omega,fun a ha=>⟨by omega,aS (E1 w0 ((n.l.take i).map fS) _ (by rw[List.length_map,List.length_take];omega)) ?_⟩⟩
  (refine @ab _ ?_;refine au ?_)
  refine⟨by omega,aS (E1 w0 ((n.l.drop i).map fS) _ (by rw[List.length_map,List.length_drop];omega)) ?_⟩
  (refine @ab _ ?_;refine au ?_)
  refine Y.Tz [b1.n,b2.n] [3,4] [] [2,0,1,3,4,5] mx (by kernel_rfl) ?_
  (refine @ab _ ?_;refine au ?_)
  rw[vJ ha]
  exact .bD (.cons (Es 0 _) (.cons (Es 0 _) (.cons (.refl _) .nil)))
 |false=>
  rw[eB hl (hn hl)]
  unfold yN
  refine aZ [1,2,8] mx Tryz.func224 rfl rfl (by kernel_rfl) ?_;(refine @ab _ ?_;refine an @Tryz.ntmps224 ?_)
  intro b b1 b2
  refine Y.l8 [8] [] [0,3,1,2,4,5,6,7,8,9] mx (by kernel_rfl) ?_
  (refine @ab _ ?_;refine au ?_)
  intro b3 b4
  refine Y.l8 [4,9] [] [0,2,5,7,1,3,6,8,4,10,9,11,12,13] mx (by kernel_rfl) ?_
  (refine @ab _ ?_;refine au ?_)
  refine⟨by omega,by omega,bA (uv w0 ((n.l.take i).map fun c=>dS c.key) _ (by rw[List.length_map,List.length_take];omega)) ?_⟩
  rintro d S' ⟨l1,rfl,rfl⟩
  (refine @ab _ ?_;refine au ?_)
  refine bA (uv w0 ((n.l.drop i).map fun c=>dS c.key) _ (by rw[List.length_map,List.length_drop];omega)) ?_
  rintro d S' ⟨l2,rfl,rfl⟩
  (refine @ab _ ?_;refine au ?_)
  refine⟨by omega,by omega,fun a ha=>⟨by omega,aS (Fb w0 (dK (n.l.take i)) _ (by rw[iH,List.length_take];omega)) ?_⟩⟩
  (refine @ab _ ?_;refine au ?_)
  refine⟨by omega,aS (Fb w0 (dK (n.l.drop i)) _ (by rw[iH,List.length_drop];omega)) ?_⟩
  (refine @ab _ ?_;refine au ?_)
  refine⟨by omega,by omega,fun a' ha'=>?_⟩
  refine Y.Tz [b1.n,b2.n] [3,4] [] [2,0,1,3,4,5] mx (by kernel_rfl) ?_
  (refine @ab _ ?_;refine au ?_)
  rw[vJ ha]
  exact .bD (.cons (IU 0 _ fun c hc=>hn hl c (List.mem_of_mem_take hc)) (.cons (SU 0 _ fun c hc=>hn hl c (List.mem_of_mem_drop hc)) (.cons (.refl _) .nil)))
theorem sg{p:Int}{l:List C}{K D:List DV}(h:∀c,c∈l→∃k,c.kid=[k])(hK:K=l.map fun c=>dS c.key)(hD:D=dK l):Wk (.agg [dI p,dB false,.sl 1 false K,.sl 0 true [],.sl 5 false D]) (eT (.mk p false l)):=by
 subst hK;subst hD;exact IU p l h
theorem H8{l:List C}{k:Nat}{c:C}(h:l[k]? =some c)(q:ByteArray)(a b:N):((l.take (k+1)).map fun c=>dS c.key)++[dS q]++((l.drop (k+1)).map fun c=>dS c.key)=(aE l k [af c.key a,af q b]).map fun c=>dS c.key:=by
 unfold aE
 rw[List.map_append,List.map_append,List.take_add_one,h]
 simp[af,C.key]
theorem Hn(l:List C)(k:Nat)(x y:ByteArray)(a b:N):dK (l.take k)++[eT a,eT b]++dK (l.drop (k+1))=dK (aE l k [af x a,af y b]):=by
 unfold aE
 rw[ox,ox,←jT,←jT]
 rfl
theorem CB{l:List C}{k:Nat}{c:C}(h:l[k]? =some c)(a:N):(l.map fun c=>dS c.key)=(aE l k [af c.key a]).map fun c=>dS c.key:=by
 obtain⟨hi,rfl⟩:=List.getElem?_eq_some_iff.1 h
 have e:l.map (fun c=>dS c.key)=(l.take k++l[k]::l.drop (k+1)).map fun c=>dS c.key:=by rw[←List.drop_eq_getElem_cons hi,List.take_append_drop]
 unfold aE
 rw[e,List.map_append,List.map_append,List.map_append,List.map_cons,List.append_assoc]
 rfl
theorem B1(l:List C)(k:Nat)(x:ByteArray)(a:N):dK (l.take k)++[eT a]++dK (l.drop (k+1))=dK (aE l k [af x a]):=by
 unfold aE
 rw[ox,ox,←jT]
 rfl
theorem py{l m:List C}{k:Nat}(h:∀c,c∈l→∃k,c.kid=[k])(hm:∀c,c∈m→∃k,c.kid=[k]):∀c,c∈aE l k m→∃k,c.kid=[k]:=fun c hc=>by
 rcases fU hc with hc|hc
 ·exact h c hc
 ·exact hm c hc
theorem CM(x y:ByteArray)(a b:N):∀c,c∈[af x a,af y b]→∃k,c.kid=[k]:=fun c hc=>by
 simp only[List.mem_cons,List.not_mem_nil,or_false]at hc
 rcases hc with rfl|rfl
 ·exact⟨a,rfl⟩
 ·exact⟨b,rfl⟩
theorem oB(x:ByteArray)(a:N):∀c,c∈[af x a]→∃k,c.kid=[k]:=fun c hc=>by
 simp only[List.mem_singleton]at hc
 subst hc;exact⟨a,rfl⟩
theorem iF{d:Nat}{n:N}(h:Nd d n):n.leaf=false→∀c,c∈n.l→∃k,c.kid=[k]:=by
 cases d with
 |zero=>intro hl;rw[h.1]at hl;cases hl
 |succ d=>intro _ c hc;obtain⟨_,k,hk,_⟩:=h.2.2 c hc;exact⟨k,hk⟩
theorem MD(w0:W0)(d:Nat)(n kid:N)(c:C)(k:Nat)(S:St)(hn:Nd (d+1) n)(hlen:n.l.length≤262144)(hc:n.l[k]? =some c)(hk:c.kid=[kid])(hkl:kid.l.length≤524288):
 aa Tryz.prog w0 173 [eT n,dI k] S (fun d S'=>d= .bD [eT (aU n kid k c.key).1,dB (aU n kid k c.key).2]∧S'=S):=by
 have hone:=iF hn hn.1
 have hlt:=(List.getElem?_eq_some_iff.1 hc).1
 obtain⟨kid',hk',hkn⟩:∃k',c.kid=[k']∧Nd d k':=(hn.2.2 c (List.mem_of_getElem? hc)).2
 rw[hk]at hk';cases hk'
 have hsm:=tA hkn
 generalize hp:aU n kid k c.key=p
 rw[eB hn.1 hone]
 refine aZ [] mx Tryz.func173 rfl rfl (by kernel_rfl) ?_;(refine @ab _ ?_;refine an @Tryz.ntmps173 ?_)
 unfold yN
 (refine @ab _ ?_;refine au ?_)
 intro b b1
 refine⟨hlt,fun a ha=>?_⟩
 cases eE hc ha
 rw[bx hk]
 refine ao (qo w0 kid _ hsm (by omega)) ?_
 (refine @ab _ ?_;refine au ?_)
 refine ao (XK w0 _ _ (lj kid hsm (by omega))) ?_
 (refine @ab _ ?_;refine au ?_)
 refine⟨fun h0=>?_,fun h0=>?_⟩
 ·have e:p=(n,false):=by rw[←hp];unfold aU;simp only;rw[if_pos (by omega)]
  subst e
  exact .bD (.cons (.eq (eB hn.1 hone).symm) (.cons (.refl _) .nil))
 ·have hat:=KL (ae kid) (by omega)
  have hsl:(ae kid).length=kid.l.length:=by unfold ae;rw[List.length_map]
  obtain⟨A,B,q,e,hpart⟩:∃A B q,p=(.mk 0 false (aE n.l k [af c.key A,af q B]),true)∧∀S,aa Tryz.prog w0 224 [eT kid,dI (atR (ae kid))] S (fun d S'=>d= .bD [eT A,eT B,dS q]∧S'=S):=
   ⟨_,_,_,by rw[←hp];unfold aU;simp only;rw[if_neg (by omega)],fun S=>Vz w0 kid (atR (ae kid)) S (iF hkn) (by omega) (by omega) hkl⟩
  refine⟨hlt,fun a ha=>?_⟩
  cases eE hc ha
  rw[bx hk]
  refine ao (hpart _) ?_
  (refine @ab _ ?_;refine au ?_)
  intro b2 b3
  have ew:IntKind.i64.wrap ((k:Int)+1)=((k+1:Nat):Int):=cm k (by omega)
  rw[ew]
  refine aS (Ew w0 (n.l.map fun c=>dS c.key) [dS q] (k+1) 0 _ _ (by rw[List.length_map];omega) (by rw[List.length_map];omega) (by simp)) ?_
  (refine @ab _ ?_;refine au ?_)
  refine aS (swapT w0 (dK n.l) [eT A,eT B] k 1 _ _ (by rw[iH];omega) (by rw[iH];omega) (by simp)) ?_
  (refine @ab _ ?_;refine au ?_)
  subst e
  exact .bD (.cons (sg (py hone (CM _ _ _ _)) (H8 hc _ A B) (Hn _ _ _ _ _ _)) (.cons (.refl _) .nil))
theorem Wj(w0:W0)(d:Nat)(a b:N)(key:ByteArray)(S:St)(ha:Nd d a)(hb:Nd d b)(h0:a.l.length≤262144)(h1:b.l.length≤262144)(hbn:b.leaf=false→b.l≠[]):
 aa Tryz.prog w0 176 [eT a,eT b,dS key] S (fun d S'=>d=eT (bF a b key)∧S'=S):=by
 have hle:=lW ha hb
 generalize hp:bF a b key=p
 cases hl:a.leaf with
 |true=>
  rw[hl]at hle
  rw[bR hl,bR hle.symm]
  refine aZ [] mx Tryz.func176 rfl rfl (by kernel_rfl) ?_;(refine @ab _ ?_;refine an @Tryz.ntmps176 ?_)
  intro b1 b2 b3
  refine ao (xH w0 (b.l.map fun c=>dS c.key) _ (by rw[List.length_map];omega)) ?_
  (refine @ab _ ?_;refine au ?_)
  refine aS (wU w0 [a.l.map (fun c=>dS c.key),b.l.map fun c=>dS c.key] _ (by simp) (by simp[fl];omega)) ?_ ⟨.full _ _ _,trivial⟩
  (refine @ab _ ?_;refine au ?_)
  refine aS (yD w0 [a.l.map fS,b.l.map fS] _ (by simp) (by simp[fl];omega)) ?_ ⟨.full _ _ _,trivial⟩
  (refine @ab _ ?_;refine au ?_)
  refine aS (wZ w0 [[],[]] _ (by simp) (by simp[fl])) ?_ ⟨.full _ _ _,trivial⟩
  (refine @ab _ ?_;refine au ?_)
  have e:eT p= .agg [dI 0,dB true,.sl 1 false (fl [a.l.map fun c=>dS c.key,b.l.map fun c=>dS c.key]),.sl 2 false (fl [a.l.map fS,b.l.map fS]),.sl 5 false (fl [[],[]])]:=by
   rw[←hp];unfold bF;rw[if_pos hle.symm,hl,bR rfl];simp[fl,N.l,N.aq]
  exact .eq e.symm
 |false=>
  rw[hl]at hle
  rw[eB hl (iF ha hl),eB hle.symm (iF hb hle.symm)]
  unfold yN
  refine aZ [4] mx Tryz.func176 rfl rfl (by kernel_rfl) ?_;(refine @ab _ ?_;refine an @Tryz.ntmps176 ?_)
  intro b1 b2 b3
  refine bA (uv w0 (b.l.map fun c=>dS c.key) _ (by rw[List.length_map];omega)) ?_
  rintro d S' ⟨l1,rfl,rfl⟩
  (refine @ab _ ?_;refine au ?_)
  have hpos:=List.length_pos_iff.2 (hbn hle.symm)
  refine⟨by omega,hpos,fun c hc=>?_⟩
  refine lE [] [7] mx (by kernel_rfl) ?_
  (refine @ab _ ?_;refine au ?_)
  refine aS (wU w0 [a.l.map (fun c=>dS c.key),(b.l.map fun c=>dS c.key).set 0 (dS key)] _ (by simp) (by simp[fl];omega)) ?_ ⟨.full _ _ _,trivial⟩
  (refine @ab _ ?_;refine au ?_)
  refine aS (yD w0 [[],[]] _ (by simp) (by simp[fl])) ?_ ⟨.full _ _ _,trivial⟩
  (refine @ab _ ?_;refine au ?_)
  refine aS (wZ w0 [dK a.l,dK b.l] _ (by simp) (by simp[fl,iH];omega)) ?_ ⟨.full _ _ _,trivial⟩
  (refine @ab _ ?_;refine au ?_)
  have e:eT p= .agg [dI 0,dB false,.sl 1 false (fl [a.l.map fun c=>dS c.key,(b.l.map fun c=>dS c.key).set 0 (dS key)]),.sl 2 false (fl [[],[]]),.sl 5 false (fl [dK a.l,dK b.l])]:=by
   rw[←hp];unfold bF;rw[if_neg (by rw[←hle];simp),hl,AJ,←IY key b.l,eB rfl]
   ·unfold yN;simp[fl,N.l,N.aq,ox]
   ·intro c hc
    rcases List.mem_append.1 hc with hc|hc
    ·exact iF ha hl c hc
    ·exact AP (iF hb hle.symm) c hc
  exact .eq e.symm
theorem tg{l m:List C}{j:Nat}(h:j+1<l.length):aE (aE l (j+1) []) j m=l.take j++m++l.drop (j+1+1):=by
 unfold aE
 have e1:(l.take (j+1)).length=j+1:=by rw[List.length_take];omega
 rw[List.append_nil,List.take_append_of_le_length (by omega),List.take_take,show min j (j+1)=j by omega,List.drop_append,e1,List.drop_eq_nil_of_le (by omega)]
 simp
theorem Gs{l:List C}{j:Nat}{c:C}(hj:j+1<l.length)(h:l[j]? =some c)(b:N):((l.take (j+1)).map fun c=>dS c.key)++((l.drop (j+1+1)).map fun c=>dS c.key)=(aE (aE l (j+1) []) j [af c.key b]).map fun c=>dS c.key:=by
 rw[tg hj,List.map_append,List.map_append,List.take_add_one,h]
 simp[af,C.key]
theorem HL{l:List C}{j:Nat}(hj:j+1<l.length)(x:ByteArray)(b:N):dK (l.take j)++[eT b]++dK (l.drop (j+2))=dK (aE (aE l (j+1) []) j [af x b]):=by
 rw[tg hj,ox,ox,←jT]
 rfl
theorem Kd(w0:W0)(d:Nat)(n:N)(k:Nat)(S:St)(hn:Nd (d+1) n)(ht:bw n≤131072)(hk:k<n.l.length):aa Tryz.prog w0 126 [eT n,dI k] S (fun e S'=>e=eT (cC n k)∧S'=S):=by
 have hlen:=df n
 have hone:=iF hn hn.1
 obtain⟨c,kid,hc,e1,e2,hkid,hkey,hnd⟩:=bU hn hk
 have hkt:=gF (List.mem_of_getElem? hc) hkid
 have hkl:=df kid
 have hsm:=tA hnd
 have hm0:cC n k=cC n k:=rfl
 conv at hm0=>rhs;unfold cC
 simp only[e1,e2]at hm0
 generalize hp:aU n kid k c.key=p at hm0
 generalize cC n k=m at hm0
 rw[eB hn.1 hone]
 refine aZ [7,8] mx Tryz.func126 rfl rfl (by kernel_rfl) ?_;(refine @ab _ ?_;refine an @Tryz.ntmps126 ?_)
 unfold yN
 (refine @ab _ ?_;refine au ?_)
 intro b b1
 refine ao (MD w0 d n kid c k _ hn (by omega) hc hkid (by omega)) ?_ ⟨.eq (eB hn.1 hone).symm,.refl _,trivial⟩
 rw[hp]
 (refine @ab _ ?_;refine au ?_)
 intro b2
 refine⟨fun h2=>?_,fun h2=>⟨hk,fun a ha=>?_⟩⟩
 ·rw[if_pos h2]at hm0
  subst hm0
  (refine @ab _ ?_;exact aV)
 ·cases eE hc ha
  rw[if_neg (by rw[h2];simp)]at hm0
  rw[e2]
  refine ao (qo w0 kid _ hsm (by omega)) ?_
  (refine @ab _ ?_;refine au ?_)
  refine ao (TR w0 _ _ (lj kid hsm (by omega))) ?_
  (refine @ab _ ?_;refine au ?_)
  refine⟨fun hlo=>?_,fun hlo=>⟨fun hl2=>?_,fun hl2=>?_⟩⟩
  ·rw[if_pos (by rw[hlo];rfl)]at hm0
   subst hm0
   exact .eq (eB hn.1 hone).symm
  ·rw[if_pos (by rw[hlo,decide_eq_true (by omega)];rfl)]at hm0
   subst hm0
   exact .eq (eB hn.1 hone).symm
  ·rw[if_neg (by rw[hlo,decide_eq_false (by omega)];simp)]at hm0
   refine ao (nbP w0 n.l.length k _ (by omega) (by omega) (by omega) (by omega)) ?_
   obtain⟨j,hj,hnb,hj1⟩:∃j:Nat,(if k+1<n.l.length then k else k-1)=j∧(if WU (n.l.length:Int) k<(k:Int)then WU (n.l.length:Int) k else(k:Int))=(j:Int)∧j+1<n.l.length:=by
    refine⟨_,rfl,?_,?_⟩
    ·unfold WU
     split <;>split <;>split <;>omega
    ·split <;>omega
   rw[hj]at hm0
   (refine @ab _ ?_;refine an @hnb ?_)
   obtain⟨c0,k0,hc0,f1,f2,hk0,hkey0,hnd0⟩:=bU hn (k:=j) (by omega)
   obtain⟨c1,k1,hc1,g1,g2,hk1,hkey1,hnd1⟩:=bU hn hj1
   simp only[f1,f2,g1,g2]at hm0
   have ht0:=gF (List.mem_of_getElem? hc0) hk0
   have ht1:=gF (List.mem_of_getElem? hc1) hk1
   have hl0:=df k0
   have hl1:=df k1
   have ew:IntKind.i64.wrap ((j:Int)+1)=((j+1:Nat):Int):=cm j (by omega)
   refine Y.l8 [] [] [0,2,5,7,8,11,13,14,1,3,4,6,9,10,12,15,16,17,18,19] mx (by kernel_rfl) ?_
   (refine @ab _ ?_;refine an @ew ?_)
   refine⟨by omega,fun x hx=>⟨hj1,fun y hy=>⟨hj1,fun z hz=>?_⟩⟩⟩
   cases eE hc0 hx;cases eE hc1 hy;cases eE hc1 hz
   rw[f2,g2]
   have hbn:k1.leaf=false→k1.l≠[]:=fun hl=>by
    cases d with
    |zero=>rw[hnd1.1]at hl;cases hl
    |succ d=>exact hnd1.2.1
   refine Y.tc (fun T hT=>Wj w0 d k0 k1 c1.key T hnd0 hnd1 (by omega) (by omega) hbn) ?_
   have hbo:=ye hnd0 hnd1 hkey1
   have hbl:(bF k0 k1 c1.key).l.length≤524288:=by
    unfold bF
    simp only[N.eo,List.length_append]
    split
    ·omega
    ·rw[DH];omega
   generalize bF k0 k1 c1.key=bo at*
   have hw1:Nd (d+1) (.mk 0 false (aE n.l (j+1) [])):=iq hn hj1 0 (.inl (by omega)) (fun c hc=>by cases hc)
   have hwl:=cA (m:=[]) hj1
   simp only[List.length_nil]at hwl
   have hw2:=iq hw1 (i:=j) (by simp only[N.eo];omega) 0 (m:=[af c0.key bo]) (.inr (by simp)) fun c hc=>by
    rw[List.mem_singleton]at hc;subst hc;exact dO hkey0 hbo
   have hwc:(aE (aE n.l (j+1) []) j [af c0.key bo])[j]? =some (af c0.key bo):=s9 (by omega)
   have hwn:=cA (l:=aE n.l (j+1) []) (i:=j) (m:=[af c0.key bo]) (by omega)
   simp only[List.length_cons,List.length_nil]at hwn
   simp only[N.eo]at hw2
   have hwk:Wk (.agg [dI 0,dB false,.sl 1 false (((n.l.take (j+1)).map fun c=>dS c.key)++((n.l.drop (j+1+1)).map fun c=>dS c.key)),.sl 0 true [],.sl 5 false (dK (n.l.take j)++[eT bo]++dK (n.l.drop (j+2)))]) (eT (.mk 0 false (aE (aE n.l (j+1) []) j [af c0.key bo]))):=
    sg (py (py hone (fun c hc=>by cases hc)) (oB _ _)) (Gs hj1 hc0 bo) (HL hj1 c0.key bo)
   have hsp:∀T,aa Tryz.prog w0 173 [eT (.mk 0 false (aE (aE n.l (j+1) []) j [af c0.key bo])),dI j] T (fun d S'=>d= .bD [eT m,dB (aU (.mk 0 false (aE (aE n.l (j+1) []) j [af c0.key bo])) bo j c0.key).2]∧S'=T):=fun T=>by
    rw[hm0]
    exact MD w0 d (.mk 0 false (aE (aE n.l (j+1) []) j [af c0.key bo])) bo (af c0.key bo) j T hw2 (by simp only[N.eo];omega) hwc rfl hbl
   generalize (aU (.mk 0 false (aE (aE n.l (j+1) []) j [af c0.key bo])) bo j c0.key).2=pb at hsp
   generalize N.mk 0 false (aE (aE n.l (j+1) []) j [af c0.key bo])=M at hwk hsp
   clear hm0 hw2 hwc hwn hwl hw1
   (refine @ab _ ?_;refine au ?_)
   intro b3
   refine Y.l8 [] [] [0,2,3,5,7,12,1,4,6,8,9,10,11,13,14,15,16,17,18,19] mx (by kernel_rfl) ?_
   (refine @ab _ ?_;refine an @ew ?_)
   refine Y.tc (fun T hT=>Ew w0 (n.l.map fun c=>dS c.key) [] (j+1) 1 false T (by rw[List.length_map];omega) (by rw[List.length_map];omega) (by simp)) ?_ ⟨.refl _,.refl _,.refl _,.nil _ _ _,trivial⟩
   (refine @ab _ ?_;refine au ?_)
   refine Y.tc (fun T hT=>swapT w0 (dK n.l) [eT bo] j 2 true T (by rw[iH];omega) (by rw[iH];omega) (by simp)) ?_
   (refine @ab _ ?_;refine au ?_)
   refine Y.tc (fun T hT=>hsp T) ?_ ⟨?_,.refl _,trivial⟩
   ·(refine @ab _ ?_;exact aV)
   ·rw[List.map_append];exact hwk
theorem La{n:N}{x:DV}(h:eT n=x):Wk (.agg [dI 0,dB false,.sl 1 true [.v (.string {data:= #[]})],.sl 0 true [],.sl 5 true [x]]) (yN 0 [af aJ n]):=by
 have e:yN 0 [af aJ n]= .agg [dI 0,dB false,.sl 1 false [.v (.string {data:= #[]})],.sl 2 false [],.sl 5 false [x]]:=by
  rw[←h,←jT];rfl
 rw[e]
 exact .agg (.cons (.refl _) (.cons (.refl _) (.cons (.full _ _ _) (.cons (.nil _ _ _) (.cons (.full _ _ _) .nil)))))
theorem WZ(w0:W0):∀(d:Nat) (n:N) (S:St),Nd d n→bw n≤131000→aa Tryz.prog w0 115 [eT n] S (fun e S'=>e=eT (jN n)∧S'=S):=by
 have fin:∀(d:Nat) (n:N),Nd d n→bw n≤131000→atR (ae n)≠0→∀T,aa Tryz.prog w0 126 [yN 0 [af aJ n],dI 0] T (fun e S'=>e=eT (cC (.mk 0 false [af aJ n]) 0)∧S'=T):=fun d n hn ht h0 T=>by
  have hM:Nd (d+1) (.mk 0 false [af aJ n]):=⟨rfl,List.cons_ne_nil _ _,fun c hc=>by
   rw[N.eo,List.mem_singleton]at hc;subst hc;exact dO (by rw[bk];omega) hn⟩
  have:=Kd w0 d (.mk 0 false [af aJ n]) 0 T hM (by rw[jW,bj,lA,jF];omega) (Nat.lt_add_one 0)
  rw[eB (n:= .mk 0 false [af aJ n]) rfl (oB _ _)]at this
  exact this
 intro d
 induction d with
 |zero=>
  intro n S hn ht
  have hlen:=df n
  have hsm:=tA hn
  have e1:=cV n (.inl hn.1)
  generalize jN n=m at e1
  have hf:=fin 0 n hn ht
  rw[bR hn.1]at*
  refine aZ [] mx Tryz.func115 rfl rfl (by kernel_rfl) ?_;(refine @ab _ ?_;refine an @Tryz.ntmps115 ?_)
  intro b b1
  refine ao (qo w0 n _ hsm (by omega)) ?_ ⟨.eq (bR hn.1).symm,trivial⟩
  (refine @ab _ ?_;refine au ?_)
  refine ao (XK w0 _ _ (lj n hsm (by omega))) ?_
  (refine @ab _ ?_;refine au ?_)
  refine⟨fun h0=>?_,fun h0=>?_⟩
  ·rw[if_pos (by omega)]at e1
   subst e1
   exact .eq (bR hn.1).symm
  ·rw[if_neg (by omega)]at e1
   subst e1
   refine ao (hf (by omega) _) ?_ ⟨La (bR hn.1),.refl _,trivial⟩
   (refine @ab _ ?_;exact aV)
 |succ d ih=>
  intro n S hn ht
  have hlen:=df n
  have hsm:=tA hn
  have hone:=iF hn hn.1
  generalize hm:jN n=m
  have hf:=fin (d+1) n hn ht
  rw[eB hn.1 hone]at*
  refine aZ [] mx Tryz.func115 rfl rfl (by kernel_rfl) ?_;(refine @ab _ ?_;refine an @Tryz.ntmps115 ?_)
  unfold yN
  (refine @ab _ ?_;refine au ?_)
  intro b b1
  refine⟨fun h1=>⟨by omega,fun c hc=>?_⟩,fun h1=>?_⟩
  ·obtain⟨c',kid,hc',_,e2,hkid,_,hnd⟩:=bU hn (k:=0) (by omega)
   cases eE hc hc'
   have hl:n.l=[c]:=by
    cases h:n.l with
    |nil=>rw[h]at hc;cases hc
    |cons a r=>
     rw[h]at hc h1
     cases r with
     |nil=>cases hc;rfl
     |cons _ _=>simp at h1;omega
   have hkt:=gF (List.mem_of_getElem? hc) hkid
   rw[e2]
   refine ao (ih kid _ hnd (by omega)) ?_
   rw[ku n hn.1 hl hkid]at hm
   rw[hm]
   (refine @ab _ ?_;exact aV)
  ·have e1:=cV n (.inr (by omega))
   rw[hm]at e1
   refine ao (qo w0 n _ hsm (by omega)) ?_ ⟨.eq (eB hn.1 hone).symm,trivial⟩
   (refine @ab _ ?_;refine au ?_)
   refine ao (XK w0 _ _ (lj n hsm (by omega))) ?_
   (refine @ab _ ?_;refine au ?_)
   refine⟨fun h0=>?_,fun h0=>?_⟩
   ·rw[if_pos (by omega)]at e1
    subst e1
    exact .eq (eB hn.1 hone).symm
   ·rw[if_neg (by omega)]at e1
    subst e1
    refine ao (hf (by omega) _) ?_ ⟨La (eB hn.1 hone),.refl _,trivial⟩
    (refine @ab _ ?_;exact aV)
theorem LL{l:List C}(h:dm l)(key:ByteArray):(dH l key=false→l.find? (fun c=>eS c.key key)=none)∧∀c,l[bd l key]? =some c→dH l key=true→l.find? (fun c=>eS c.key key)=some c:=by
 obtain⟨A,B,hl,hA,hB⟩:=qI key h
 have hi:bd l key=A.length:=by rw[hl];exact pV hA hB
 have hg:l[bd l key]? =B[0]? :=by rw[hi,hl,List.getElem?_append_right (Nat.le_refl _),Nat.sub_self]
 have f1:A.find? (fun c=>eS c.key key)=none:=List.find?_eq_none.2 fun x hx=>by
  rw[dc.2 (bH (hA x hx))];simp
 have e:l.find? (fun c=>eS c.key key)=B.find? fun c=>eS c.key key:=by rw[hl,List.find?_append,f1];rfl
 rw[e]
 unfold dH
 rw[hg]
 cases B with
 |nil=>exact⟨fun _=>rfl,fun c hc=>by cases hc⟩
 |cons b B=>
  simp only[List.getElem?_cons_zero]
  refine⟨fun hn=>?_,fun c hc hy=>?_⟩
  ·rw[List.find?_cons,hn]
   refine List.find?_eq_none.2 fun x hx=>?_
   have hr:dm (b::B):=by rw[hl]at h;exact(List.pairwise_append.1 h).2.1
   have h1:cH b.key x.key=true:=(List.pairwise_cons.1 hr).1 x hx
   have h2:mg key b.key=true:=ig.2 (hB b List.mem_cons_self)
   rw[dc.2 (bH (lX h2 h1)).symm];simp
  ·cases hc
   rw[List.find?_cons,hy]
theorem rC{l:List C}{key:ByteArray}(h:dH l key=true)(val:ByteArray):bd l key+1≤l.length∧cO l key val=l.take (bd l key)++[.mk key val [] []]++l.drop (bd l key+1):=by
 unfold dH at h
 unfold cO
 split at h
 ·rename_i c hc
  refine⟨(List.getElem?_eq_some_iff.1 hc).1,?_⟩
  simp only[hc,h,if_true];rfl
 ·cases h
theorem Ee{l:List C}{key:ByteArray}(h:dH l key=false)(val:ByteArray):cO l key val=l.take (bd l key)++[.mk key val [] []]++l.drop (bd l key+0):=by
 unfold dH at h
 unfold cO
 split at h
 ·rename_i c hc
  simp only[hc,h,Bool.false_eq_true,if_false];rfl
 ·rename_i hc
  simp only[hc];rfl
theorem LV(key val:ByteArray):Wk (.sl 2 true [.agg [dS val,.sl 0 true []]]) (.sl 2 true [fS (.mk key val [] [])]):= .sl ⟨.agg (.cons (.refl _) (.cons (.nil _ _ _) .nil)),trivial⟩
theorem Yc(w0:W0)(key val:ByteArray)(hk:key.size≤16)(hv:val.size≤400):∀(d:Nat) (n:N) (S:St),Good d n→bw n+d+8≤131000→aa Tryz.prog w0 116 [eT n,dS key,dS val] S (fun e S'=>e=eT (cj key val n)∧S'=S):=by
 intro d
 induction d with
 |zero=>
  intro n S hg ht
  have hlen:=df n
  rw[fZ key val n hg.1,bR hg.1,bR rfl]
  refine aZ [] mx Tryz.func116 rfl rfl (by kernel_rfl) ?_;(refine @ab _ ?_;refine an @Tryz.ntmps116 ?_)
  intro b b1
  refine ao (ET w0 n.l key _ (qO hg.2.1 key) (by omega)) ?_
  (refine @ab _ ?_;refine au ?_)
  refine⟨fun hy=>?_,fun hno=>?_⟩
  ·obtain⟨hi,hput⟩:=rC hy val
   refine aS (Ew w0 (n.l.map fun c=>dS c.key) [dS key] (bd n.l key) 1 _ _ (by rw[List.length_map];omega) (by rw[List.length_map];omega) (by simp)) ?_
   (refine @ab _ ?_;refine au ?_)
   refine aS (Q0 w0 (n.l.map fS) [fS (.mk key val [] [])] (bd n.l key) 1 true _ (by rw[List.length_map];omega) (by rw[List.length_map];omega) (by simp)) ?_ ⟨.refl _,.refl _,.refl _,LV key val,trivial⟩
   (refine @ab _ ?_;refine au ?_)
   rw[hput]
   simp only[List.map_append,List.map_cons,List.map_nil]
   exact .agg (.cons (.refl _) (.cons (.refl _) (.cons (.refl _) (.cons (.refl _) (.cons (.nil _ _ _) .nil)))))
  ·have hi:=Mj n.l key
   refine aS (Ew w0 (n.l.map fun c=>dS c.key) [dS key] (bd n.l key) 0 _ _ (by rw[List.length_map];omega) (by rw[List.length_map];omega) (by simp)) ?_
   (refine @ab _ ?_;refine au ?_)
   refine aS (Q0 w0 (n.l.map fS) [fS (.mk key val [] [])] (bd n.l key) 0 true _ (by rw[List.length_map];omega) (by rw[List.length_map];omega) (by simp)) ?_ ⟨.refl _,.refl _,.refl _,LV key val,trivial⟩
   (refine @ab _ ?_;refine au ?_)
   rw[Ee hno]
   simp only[List.map_append,List.map_cons,List.map_nil]
   exact .agg (.cons (.refl _) (.cons (.refl _) (.cons (.refl _) (.cons (.refl _) (.cons (.nil _ _ _) .nil)))))
 |succ d ih=>
  intro n S hg ht
  have hn:=az hg
  have hlen:=df n
  have hone:=iF hn hn.1
  have hlt:=gm hg.2.1 key
  obtain⟨c,kid,hc,e1,e2,hkid,hkey,hnd⟩:=bU hn (k:=fQ n.l key) hlt
  obtain⟨-, -,kid',hkid',hgk, -⟩:=hg.2.2.cell c (List.mem_of_getElem? hc)
  rw[hkid]at hkid';cases hkid'
  have hkt:=gF (List.mem_of_getElem? hc) hkid
  have hw:=RM w0 n key
  rw[jQ key val n hg.1 hc hkid]
  have hpt:=sE hk hv hnd
  have hpn:=gB hk hv hnd
  have ihk:=ih kid
  generalize cj key val kid=pk at hpt hpn ihk ⊢
  have hM:=iq hn hlt 0 (m:=[af c.key pk]) (.inr (by simp)) fun c hc=>by
   rw[List.mem_singleton]at hc;subst hc;exact dO hkey hpn
  have hMt:bw (.mk 0 false (aE n.l (fQ n.l key) [af c.key pk]))≤131072:=by
   have:=kC (m:=[af c.key pk]) hc
   rw[jW]
   rw[bj,lA,jF,cK hkid,←aL n]at this
   omega
  have hmend:=fun T=>Kd w0 d _ (fQ n.l key) T hM hMt (by rw[N.eo];have:=cA (m:=[af c.key pk]) hlt;simp at this;omega)
  have hwk:Wk (.agg [dI 0,dB false,.sl 1 false (n.l.map fun c=>dS c.key),.sl 0 true [],.sl 5 false (dK (n.l.take (fQ n.l key))++[eT pk]++dK (n.l.drop (fQ n.l key+1)))]) (eT (.mk 0 false (aE n.l (fQ n.l key) [af c.key pk]))):=
   sg (py hone (oB _ _)) (CB hc pk) (B1 n.l _ c.key pk)
  generalize cC (.mk 0 false (aE n.l (fQ n.l key) [af c.key pk])) (fQ n.l key)=m at hmend ⊢
  generalize N.mk 0 false (aE n.l (fQ n.l key) [af c.key pk])=M at hmend hwk
  clear hM hMt
  rw[eB hn.1 hone]at hw ⊢
  refine aZ [] mx Tryz.func116 rfl rfl (by kernel_rfl) ?_;(refine @ab _ ?_;refine an @Tryz.ntmps116 ?_)
  unfold yN
  (refine @ab _ ?_;refine au ?_)
  intro b b1
  refine ao (hw _ (by omega) hg.2.1) ?_
  (refine @ab _ ?_;refine au ?_)
  refine⟨hlt,fun x hx=>?_⟩
  cases eE hc hx
  rw[e2]
  refine aS (ihk _ hgk (by omega)) ?_
  (refine @ab _ ?_;refine au ?_)
  refine aS (swapT w0 (dK n.l) [eT pk] (fQ n.l key) 1 true _ (by rw[iH];omega) (by rw[iH];omega) (by simp)) ?_
  (refine @ab _ ?_;refine au ?_)
  refine aS (hmend _) ?_ ⟨hwk,.refl _,trivial⟩
  (refine @ab _ ?_;exact aV)
theorem Yu(w0:W0)(key val:ByteArray)(hk:key.size≤16)(hv:val.size≤400)(d:Nat)(n:N)(S:St)(hg:Good d n)(ht:bw n+2*d+16≤131000):aa Tryz.prog w0 65 [eT n,dS key,dS val] S (fun e S'=>e=eT (k7 key val n)∧S'=S):=by
 have h1:=Yc w0 key val hk hv d n
 have h2:=sE hk hv (az hg)
 have h3:=WZ w0 d (cj key val n)
 have h4:=gB hk hv (az hg)
 unfold k7
 generalize cj key val n=p at*
 generalize jN p=q at*
 refine aZ [] mx Tryz.func65 rfl rfl (by kernel_rfl) ?_;(refine @ab _ ?_;refine an @Tryz.ntmps65 ?_)
 intro b b1
 refine ao (h1 _ hg (by omega)) ?_
 (refine @ab _ ?_;refine au ?_)
 refine ao (h3 _ h4 (by omega)) ?_
 (refine @ab _ ?_;exact aV)
theorem Q1(w0:W0)(key:ByteArray)(d:Nat)(n:N)(S:St)(hg:Good d n)(ht:bw n≤131000):aa Tryz.prog w0 117 [eT n,dS key] S (fun e S'=>e= .bD [dS ((cw key n).getD aJ),dB (cw key n).isSome]∧S'=S):=by
 refine aZ [] mx Tryz.func117 rfl rfl (by kernel_rfl) ?_;(refine @ab _ ?_;refine an @Tryz.ntmps117 ?_)
 intro b
 refine jR [] [1,2] (fun s:Nat×N=>[]) (fun s=>⟨(b.n,cT s.2)::S.box,S.acc⟩) (fun s=>Good s.1 s.2∧bw s.2≤131000∧cw key s.2=cw key n) (fun s=>s.1) (d,n) mx (by kernel_rfl) ?_ ?_
 ·simp(maxDischargeDepth:=12) (maxSteps:=1000000) -implicitDefEqProofs only[go_sem,Nat.reduceAdd,Nat.reduceSub,Nat.reduceMul,Nat.reduceLeDiff,Nat.reduceEqDiff,Nat.reduceGT,Nat.reduceBEq,reduceCtorEq,↓reduceIte,Int.reduceToNat,Int.reduceLE,Int.reduceLT,Int.reduceNe,Int.reduceEq,cT]
  exact⟨hg,ht⟩
 ·rintro⟨d,m⟩ ⟨hg,ht,he⟩
  simp only at hg ht he
  have hlen:=df m
  cases d with
  |zero=>
   have hl:=hg.1
   have hf:=LL hg.2.1 key
   rw[←he,oD key m hl]
   simp only[cT,hl,fW hl,if_true]
   (refine @ab _ ?_;refine au ?_)
   refine ao (ET w0 m.l key _ (qO hg.2.1 key) (by omega)) ?_
   (refine @ab _ ?_;refine au ?_)
   refine⟨fun h=>?_,fun h=>?_⟩
   ·rw[hf.1 h];exact .refl _
   ·obtain⟨hi, -⟩:=rC h aJ
    refine⟨by omega,fun a ha=>?_⟩
    rw[hf.2 a ha h];exact .refl _
  |succ d=>
   have hn:=az hg
   have hone:=iF hn hn.1
   have hlt:=gm hg.2.1 key
   obtain⟨c,kid,hc,e1,e2,hkid,hkey,hnd⟩:=bU hn (k:=fQ m.l key) hlt
   obtain⟨-, -,kid',hkid',hgk, -⟩:=hg.2.2.cell c (List.mem_of_getElem? hc)
   rw[hkid]at hkid';cases hkid'
   have hkt:=gF (List.mem_of_getElem? hc) hkid
   have hec:cT m=[dI m.aq,dB false,.sl 1 false (m.l.map fun c=>dS c.key),.sl 2 false [],.sl 5 false (dK m.l)]:=by
    have:=eB hn.1 hone
    unfold eT yN at this
    unfold cT
    exact DV.agg.inj this
   have hw:=RM w0 m key
   rw[eB hn.1 hone]at hw
   rw[hec]
   (refine @ab _ ?_;refine au ?_)
   refine⟨fun _=>aS (hw _ (by omega) hg.2.1) ?_,fun h=>absurd (by omega) h⟩
   (refine @ab _ ?_;refine au ?_)
   refine⟨hlt,fun x hx=>?_⟩
   cases eE hc hx
   rw[e2]
   refine⟨(d,kid),⟨hgk,by show bw kid≤131000;omega,?_⟩,Nat.lt_add_one d,?_⟩
   ·show cw key kid=cw key n
    rw[←he,sQ key m hg.1 hc hkid]
   ·exact .refl _
theorem iB{s:Nat}{xs:List DV}(h:sA s xs)(n:Nat):sA s (xs.take n):=fun d hd=>h d (List.mem_of_mem_take hd)
theorem iv{s:Nat}{xs:List DV}(h:sA s xs)(n:Nat):sA s (xs.drop n):=fun d hd=>h d (List.mem_of_mem_drop hd)
theorem pG{s:Nat}{xs ys:List DV}(h:sA s xs)(k:sA s ys):sA s (xs++ys):=fun d hd=>(List.mem_append.1 hd).elim (h d) (k d)
theorem gn{ds cs:List DV}{o:Nat}(h:o+cs.length≤ds.length):(ct ds o cs).length=ds.length:=by
 unfold ct
 simp only[List.length_append,List.length_take,List.length_drop];omega
theorem np{ds cs:List DV}{o:Nat}(h:o+cs.length≤ds.length):(ct ds o cs).take (o+cs.length)=ds.take o++cs:=by
 unfold ct
 rw[List.take_append_of_le_length (by simp only[List.length_append,List.length_take];omega)]
 exact List.take_of_length_le (by simp only[List.length_append,List.length_take];omega)
theorem pa{ds cs:List DV}{o k:Nat}(hk:k≤o)(h:o+cs.length≤ds.length):(ct ds o cs).take k=ds.take k:=by
 unfold ct
 rw[List.take_append_of_le_length (by simp only[List.length_append,List.length_take];omega),List.take_append_of_le_length (by simp only[List.length_take];omega),List.take_take,Nat.min_eq_left hk]
theorem qm{s c i o:Nat}{xs:List DV}{Z:List DV}(hs:0<s)(he:sA s xs)(hi:i<xs.length)(hc:xs.length≤c)(ho:o=(i+1)*s∨xs.length=i+1)(ho2:o≤c*s)(hZ:Z.length=s):
 i*s+(((gL s c xs).drop o).take ((xs.length-(i+1))*s)).length≤(gL s c xs).length∧
 o+(xs.length-(i+1))*s≤(gL s c xs).length∧
 (ct (gL s c xs) (i*s) (((gL s c xs).drop o).take ((xs.length-(i+1))*s))).length=c*s∧
 (ct (ct (gL s c xs) (i*s) (((gL s c xs).drop o).take ((xs.length-(i+1))*s))) ((xs.length-1)*s) Z).length=c*s∧
 (ct (ct (gL s c xs) (i*s) (((gL s c xs).drop o).take ((xs.length-(i+1))*s))) ((xs.length-1)*s) Z).take ((xs.length-1)*s)=(xs.take i++xs.drop (i+1)).flatMap cd:=by
 have TT:=mr he hc
 have hcs:xs.length*s≤c*s:=Nat.mul_le_mul_right s hc
 have hB:((gL s c xs).drop o).take ((xs.length-(i+1))*s)=(xs.drop (i+1)).flatMap cd:=by
  rcases ho with rfl|ho
  ·have e:xs.flatMap cd=(xs.take (i+1)).flatMap cd++(xs.drop (i+1)).flatMap cd:=by rw[←List.flatMap_append,List.take_append_drop]
   have l1:((xs.take (i+1)).flatMap cd).length=(i+1)*s:=by rw[ic (iB he _),List.length_take];congr 1;omega
   have l2:((xs.drop (i+1)).flatMap cd).length=(xs.length-(i+1))*s:=by rw[ic (iv he _),List.length_drop]
   unfold gL
   rw[e,List.append_assoc,List.drop_append,l1,List.drop_eq_nil_of_le (by omega),List.nil_append,Nat.sub_self,List.drop_zero,List.take_append_of_le_length (by omega),List.take_of_length_le (by omega)]
  ·have h0:xs.drop (i+1)=[]:=List.drop_eq_nil_of_le (by omega)
   rw[h0,show xs.length-(i+1)=0 by omega];simp
 have hBl:((xs.drop (i+1)).flatMap cd).length=(xs.length-(i+1))*s:=by rw[ic (iv he _),List.length_drop]
 rw[hB]
 have h1:i*s+(xs.length-(i+1))*s=(xs.length-1)*s:=by rw[←Nat.add_mul];congr 1;omega
 have h2:(xs.length-1)*s+s=xs.length*s:=by rw[←Nat.succ_mul];congr 1;omega
 have hA:(gL s c xs).take (i*s)=(xs.take i).flatMap cd:=by
  have e:xs.flatMap cd=(xs.take i).flatMap cd++(xs.drop i).flatMap cd:=by rw[←List.flatMap_append,List.take_append_drop]
  have l1:((xs.take i).flatMap cd).length=i*s:=by rw[ic (iB he _),List.length_take];congr 1;omega
  unfold gL
  rw[e,List.append_assoc,List.take_append_of_le_length (by omega),List.take_of_length_le (by omega)]
 have q1:i*s+((xs.drop (i+1)).flatMap cd).length≤(gL s c xs).length:=by rw[hBl,TT];omega
 have q3:=(gn q1).trans TT
 have q4:(xs.length-1)*s+Z.length≤(ct (gL s c xs) (i*s) ((xs.drop (i+1)).flatMap cd)).length:=by rw[q3,hZ];omega
 refine⟨q1,?_,q3,(gn q4).trans q3,?_⟩
 ·rw[TT]
  rcases ho with rfl|ho
  ·rw[←Nat.add_mul,show i+1+(xs.length-(i+1))=xs.length by omega];exact hcs
  ·rw[show xs.length-(i+1)=0 by omega];omega
 ·rw[pa (Nat.le_refl _) q4]
  have:=np q1
  rw[hBl,h1]at this
  rw[this,hA,List.flatMap_append]
theorem XD(w0:W0)(S:St)(l:Nat)(xs:List DV)(i:Nat)(hl:lk S.acc l=some (.arr 1 xs))(he:sA 1 xs)(hi:i<xs.length)(hb:xs.length≤1048576):
 aa Tryz.prog w0 122 [.acc l xs.length,dI i,dI ((i+1:Nat):Int)] S fun d S'=>∃m:FN S.acc,d= .acc m.n (xs.length-1)∧S'=⟨S.box,rB S.acc l (m.n,.arr 1 (xs.take i++xs.drop (i+1)))⟩:=by
 have hyl:(xs.take i++xs.drop (i+1)).length=xs.length-1:=by rw[List.length_append,List.length_take,List.length_drop];omega
 refine(lG (P:=Tryz.prog) (w0:=w0) (K:=fun ys=>ys=xs.take i++xs.drop (i+1)) hl (by intro e;rw[e]at hi;cases hi) (by omega) he fun b c hbn hc1 hc2=>?_).mono ?_
 ·obtain⟨z1,z2,z3,z4,z5⟩:=qm (s:=1) (c:=c) (o:=if c=i+1 then 0 else(i+1)*1) (Z:=iQ (.v (.string ByteArray.empty)) 1) (by omega) he hi hc1 (by split <;>first|(right;omega)|(left;rfl)) (by have:=Nat.mul_le_mul_right 1 (show i+1≤c by omega);split <;>omega) rfl
  have hrow:=mr he hc1
  generalize gL 1 c xs=ds at*
  refine mf [] mx Tryz.func122 rfl rfl (by kernel_rfl) ?_;(refine @ab _ ?_;refine an @Tryz.ntmps122 ?_)
  have e1:i+(xs.length-(i+1))=xs.length-1:=by omega
  have e2:(if c=0 then 0 else 0)=0:=by split <;>rfl
  have e3:xs.length-(xs.length-1)=1:=by omega
  have e4:¬(c=xs.length-1):=by omega
  simp only[e1,e2,e3,e4,Nat.sub_zero,Nat.zero_add,if_false]
  refine⟨by omega,by omega,hc1,fun h=>by omega,fun _=>⟨by omega,by omega,hc1,by omega,by omega,z2,fun h1=>⟨by omega,by omega,?_,?_⟩,fun h1=>by omega⟩⟩
  ·rw[z3]
   have:=Nat.mul_le_mul_right 1 hc1
   omega
  ·refine⟨b,c,_,_,_,rfl,by rw[hyl],by simp only[lk,if_true],rfl,?_,pG (iB he _) (iv he _),?_,z4,by omega,hc2⟩
   ·rw[List.filter_cons_of_neg (by simp)]
    rw[List.filter_eq_self.2 fun p hp=>by simpa using Y.j0 hbn p hp]
    exact List.Sublist.refl _
   ·rw[hyl];exact z5
 ·rintro d S' ⟨ys,m,rfl,rfl,rfl⟩
  exact⟨m,by rw[hyl],rfl⟩
theorem Ye(w0:W0)(S:St)(l:Nat)(xs:List DV)(i:Nat)(hl:lk S.acc l=some (.arr 2 xs))(he:sA 2 xs)(hi:i<xs.length)(hb:xs.length≤1048576):
 aa Tryz.prog w0 123 [.acc l xs.length,dI i,dI ((i+1:Nat):Int)] S fun d S'=>∃m:FN S.acc,d= .acc m.n (xs.length-1)∧S'=⟨S.box,rB S.acc l (m.n,.arr 2 (xs.take i++xs.drop (i+1)))⟩:=by
 have hyl:(xs.take i++xs.drop (i+1)).length=xs.length-1:=by rw[List.length_append,List.length_take,List.length_drop];omega
 refine(lG (P:=Tryz.prog) (w0:=w0) (K:=fun ys=>ys=xs.take i++xs.drop (i+1)) hl (by intro e;rw[e]at hi;cases hi) (by omega) he fun b c hbn hc1 hc2=>?_).mono ?_
 ·obtain⟨z1,z2,z3,z4,z5⟩:=qm (s:=2) (c:=c) (o:=if c=i+1 then 0 else(i+1)*2) (Z:=iQ (.agg [.v (.string ByteArray.empty),.sl 0 true []]) 1) (by omega) he hi hc1 (by split <;>first|(right;omega)|(left;rfl)) (by have:=Nat.mul_le_mul_right 2 (show i+1≤c by omega);split <;>omega) rfl
  have hrow:=mr he hc1
  generalize gL 2 c xs=ds at*
  refine mf [] mx Tryz.func123 rfl rfl (by kernel_rfl) ?_;(refine @ab _ ?_;refine an @Tryz.ntmps123 ?_)
  have e1:i+(xs.length-(i+1))=xs.length-1:=by omega
  have e2:(if c=0 then 0 else 0)=0:=by split <;>rfl
  have e3:xs.length-(xs.length-1)=1:=by omega
  have e4:¬(c=xs.length-1):=by omega
  simp only[e1,e2,e3,e4,Nat.sub_zero,Nat.zero_add,if_false]
  refine⟨by omega,by omega,hc1,fun h=>by omega,fun _=>⟨by omega,by omega,hc1,by omega,by omega,z2,fun h1=>⟨by omega,by omega,?_,?_⟩,fun h1=>by omega⟩⟩
  ·rw[z3]
   have:=Nat.mul_le_mul_right 2 hc1
   omega
  ·refine⟨b,c,_,_,_,rfl,by rw[hyl],by simp only[lk,if_true],rfl,?_,pG (iB he _) (iv he _),?_,z4,by omega,hc2⟩
   ·rw[List.filter_cons_of_neg (by simp)]
    rw[List.filter_eq_self.2 fun p hp=>by simpa using Y.j0 hbn p hp]
    exact List.Sublist.refl _
   ·rw[hyl];exact z5
 ·rintro d S' ⟨ys,m,rfl,rfl,rfl⟩
  exact⟨m,by rw[hyl],rfl⟩
theorem YP(w0:W0)(S:St)(l:Nat)(xs:List DV)(i:Nat)(hl:lk S.acc l=some (.arr 6 xs))(he:sA 6 xs)(hi:i<xs.length)(hb:xs.length≤1048576):
 aa Tryz.prog w0 71 [.acc l xs.length,dI i,dI ((i+1:Nat):Int)] S fun d S'=>∃m:FN S.acc,d= .acc m.n (xs.length-1)∧S'=⟨S.box,rB S.acc l (m.n,.arr 6 (xs.take i++xs.drop (i+1)))⟩:=by
 have hyl:(xs.take i++xs.drop (i+1)).length=xs.length-1:=by rw[List.length_append,List.length_take,List.length_drop];omega
 refine(lG (P:=Tryz.prog) (w0:=w0) (K:=fun ys=>ys=xs.take i++xs.drop (i+1)) hl (by intro e;rw[e]at hi;cases hi) (by omega) he fun b c hbn hc1 hc2=>?_).mono ?_
 ·obtain⟨z1,z2,z3,z4,z5⟩:=qm (s:=6) (c:=c) (o:=if c=i+1 then 0 else(i+1)*6) (Z:=iQ (.agg [.v (.string ByteArray.empty),.v (.int .i64 0),.v (.bool false),.sl 0 true [],.sl 0 true [],.sl 0 true []]) 1) (by omega) he hi hc1 (by split <;>first|(right;omega)|(left;rfl)) (by have:=Nat.mul_le_mul_right 6 (show i+1≤c by omega);split <;>omega) rfl
  have hrow:=mr he hc1
  generalize gL 6 c xs=ds at*
  refine mf [] mx Tryz.func71 rfl rfl (by kernel_rfl) ?_;(refine @ab _ ?_;refine an @Tryz.ntmps71 ?_)
  have e1:i+(xs.length-(i+1))=xs.length-1:=by omega
  have e2:(if c=0 then 0 else 0)=0:=by split <;>rfl
  have e3:xs.length-(xs.length-1)=1:=by omega
  have e4:¬(c=xs.length-1):=by omega
  simp only[e1,e2,e3,e4,Nat.sub_zero,Nat.zero_add,if_false]
  refine⟨by omega,by omega,hc1,fun h=>by omega,fun _=>⟨by omega,by omega,hc1,by omega,by omega,z2,fun h1=>⟨by omega,by omega,?_,?_⟩,fun h1=>by omega⟩⟩
  ·rw[z3]
   have:=Nat.mul_le_mul_right 6 hc1
   omega
  ·refine⟨b,c,_,_,_,rfl,by rw[hyl],by simp only[lk,if_true],rfl,?_,pG (iB he _) (iv he _),?_,z4,by omega,hc2⟩
   ·rw[List.filter_cons_of_neg (by simp)]
    rw[List.filter_eq_self.2 fun p hp=>by simpa using Y.j0 hbn p hp]
    exact List.Sublist.refl _
   ·rw[hyl];exact z5
 ·rintro d S' ⟨ys,m,rfl,rfl,rfl⟩
  exact⟨m,by rw[hyl],rfl⟩
theorem zx(a b:ByteArray):eS a b=eS b a:=by
 cases h:eS b a with
 |true=>rw[cN.1 h];exact jy _
 |false=>exact dc.2 fun e=>by rw[e,jy]at h;cases h
theorem R4(w0:W0)(l:List C)(key:ByteArray)(i:Nat)(c:C)(S:St)(h0:∀(j:Nat) a,j<i→l[j]? =some a→eS a.key key=false)(hc:l[i]? =some c)(he:eS c.key key=true)(hb:l.length≤1048576):
 aa Tryz.prog w0 119 [.sl 1 false (l.map fun c=>dS c.key),dS key] S (fun d S'=>d=dI i∧S'=S):=by
 have hlt:=(List.getElem?_eq_some_iff.1 hc).1
 refine aZ [] mx Tryz.func119 rfl rfl (by kernel_rfl) ?_;(refine @ab _ ?_;refine an @Tryz.ntmps119 ?_)
 refine aF [] i [0,1,7,8] (fun k=>[(8,dI k)]) (fun _=>S) (fun _=>True) mx (by kernel_rfl) ?_ ?_
 ·(refine @ab _ ?_;exact aV)
 ·intro k hk _
  (refine @ab _ ?_;refine au ?_)
  refine⟨fun hl=>⟨hl,fun a ha=>⟨fun h=>?_,fun h=>⟨?_,cm k (by omega)⟩⟩⟩,fun hl=>by omega⟩
  ·rcases Nat.lt_or_ge k i with q|q
   ·have:=h0 k a q ha;rw[zx,h]at this;cases this
   ·have:k=i:=by omega
    subst this;rfl
  ·rcases Nat.lt_or_ge k i with q|q
   ·omega
   ·have:k=i:=by omega
    subst this
    cases eE hc ha
    rw[zx,he]at h;cases h
theorem CT{l:List C}(h:dm l){key:ByteArray}(hf:(l.find? fun c=>eS c.key key).isSome=true):∃i c,l[i]? =some c∧eS c.key key=true∧(∀(j:Nat) a,j<i→l[j]? =some a→eS a.key key=false)∧(l.filter fun c=>!eS c.key key)=l.take i++l.drop (i+1):=by
 obtain⟨A,B,hl,hA,hB⟩:=qI key h
 have hn:∀a,a∈A→eS a.key key=false:=fun a ha=>dc.2 (bH (hA a ha))
 have f1:A.find? (fun c=>eS c.key key)=none:=List.find?_eq_none.2 fun x hx=>by rw[hn x hx];simp
 rw[hl,List.find?_append,f1]at hf
 cases B with
 |nil=>simp at hf
 |cons b B=>
  have hr:dm (b::B):=by rw[hl]at h;exact(List.pairwise_append.1 h).2.1
  have hb1:∀x,x∈B→eS x.key key=false:=fun x hx=>by
   have h1:cH b.key x.key=true:=(List.pairwise_cons.1 hr).1 x hx
   have h2:mg key b.key=true:=ig.2 (hB b List.mem_cons_self)
   exact dc.2 (bH (lX h2 h1)).symm
  have hb:eS b.key key=true:=by
   cases hq:eS b.key key with
   |true=>rfl
   |false=>
    have:(b::B).find? (fun c=>eS c.key key)=none:=List.find?_eq_none.2 fun x hx=>by
     rcases List.mem_cons.1 hx with rfl|hx
     ·rw[hq];simp
     ·rw[hb1 x hx];simp
    rw[this]at hf;simp at hf
  refine⟨A.length,b,by rw[hl];simp,hb,fun j a hj ha=>?_,?_⟩
  ·rw[hl,List.getElem?_append_left hj]at ha
   exact hn a (List.mem_of_getElem? ha)
  ·rw[hl,List.filter_append,List.filter_cons,hb,eQ (fun a ha=>by rw[hn a ha];rfl),eQ (l:=B) (fun a ha=>by rw[hb1 a ha];rfl)]
   simp
theorem Mz(l:List C):sA 1 (l.map fun c=>dS c.key):=fun d hd=>by
 obtain⟨c,_,rfl⟩:=List.mem_map.1 hd;exact⟨rfl,rfl⟩
theorem JA(l:List C):sA 2 (l.map fS):=fun d hd=>by
 obtain⟨c,_,rfl⟩:=List.mem_map.1 hd;exact⟨rfl,rfl⟩
def Xn(k b:Nat):DV:= .v (.func (.func 118) #[] #[.pointer (some ⟨k,0,none⟩),.pointer (some ⟨b,0,none⟩)])
theorem U1(w0:W0)(key:ByteArray)(k3 b8:Nat):∀(d:Nat) (n:N) (S:St),Good d n→bw n+d≤131000→(cw key n).isSome=true→lk S.box k3=some [dS key]→lk S.box b8=some [Xn k3 b8]→
 aa Tryz.prog w0 118 [eT n,.v (.pointer (some ⟨k3,0,none⟩)),.v (.pointer (some ⟨b8,0,none⟩))] S (fun e S'=>e=eT (aD key n)∧S'=S):=by
 intro d
 induction d with
 |zero=>
  intro n S hg ht hf t3 t8
  have hlen:=df n
  rw[oD key n hg.1]at hf
  obtain⟨i,c,hc,hce,h0,hflt⟩:=CT hg.2.1 (by simpa using hf)
  have hlt:=(List.getElem?_eq_some_iff.1 hc).1
  rw[cb key n hg.1,hflt,bR hg.1,bR rfl]
  refine aZ [3] mx Tryz.func118 rfl rfl (by kernel_rfl) ?_;simp only[Tryz.ntmps118,List.length_cons,List.length_nil,Nat.reduceAdd,Nat.reduceSub,List.reduceReplicate,List.cons_append,List.nil_append];(refine @ab _ ?_;refine eW @Tryz.ntmps118 @t3 @t8 ?_)
  intro b b1
  refine ao (R4 w0 n.l key i c _ h0 hc hce (by omega)) ?_
  (refine @ab _ ?_;refine ba @t3 @t8 ?_)
  refine Y.l8 [2,5] [] [0,3,1,4,2,5,6,7] mx (by kernel_rfl) ?_
  (refine @ab _ ?_;refine ba @t3 @t8 ?_)
  refine bA (uv w0 (n.l.map fun c=>dS c.key) _ (by rw[List.length_map];omega)) ?_
  rintro d S' ⟨l1,rfl,rfl⟩
  (refine @ab _ ?_;refine ba @t3 @t8 ?_)
  refine bA (xh w0 (n.l.map fS) _ (by rw[List.length_map];omega)) ?_
  rintro d S' ⟨l2,rfl,rfl⟩
  (refine @ab _ ?_;refine ba @t3 @t8 ?_)
  rw[cm i (by omega)]
  refine .inl (bA (XD w0 _ l1.n (n.l.map fun c=>dS c.key) i (by(refine @ab _ ?_;exact aV)) (Mz _) (by rw[List.length_map];exact hlt) (by rw[List.length_map];omega)) ?_ ⟨.eq (by rw[List.length_map]),.refl _,.refl _,trivial⟩)
  rintro d S' ⟨m1,rfl,rfl⟩
  (refine @ab _ ?_;refine ba @t3 @t8 ?_)
  rw[cm i (by omega)]
  refine .inl (bA (Ye w0 _ l2.n (n.l.map fS) i (by(refine @ab _ ?_;exact aV)) (JA _) (by rw[List.length_map];exact hlt) (by rw[List.length_map];omega)) ?_ ⟨.eq (by rw[List.length_map]),.refl _,.refl _,trivial⟩)
  rintro d S' ⟨m2,rfl,rfl⟩
  (refine @ab _ ?_;refine ba @t3 @t8 ?_)
  omega
 |succ d ih=>
  intro n S hg ht hf t3 t8
  have hn:=az hg
  have hlen:=df n
  have hone:=iF hn hn.1
  have hlt:=gm hg.2.1 key
  obtain⟨c,kid,hc,e1,e2,hkid,hkey,hnd⟩:=bU hn (k:=fQ n.l key) hlt
  obtain⟨-, -,kid',hkid',hgk, -⟩:=hg.2.2.cell c (List.mem_of_getElem? hc)
  rw[hkid]at hkid';cases hkid'
  have hkt:=gF (List.mem_of_getElem? hc) hkid
  have hw:=RM w0 n key
  rw[sQ key n hg.1 hc hkid]at hf
  rw[fb key n hg.1 hc hkid]
  have hpt:=jS (key:=key) hnd
  have hpn:=cE (key:=key) hnd
  have ihk:=ih kid
  generalize aD key kid=pk at hpt hpn ihk ⊢
  generalize hc':C.mk c.key c.data c.ak [pk]=c'
  have hsh:SG c'∧∃k,c'.kid=[k]∧Nd d k:=by
   obtain⟨q1,_⟩:=hn.2.2 c (List.mem_of_getElem? hc)
   subst hc'
   exact⟨q1,pk,rfl,hpn⟩
  have hM:=ri hn hlt hsh
  have hMt:bw (.mk 0 false (n.l.set (fQ n.l key) c'))≤131072:=by
   have:=Ey (c':=c') hc
   rw[jW]
   have e3:lJ c'=1+bw pk:=by subst hc';exact cK rfl
   rw[e3,cK hkid,←aL n]at this
   omega
  have hmend:=fun T=>Kd w0 d _ (fQ n.l key) T hM hMt (by rw[N.eo,List.length_set];exact hlt)
  have hkeys:(n.l.map fun c=>dS c.key)=(n.l.set (fQ n.l key) c').map fun c=>dS c.key:=by
   rw[List.map_set]
   refine(List.ext_getElem? fun j=>?_)
   rw[List.getElem?_set]
   split
   ·rename_i e;subst e
    rw[List.getElem?_map,hc];subst hc'
    simp[hlt,C.key]
   ·rfl
  have hkids:(dK n.l).set (fQ n.l key) (eT pk)=dK (n.l.set (fQ n.l key) c'):=by
   unfold dK
   rw[List.map_set,←jT]
   subst hc';rfl
  have hones:∀x,x∈n.l.set (fQ n.l key) c'→∃k,x.kid=[k]:=fun x hx=>by
   rcases mem_set hx with hx|rfl
   ·exact hone x hx
   ·obtain⟨k,hk,_⟩:=hsh.2;exact⟨k,hk⟩
  have hwk:Wk (.agg [dI 0,dB false,.sl 1 false (n.l.map fun c=>dS c.key),.sl 0 true [],.sl 5 false ((dK n.l).set (fQ n.l key) (eT pk))]) (eT (.mk 0 false (n.l.set (fQ n.l key) c'))):=sg hones hkeys hkids
  generalize cC (.mk 0 false (n.l.set (fQ n.l key) c')) (fQ n.l key)=m at hmend ⊢
  generalize N.mk 0 false (n.l.set (fQ n.l key) c')=M at hmend hwk
  clear hM hMt
  rw[eB hn.1 hone]at hw ⊢
  refine aZ [] mx Tryz.func118 rfl rfl (by kernel_rfl) ?_;simp only[Tryz.ntmps118,List.length_cons,List.length_nil,Nat.reduceAdd,Nat.reduceSub,List.reduceReplicate,List.cons_append,List.nil_append];(refine @ab _ ?_;refine eW @Tryz.ntmps118 @t3 @t8 ?_)
  unfold yN
  (refine @ab _ ?_;refine ba @t3 @t8 ?_)
  intro b b1
  refine ao (hw _ (by omega) hg.2.1) ?_
  (refine @ab _ ?_;refine ba @t3 @t8 ?_)
  refine bA (xL w0 (dK n.l) _ (by rw[iH];omega)) ?_
  rintro d' S' ⟨l1,rfl,rfl⟩
  simp(maxDischargeDepth:=12) (maxSteps:=1000000) -implicitDefEqProofs only[go_sem,Nat.reduceAdd,Nat.reduceSub,Nat.reduceMul,Nat.reduceLeDiff,Nat.reduceEqDiff,Nat.reduceGT,Nat.reduceBEq,reduceCtorEq,↓reduceIte,Int.reduceToNat,Int.reduceLE,Int.reduceLT,Int.reduceNe,Int.reduceEq,t3,t8,Xn]
  refine⟨hlt,fun x hx=>?_⟩
  cases eE hc hx
  rw[e2]
  refine aS (ihk _ hgk (by omega) hf (by simp(maxDischargeDepth:=12) (maxSteps:=1000000) -implicitDefEqProofs only[go_sem,Nat.reduceAdd,Nat.reduceSub,Nat.reduceMul,Nat.reduceLeDiff,Nat.reduceEqDiff,Nat.reduceGT,Nat.reduceBEq,reduceCtorEq,↓reduceIte,Int.reduceToNat,Int.reduceLE,Int.reduceLT,Int.reduceNe,Int.reduceEq,t3]) (by simp(maxDischargeDepth:=12) (maxSteps:=1000000) -implicitDefEqProofs only[go_sem,Nat.reduceAdd,Nat.reduceSub,Nat.reduceMul,Nat.reduceLeDiff,Nat.reduceEqDiff,Nat.reduceGT,Nat.reduceBEq,reduceCtorEq,↓reduceIte,Int.reduceToNat,Int.reduceLE,Int.reduceLT,Int.reduceNe,Int.reduceEq,t8,Xn])) ?_
  (refine @ab _ ?_;refine au ?_)
  refine⟨hlt,hlt,fun y hy=>?_⟩
  refine ao (hmend _) ?_ ⟨hwk,.refl _,trivial⟩
  (refine @ab _ ?_;exact aV)
def l5:N:= .mk 0 true []
theorem wX:Good 0 l5:=⟨rfl,List.Pairwise.nil,fun c hc=>by cases hc⟩
theorem xk:gQ l5:=⟨0,wX,by decide,.inl rfl⟩
theorem Yw(w0:W0)(S:St):aa Tryz.prog w0 64 [] S (fun e S'=>e=eT l5∧S'=S):=by
 refine aZ [] mx Tryz.func64 rfl rfl (by kernel_rfl) ?_;(refine @ab _ ?_;refine an @Tryz.ntmps64 ?_)
 intro b
 exact .agg (.cons (.refl _) (.cons (.refl _) (.cons (.nil _ _ _) (.cons (.nil _ _ _) (.cons (.nil _ _ _) .nil)))))
theorem PH{key:ByteArray}{l:List C}(h:dm l)(ha:∀c,c∈l→c.key=key):l.length≤1:=by
 cases l with
 |nil=>simp
 |cons a l=>
  cases l with
  |nil=>simp
  |cons b l=>
   have h1:cH a.key b.key=true:=(List.pairwise_cons.1 h).1 b List.mem_cons_self
   rw[ha a List.mem_cons_self,ha b (List.mem_cons_of_mem _ List.mem_cons_self),cI]at h1
   cases h1
theorem vR{key:ByteArray}{n:N}(h:gQ n)(hf:(cw key n).isSome=true)(hl:(l9 key n).l=[]):l9 key n=l5:=by
 have hen:=(pn key h).2
 obtain⟨d,hg,hs,h2⟩:=h
 cases d with
 |zero=>
  unfold l9 at hl ⊢
  rw[if_pos hf]at hl ⊢
  rw[cb key n hg.1]at hl ⊢
  have e1:=cV (.mk 0 true (n.l.filter fun c=>!eS c.key key)) (.inl rfl)
  split at e1
  ·rw[e1]at hl ⊢
   rw[N.eo]at hl
   rw[hl];rfl
  ·rw[e1]at hl
   have hnd:Nd 0 (.mk 0 true (n.l.filter fun c=>!eS c.key key)):=by
    have:=cE (key:=key) (az hg)
    rwa [cb key n hg.1]at this
   have hM:Nd 1 (.mk 0 false [af aJ (.mk 0 true (n.l.filter fun c=>!eS c.key key))]):=⟨rfl,List.cons_ne_nil _ _,fun c hc=>by
    rw[N.eo,List.mem_singleton]at hc;subst hc;exact dO (by rw[bk];omega) hnd⟩
   have:=(sM hM (Nat.lt_add_one 0)).2.1
   exact absurd hl this
 |succ d=>
  exfalso
  rw[cF,hl,List.flatMap_nil]at hen
  have hlen:2≤n.l.length:=h2.resolve_left (by rw[hg.1];simp)
  have hall:∀c,c∈di n→c.key=key:=fun c hc=>by
   have:=List.filter_eq_nil_iff.1 hen.symm c hc
   simp at this
   exact cN.1 this
  have h1:=PH (vz hg) hall
  rw[cF,hg.1]at h1
  match hn:n.l,hlen with
  |a::b::r,_=>
   obtain⟨x,hx⟩:=lL (hg.2.2.cell a (by rw[hn];exact List.mem_cons_self))
   obtain⟨y,hy⟩:=lL (hg.2.2.cell b (by rw[hn];exact List.mem_cons_of_mem _ List.mem_cons_self))
   rw[hn,List.flatMap_cons,List.flatMap_cons]at h1
   have p1:=List.length_pos_of_mem hx
   have p2:=List.length_pos_of_mem hy
   simp only[List.length_append]at h1
   omega
theorem XX(w0:W0)(key:ByteArray)(n:N)(S:St)(h:gQ n)(ht:∀d,Nd d n→bw n+2*d+16≤131000):aa Tryz.prog w0 70 [eT n,dS key] S (fun e S'=>e= .bD [eT (l9 key n),dB (cw key n).isSome]∧S'=S):=by
 have hde:=vR (key:=key) h
 obtain⟨d,hg,hs,h2⟩:=h
 have hn:=az hg
 have htd:=ht d hn
 have h1:=fun S=>Q1 w0 key d n S hg (by omega)
 have h3:=fun k b S=>U1 w0 key k b d n S hg (by omega)
 have h4:=jS (key:=key) hn
 have h5:=fun S=>WZ w0 d (aD key n) S (cE hn) (by omega)
 have hDel:(cw key n).isSome=true→l9 key n=jN (aD key n):=fun hf=>by unfold l9;rw[if_pos hf]
 have hDel0:(cw key n).isSome=false→l9 key n=n:=fun hf=>by unfold l9;rw[if_neg (by rw[hf];simp)]
 generalize l9 key n=D at*
 generalize jN (aD key n)=q at*
 generalize aD key n=p at*
 generalize cw key n=fo at*
 refine aZ [] mx Tryz.func70 rfl rfl (by kernel_rfl) ?_;(refine @ab _ ?_;refine an @Tryz.ntmps70 ?_)
 intro b b1 b2
 refine ao (h1 _) ?_
 (refine @ab _ ?_;refine au ?_)
 refine⟨fun hy b3=>?_,fun hno=>?_⟩
 ·rw[hDel hy]at hde ⊢
  refine ao (h3 b1.n b3.n _ hy (by simp(maxDischargeDepth:=12) (maxSteps:=1000000) -implicitDefEqProofs only[go_sem,Nat.reduceAdd,Nat.reduceSub,Nat.reduceMul,Nat.reduceLeDiff,Nat.reduceEqDiff,Nat.reduceGT,Nat.reduceBEq,reduceCtorEq,↓reduceIte,Int.reduceToNat,Int.reduceLE,Int.reduceLT,Int.reduceNe,Int.reduceEq]) (by simp(maxDischargeDepth:=12) (maxSteps:=1000000) -implicitDefEqProofs only[go_sem,Nat.reduceAdd,Nat.reduceSub,Nat.reduceMul,Nat.reduceLeDiff,Nat.reduceEqDiff,Nat.reduceGT,Nat.reduceBEq,reduceCtorEq,↓reduceIte,Int.reduceToNat,Int.reduceLE,Int.reduceLT,Int.reduceNe,Int.reduceEq,Xn])) ?_
  (refine @ab _ ?_;refine au ?_)
  refine ao (h5 _) ?_
  (refine @ab _ ?_;refine au ?_)
  intro b4
  refine⟨fun hz=>?_,fun _=>by rw[hy];exact .refl _⟩
  have hq:=hde hy (List.eq_nil_of_length_eq_zero (by omega))
  refine ao (Yw w0 _) ?_
  (refine @ab _ ?_;refine au ?_)
  rw[hy,hq];exact .refl _
 ·rw[hDel0 hno,hno];exact .refl _
@[go_sem] def lP (c:C):DV:= .agg [dS c.key,dI (aA c).aq,dB (aA c).leaf,.sl 1 false ((aA c).l.map fun c=>dS c.key),.sl 2 false ((if(aA c).leaf then(aA c).l else []).map fS),.sl 5 false ((aN (aA c)).map dT)]
@[go_sem] def eV (n:N) (l:List C):DV:= .agg [dI n.aq,dB n.leaf,.sl 1 false (n.l.map fun c=>dS c.key),.sl 2 false ((if n.leaf then n.l else []).map fS),.sl 5 false ((aN n).map dT),.sl 6 false (l.map lP)]
theorem OS(a b:ByteArray):xp a b<0↔cH a b=true:=by
 show(if cH a b=true then(-1:Int)else if cH b a=true then 1 else 0)<0↔_
 split
 ·rename_i h;simp[h]
 ·rename_i h
  constructor
  ·intro k;split at k <;>omega
  ·intro k;exact absurd k h
theorem PQ(a b:ByteArray):xp a b=0↔eS a b=true:=by
 show(if cH a b=true then(-1:Int)else if cH b a=true then 1 else 0)=0↔_
 split
 ·rename_i h
  rw[dc.2 (bH h)];simp
 ·rename_i h
  split
  ·rename_i k
   rw[dc.2 (bH k).symm];simp
  ·rename_i k
   rcases nu a b with q|rfl|q
   ·exact absurd q h
   ·simp[jy]
   ·exact absurd q k
theorem XM(w0:W0)(a b:ByteArray)(S:St):aa Tryz.prog w0 112 [dS a,dS b] S (fun d S'=>d=dI (xp a b)∧S'=S):=by
 refine aZ [] mx Tryz.func112 rfl rfl (by kernel_rfl) ?_;(refine @ab _ ?_;refine an @Tryz.ntmps112 ?_)
 refine ao (r:=dI (xp a b)) ?_ ?_
 ·refine aZ [] mx Tryz.func165 rfl rfl (by kernel_rfl) ?_;(refine @ab _ ?_;refine an @Tryz.ntmps165 ?_)
  refine XP Tryz.func214 (by kernel_rfl) rfl (by kernel_rfl) (by kernel_rfl) _ _ _ ?_
  (refine @ab _ ?_;exact aV)
 ·(refine @ab _ ?_;exact aV)
theorem WC(w0:W0)(c:C)(key:ByteArray)(S:St):aa Tryz.prog w0 111 [lP c,dS key] S (fun d S'=>d=dI (xp c.key key)∧S'=S):=by
 refine aZ [] mx Tryz.func111 rfl rfl (by kernel_rfl) ?_;(refine @ab _ ?_;refine an @Tryz.ntmps111 ?_)
 intro b
 refine ao (XM w0 _ _ _) ?_
 (refine @ab _ ?_;exact aV)
theorem No(w0:W0)(l:List C)(key:ByteArray)(S:St)(hr:dm l)(hb:l.length≤1073741824):
 aa Tryz.prog w0 110 [.sl 6 false (l.map lP),dS key,.v (.func (.func 111) #[] #[])] S (fun d S'=>d= .bD [dI (bd l key),dB (dH l key)]∧S'=S):=by
 have hl:=qO hr key
 refine aZ [] mx Tryz.func110 rfl rfl (by kernel_rfl) ?_;(refine @ab _ ?_;refine an @Tryz.ntmps110 ?_)
 refine jR [] [0,1,2,8,9,10] (fun s:Nat×Nat=>[(9,dI s.1),(10,dI s.2)]) (fun _=>S) (fun s=>s.1≤s.2∧s.2≤l.length∧(∀(i:Nat) a,i<s.1→l[i]? =some a→cH a.key key=true)∧∀(i:Nat) a,s.2≤i→l[i]? =some a→cH a.key key=false) (fun s=>s.2-s.1) (0,l.length) mx (by kernel_rfl) ?_ ?_
 ·(refine @ab _ ?_;refine au ?_)
  exact⟨Nat.zero_le _,fun i a h=>absurd h (by omega),fun i a h e=>absurd (List.getElem?_eq_some_iff.1 e).1 (by omega)⟩
 ·rintro⟨i,j⟩ ⟨h1,h2,h3,h4⟩
  simp only at h1 h2 h3 h4
  have eh:IntKind.i64.wrap ((IntKind.u64.wrap (IntKind.i64.wrap ((i:Int)+j))).fdiv (2^min 1 64))=(((i+j)/2:Nat):Int):=by
   rw[aX (n:=(i:Int)+j) (by omega) (by omega),gJ (by omega) (by omega),Int.fdiv_eq_ediv_of_nonneg _ (by decide)]
   simp only[show min 1 64=1 from rfl,Int.pow_one]
   rw[aX (by omega) (by omega)]
   omega
  (refine @ab _ ?_;refine an @eh ?_)
  refine⟨fun hlt=>⟨by omega,fun a ha=>ao (WC w0 a key S) ?_⟩,fun hge=>?_⟩
  ·(refine @ab _ ?_;refine ba @eh @OS ?_)
   refine⟨fun hap=>⟨((i+j)/2+1,j),⟨by simp only;omega,h2,fun x c hx hc=>?_,h4⟩,by simp only;omega,by rw[aX (by omega) (by omega)];rfl,rfl⟩,fun hap=>⟨(i,(i+j)/2),⟨by simp only;omega,by simp only;omega,h3,fun x c hx hc=>?_⟩,by simp only;omega,rfl,rfl⟩⟩
   ·simp only at hx
    exact hl x ((i+j)/2) c a (by omega) hc ha hap
   ·simp only at hx
    refine Bool.eq_false_iff.2 fun hc'=>?_
    have:=hl ((i+j)/2) x a c hx ha hc hc'
    simp only[this]at hap;simp at hap
  ·have hij:i=j:=by omega
   subst hij
   have hi:bd l key=i:=qc h2 h3 fun c hc=>h4 i c (Nat.le_refl _) hc
   refine⟨fun hlt=>⟨hlt,fun a ha=>ao (WC w0 a key S) ?_⟩,fun hn=>Wk.bD (.cons (.eq ?_) (.cons (.eq ?_) .nil))⟩
   ·(refine @ab _ ?_;refine au ?_)
    have e:decide (xp a.key key=0)=eS a.key key:=by rw[Bool.eq_iff_iff,decide_eq_true_iff,PQ]
    unfold dH;rw[hi,ha,e]
    exact Wk.bD (.cons (.refl _) (.cons (.refl _) .nil))
   ·rw[hi]
   ·unfold dH;rw[hi,List.getElem?_eq_none (by omega)]
theorem LM(w0:W0)(n:N)(l:List C)(key:ByteArray)(S:St)(hr:dm l)(hb:l.length≤1073741824):
 aa Tryz.prog w0 60 [eV n l,dS key] S (fun d S'=>d= .bD [dI (bd l key),dB (dH l key)]∧S'=S):=by
 refine aZ [] mx Tryz.func60 rfl rfl (by kernel_rfl) ?_;(refine @ab _ ?_;refine an @Tryz.ntmps60 ?_)
 intro b
 refine ao (No w0 l key _ hr hb) ?_
 (refine @ab _ ?_;exact aV)
def gl(k:ByteArray):Bool:=decide (0<k.size)&&decide (k.size≤16)
theorem Vw(w0:W0)(k:ByteArray)(S:St):aa Tryz.prog w0 61 [dS k] S (fun d S'=>d=dB (gl k)∧S'=S):=by
 refine aZ [] mx Tryz.func61 rfl rfl (by kernel_rfl) ?_;(refine @ab _ ?_;refine an @Tryz.ntmps61 ?_)
 have e:eS k {data:= #[]}=!decide (0<k.size):=by
  have h1:eS k {data:= #[]}=decide (k.data.toList=[]):=rfl
  have h2:k.size=k.data.toList.length:=rfl
  rw[h1,h2]
  cases k.data.toList <;>simp
 rw[e]
 unfold gl
 refine⟨fun h=>?_,fun h=>?_⟩
 ·rw[Bool.not_eq_false']at h
  rw[h,Bool.true_and,Bool.eq_iff_iff,decide_eq_true_iff,decide_eq_true_iff];omega
 ·rw[Bool.not_eq_true']at h
  rw[h];rfl
theorem Tk(w0:W0)(S:St):aa Tryz.prog w0 28 [] S (fun d S'=>d=eV l5 []∧S'=S):=by
 refine aZ [] mx Tryz.func28 rfl rfl (by kernel_rfl) ?_;(refine @ab _ ?_;refine an @Tryz.ntmps28 ?_)
 intro b
 refine ao (Yw w0 _) ?_
 (refine @ab _ ?_;exact aV)
theorem yw(w0:W0)(l:List DV)(S:St)(h0:l.length≤1048576):aa Tryz.prog w0 63 [dR 6 l] S fun d S'=>∃b:FN S.acc,d= .acc b.n l.length∧S'=⟨S.box,(b.n,.arr 6 l)::S.acc⟩:=by
 refine Ko 6 (by omega) ?_
 refine mf [] mx Tryz.func63 rfl rfl (by kernel_rfl) ?_;(refine @ab _ ?_;refine an @Tryz.ntmps63 ?_)
 intro b hb
 refine⟨fun h1=> .inl ⟨Classical.byContradiction fun hn=>?_,0,rfl⟩,fun h1=>⟨by omega,by unfold maxLen;omega,fun c=> .inr ⟨c,rfl,rfl⟩⟩⟩
 rw[hb hn]at h1;cases h1
theorem Y1(w0:W0)(S:St):aa Tryz.prog w0 81 [.v (.int .u64 0),dI 2] S (fun d S'=>∃l:FN S.acc,d= .acc l.n 2∧S'=⟨S.box,(l.n,.arr 1 [.v (.int .u8 0),.v (.int .u8 0)])::S.acc⟩):=by
 refine mf [] mx Tryz.func81 rfl rfl (by kernel_rfl) ?_;(refine @ab _ ?_;refine an @Tryz.ntmps81 ?_)
 refine⟨fun h=>absurd h (by omega),fun _=>⟨by omega,fun b=>?_⟩⟩
 refine aF [] 2 [0,1,5,16,17] (fun k=>[(17,dI k)]) (fun _=>⟨S.box,(b.n,.arr 1 [.v (.int .u8 0),.v (.int .u8 0)])::S.acc⟩) (fun _=>True) mx (by kernel_rfl) ?_ ?_
 ·(refine @ab _ ?_;exact aV)
 ·intro k hk _
  (refine @ab _ ?_;refine au ?_)
  refine⟨fun hlt=>?_,fun _=>⟨b,rfl,rfl⟩⟩
  have:k=0∨k=1:=by omega
  rcases this with rfl|rfl
  ·exact⟨by decide,by decide,by decide,_,rfl,rfl,by omega,by decide,Aml.Sub.refl _⟩
  ·exact⟨by decide,by decide,by decide,_,rfl,rfl,by omega,by decide,Aml.Sub.refl _⟩
theorem tf(w0:W0)(S:St):aa Tryz.prog w0 66 [] S (fun d S'=>d=dS ⟨#[0,0]⟩∧S'=S):=by
 refine aZ [] mx Tryz.func66 rfl rfl (by kernel_rfl) ?_;(refine @ab _ ?_;refine an @Tryz.ntmps66 ?_)
 refine bA (Y1 w0 S) ?_
 rintro d S' ⟨l,rfl,rfl⟩
 (refine @ab _ ?_;refine au ?_)
 first|exact⟨by decide,by decide⟩|decide
theorem H7{ds cs:List DV}{o:Nat}(h:o+cs.length≤ds.length):(ct ds o cs).drop o=cs++ds.drop (o+cs.length):=by
 unfold ct
 rw[List.append_assoc,List.drop_append_of_le_length (by simp only[List.length_take];omega),List.drop_eq_nil_of_le (by simp only[List.length_take];omega),List.nil_append]
theorem TW{L X Y:List DV}{p q r:Nat}(hX:p+X.length=q)(hY:q+Y.length=r)(hr:r≤L.length):(ct (ct L p X) q Y).take r=L.take p++X++Y∧(ct (ct L p X) q Y).length=L.length:=by
 have l1:=gn (ds:=L) (cs:=X) (o:=p) (by omega)
 refine⟨?_,(gn (by omega)).trans l1⟩
 rw[←hY,np (by omega),←hX,np (by omega)]
theorem Ss{L X Y:List DV}{p q r:Nat}(hX:p+X.length=q)(hY:q+Y.length=r)(hr:r≤L.length):(ct (ct L q Y) p X).take r=L.take p++X++Y∧(ct (ct L q Y) p X).length=L.length:=by
 have l1:=gn (ds:=L) (cs:=Y) (o:=q) (by omega)
 refine⟨?_,(gn (by omega)).trans l1⟩
 have e:ct (ct L q Y) p X=L.take p++X++(Y++L.drop r):=by
  have h1:=H7 (ds:=L) (cs:=Y) (o:=q) (by omega)
  have h2:=pa (ds:=L) (cs:=Y) (o:=q) (k:=p) (by omega) (by omega)
  rw[hY]at h1
  show(ct L q Y).take p++X++(ct L q Y).drop (p+X.length)=_
  rw[hX,h1,h2]
 rw[e,←List.append_assoc]
 have hl:(L.take p++X++Y).length=r:=by simp only[List.length_append,List.length_take];omega
 rw[←hl,List.take_left]
theorem G0{s c i:Nat}{xs:List DV}(he:sA s xs)(hi:i≤xs.length):(gL s c xs).take (i*s)=(xs.take i).flatMap cd:=by
 have e:xs.flatMap cd=(xs.take i).flatMap cd++(xs.drop i).flatMap cd:=by rw[←List.flatMap_append,List.take_append_drop]
 have l1:((xs.take i).flatMap cd).length=i*s:=by rw[ic (iB he _),List.length_take];congr 1;omega
 unfold gL
 rw[e,List.append_assoc,List.take_append_of_le_length (by omega),List.take_of_length_le (by omega)]
theorem KB{s c i:Nat}{xs:List DV}(he:sA s xs)(hi:i≤xs.length):((gL s c xs).drop (i*s)).take ((xs.length-i)*s)=(xs.drop i).flatMap cd:=by
 have e:xs.flatMap cd=(xs.take i).flatMap cd++(xs.drop i).flatMap cd:=by rw[←List.flatMap_append,List.take_append_drop]
 have l1:((xs.take i).flatMap cd).length=i*s:=by rw[ic (iB he _),List.length_take];congr 1;omega
 have l2:((xs.drop i).flatMap cd).length=(xs.length-i)*s:=by rw[ic (iv he _),List.length_drop]
 unfold gL
 rw[e,List.append_assoc,List.drop_append,l1,List.drop_eq_nil_of_le (by omega),List.nil_append,Nat.sub_self,List.drop_zero,List.take_append_of_le_length (by omega),List.take_of_length_le (by omega)]
theorem UT(w0:W0)(S:St)(l:Nat)(xs:List DV)(i:Nat)(x:DV)(hl:lk S.acc l=some (.arr 6 xs))(he:sA 6 xs)(hn:xs≠[])(hi:i≤xs.length)(hx:eL x=true)(hx6:(cd x).length=6)(hb:xs.length≤524288):
 aa Tryz.prog w0 62 [.acc l xs.length,dI i,.sl 6 false [x]] S fun d S'=>∃m:FN S.acc,d= .acc m.n (xs.length+1)∧S'=⟨S.box,rB S.acc l (m.n,.arr 6 (xs.take i++[x]++xs.drop i))⟩:=by
 have hyl:(xs.take i++[x]++xs.drop i).length=xs.length+1:=by simp only[List.length_append,List.length_take,List.length_drop,List.length_singleton];omega
 refine(lG (P:=Tryz.prog) (w0:=w0) (K:=fun ys=>ys=xs.take i++[x]++xs.drop i) hl hn (by omega) he fun b c hbn hc1 hc2=>?_).mono ?_
 ·have hrow:=mr he hc1
  have htk:=fun k h=>G0 (s:=6) (c:=c) (i:=k) he h
  have hmd:=KB (s:=6) (c:=c) he hi
  generalize gL 6 c xs=ds at*
  have e1:IntKind.i64.wrap ((xs.length:Int)+1)=((xs.length+1:Nat):Int):=by rw[aX (by omega) (by omega)];rfl
  have e2:IntKind.i64.wrap (((xs.length+1:Nat):Int)-i)=((xs.length+1-i:Nat):Int):=by rw[aX (by omega) (by omega)];omega
  have e3:IntKind.i64.wrap ((i:Int)+1)=((i+1:Nat):Int):=by rw[aX (by omega) (by omega)];rfl
  refine mf [] mx Tryz.func62 rfl rfl (by kernel_rfl) ?_;simp(maxDischargeDepth:=12) (maxSteps:=1000000) -implicitDefEqProofs only[Tryz.ntmps62,go_sem,Nat.reduceAdd,Nat.reduceSub,Nat.reduceMul,Nat.reduceLeDiff,Nat.reduceEqDiff,Nat.reduceGT,Nat.reduceBEq,reduceCtorEq,↓reduceIte,Int.reduceToNat,Int.reduceLE,Int.reduceLT,Int.reduceNe,Int.reduceEq,e1,e2,e3,Nat.sub_zero,ite_self,Int.toNat_natCast,List.drop_zero]
  have hels:sA 6 (xs.take i++[x]++xs.drop i):=pG (pG (iB he _) fun d hd=>by rw[List.mem_singleton]at hd;subst hd;exact⟨hx,hx6⟩) (iv he _)
  have hcat:(xs.take i++[x]++xs.drop i).flatMap cd=ds.take (i*6)++cd x++(xs.drop i).flatMap cd:=by
   rw[htk i hi,List.flatMap_append,List.flatMap_append,List.flatMap_cons,List.flatMap_nil,List.append_nil]
  have hmdl:((xs.drop i).flatMap cd).length=(xs.length-i)*6:=by rw[ic (iv he _),List.length_drop]
  have hxc:[x].flatMap cd=cd x:=by simp
  have hok:∀d,d∈[x]→eL d=true:=fun d hd=>by rw[List.mem_singleton]at hd;subst hd;exact hx
  generalize hys:xs.take i++[x]++xs.drop i=ys at*
  have hf1:∀Z:List DV,S.box.Sublist (((b,Z)::S.box).filter fun p=>p.1 !=b):=fun Z=>by
   rw[List.filter_cons_of_neg (by simp)]
   rw[List.filter_eq_self.2 fun p hp=>by simpa using Y.j0 hbn p hp]
   exact List.Sublist.refl _
  have hf2:∀(b1:FN ((b,ds)::S.box)) (Z:List DV),S.box.Sublist (((b1.n,Z)::(b,ds)::S.box).filter fun p=>p.1 !=b1.n):=fun b1 Z=>by
   have h1:∀p,p∈(b,ds)::S.box→p.1≠b1.n:=Y.j0 b1.h
   rw[List.filter_cons_of_neg (by simp)]
   rw[List.filter_eq_self.2 fun p hp=>by simpa using h1 p hp]
   exact List.sublist_cons_self _ _
  have hcd:=hx6
  rw[hxc]
  generalize cd x=X at*
  generalize (xs.drop i).flatMap cd=Y at*
  have hzl:=wq (z:= .agg [.v (.string ByteArray.empty),.v (.int .i64 0),.v (.bool false),.sl 0 true [],.sl 0 true [],.sl 0 true []]) (s:=6) rfl (xs.length+1-i)
  generalize iQ (.agg [.v (.string ByteArray.empty),.v (.int .i64 0),.v (.bool false),.sl 0 true [],.sl 0 true [],.sl 0 true []]) (xs.length+1-i)=Z at*
  refine⟨hi,hc1,fun hin=>⟨by omega,hc1,hok,fun h1=>?_,fun h1=>⟨by omega,by unfold maxLen at *;omega,fun C h2 h3 b1=>?_⟩⟩,fun hin=>⟨fun h1=>?_,fun h1=>?_⟩⟩
  ·refine⟨b,c,ct ds (xs.length*6) X,ys,_,rfl,by rw[hyl],by simp only[lk,if_true],rfl,hf1 _,hels,?_,(gn (by omega)).trans hrow,by omega,hc2⟩
   have h2:=np (ds:=ds) (cs:=X) (o:=xs.length*6) (by omega)
   have hY:Y=[]:=List.eq_nil_of_length_eq_zero (by omega)
   rw[hyl,hcat,hin,hY,show(xs.length+1)*6=xs.length*6+X.length by omega,h2];simp
  ·have hY:Y=[]:=List.eq_nil_of_length_eq_zero (by omega)
   refine⟨b1.n,C,_,ys,_,rfl,by rw[hyl],by simp only[lk,if_true];rfl,rfl,hf2 b1 _,hels,?_,?_,by omega,h3⟩
   ·rw[hyl,hcat,hin,hY,List.append_nil]
    rw[List.take_append_of_le_length (by simp only[List.length_append,List.length_take];omega)]
    exact List.take_of_length_le (by simp only[List.length_append,List.length_take];omega)
   ·simp only[List.length_append,List.length_take,List.length_replicate];omega
  ·have e4:i+(xs.length+1-i)=xs.length+1:=by omega
   rw[e4]
   refine⟨by omega,by omega,by omega,by omega,by omega,by omega,by unfold maxLen at *;omega,fun C h2 h3 b1=>?_⟩
   have e5:¬C=i:=by omega
   have e6:¬C=i+1:=by omega
   have e7:¬c=i:=by omega
   have e8:min (xs.length-i) (xs.length+1-(i+1))=xs.length-i:=by omega
   simp only[e5,e6,e7,e8,if_false,hmd]
   have hL:(ds.take (i*6)++Z++List.replicate ((C-(xs.length+1))*6) DV.any).length=C*6:=by
    simp only[List.length_append,List.length_take,List.length_replicate];omega
   have hLt:(ds.take (i*6)++Z++List.replicate ((C-(xs.length+1))*6) DV.any).take (i*6)=ds.take (i*6):=by
    rw[List.append_assoc,List.take_append_of_le_length (by simp only[List.length_take];omega),List.take_take,Nat.min_self]
   generalize ds.take (i*6)++Z++List.replicate ((C-(xs.length+1))*6) DV.any=L at*
   have hp:=TW (L:=L) (X:=X) (Y:=Y) (p:=i*6) (q:=(i+1)*6) (r:=(xs.length+1)*6) (by omega) (by omega) (by omega)
   refine⟨by omega,by omega,by simp only[List.length_replicate];omega,hok,by omega,by omega,by omega,hi,hc1,?_,by omega,b1.n,C,_,ys,_,rfl,by rw[hyl],by simp only[lk,if_true];rfl,rfl,hf2 b1 _,hels,?_,?_,by omega,h3⟩
   ·rw[gn (by omega)];omega
   ·rw[hyl,hp.1,hLt,hcat]
   ·rw[hp.2,hL]
  ·refine⟨by omega,hi,by omega,?_⟩
   refine VJ (t:=Tryz.f113.params.getD 0 0) (tb:=Tryz.f113.resultTypes.getD 0 0) (e:=eG Tryz.prog (Tryz.f113.params.getD 0 0)) Tryz.func113 (by kernel_rfl) rfl (by kernel_rfl) (by kernel_rfl) (by kernel_rfl) (size:=6) (fun w=>rfl) (by omega) false [x] (ds:=ds) (by simp only[lk,if_true]) _ _ _ ?_
   simp(maxDischargeDepth:=12) (maxSteps:=1000000) -implicitDefEqProofs only[go_sem,Nat.reduceAdd,Nat.reduceSub,Nat.reduceMul,Nat.reduceLeDiff,Nat.reduceEqDiff,Nat.reduceGT,Nat.reduceBEq,reduceCtorEq,↓reduceIte,Int.reduceToNat,Int.reduceLE,Int.reduceLT,Int.reduceNe,Int.reduceEq,e1,e2,e3,Nat.sub_zero,ite_self,Int.toNat_natCast,List.drop_zero]
   have e5:¬c=i+1:=by omega
   have e7:¬c=i:=by omega
   have e8:min (xs.length+1-i) (xs.length+1-(i+1))=xs.length-i:=by omega
   simp only[e5,e7,e8,if_false,hmd,hxc]
   have hp:=Ss (L:=ds) (X:=X) (Y:=Y) (p:=i*6) (q:=(i+1)*6) (r:=(xs.length+1)*6) (by omega) (by omega) (by omega)
   refine⟨hi,by omega,by omega,by omega,by omega,by omega,by omega,by omega,?_,hok,by omega,b,c,ct (ct ds ((i+1)*6) Y) (i*6) X,ys,_,rfl,by rw[hyl],by simp only[lk,if_true],rfl,hf1 _,hels,?_,?_,by omega,hc2⟩
   ·rw[gn (by omega)];omega
   ·rw[hyl,hp.1,hcat]
   ·rw[hp.2,hrow]
 ·rintro d S' ⟨ys,m,rfl,rfl,rfl⟩
  exact⟨m,by rw[hyl],rfl⟩
theorem VP(w0:W0)(S:St)(l:Nat)(x:DV)(hl:lk S.acc l=some (.arr 6 []))(hx:eL x=true)(hx6:(cd x).length=6):
 aa Tryz.prog w0 62 [.acc l 0,dI 0,.sl 6 false [x]] S fun d S'=>d= .acc l 1∧S'=⟨S.box,up S.acc l (.tl 6 [x])⟩:=by
 refine mf [] mx Tryz.func62 rfl rfl (by kernel_rfl) ?_;(refine @ab _ ?_;refine ba @Tryz.ntmps62 @hl ?_)
 unfold maxLen;omega
theorem oe:∀{d e:Nat} {n:N},Nd d n→Nd e n→d=e
 |0,0,_,_,_=>rfl
 |0,e+1,n,h,k=>by have:=h.1;rw[k.1]at this;cases this
 |d+1,0,n,h,k=>by have:=h.1;rw[k.1]at this;cases this
 |d+1,e+1,n,h,k=>by
  obtain⟨c,hc⟩:=List.exists_mem_of_ne_nil _ h.2.1
  obtain⟨_,x,hx,h1⟩:=h.2.2 c hc
  obtain⟨_,y,hy,h2⟩:=k.2.2 c hc
  rw[hx]at hy;cases hy
  rw[oe h1 h2]
def TB(k:Nat)(n:N):Prop:=gQ n∧∃d,Good d n∧d≤k∧bw n≤120*k
theorem lz{k m:Nat}{n:N}(h:TB k n)(hm:k≤m):TB m n:=let⟨h1,d,h2,h3,h4⟩:=h;⟨h1,d,h2,by omega,by omega⟩
theorem tB{k:Nat}{n:N}{key val:ByteArray}(h:TB k n)(hk:k≤116)(h0:key≠aJ)(h1:key.size≤16)(h2:val.size≤400):TB (k+1) (k7 key val n):=by
 obtain⟨hr,d,hg,hd,ht⟩:=h
 have hr':=(kJ (val:=val) h0 h1 h2 hr).1
 obtain⟨d',hg',q⟩:=hr'
 obtain⟨e,he,hn,hT⟩:=Ua h1 h2 (az hg)
 have:=oe (az hg') hn
 exact⟨⟨d',hg',q⟩,d',hg',by omega,by omega⟩
theorem DY{k:Nat}{n:N}{key:ByteArray}(h:TB k n)(hk:k≤116):TB (k+1) (l9 key n):=by
 obtain⟨hr,d,hg,hd,ht⟩:=h
 have hr':=(pn key hr).1
 obtain⟨d',hg',q⟩:=hr'
 obtain⟨e,he,hn,hT⟩:=Sa (key:=key) (az hg)
 have:=oe (az hg') hn
 exact⟨⟨d',hg',q⟩,d',hg',by omega,by omega⟩
theorem Rp(k:Nat):TB k l5:=⟨xk,0,wX,by omega,by show 0≤_;omega⟩
theorem EP(w0:W0){k:Nat}{n:N}{key val:ByteArray}(h:TB k n)(hk:k≤116)(h1:key.size≤16)(h2:val.size≤400)(S:St):aa Tryz.prog w0 65 [eT n,dS key,dS val] S (fun e S'=>e=eT (k7 key val n)∧S'=S):=by
 obtain⟨hr,d,hg,hd,ht⟩:=h
 exact Yu w0 key val h1 h2 d n S hg (by omega)
theorem QJ(w0:W0){k:Nat}{n:N}{key:ByteArray}(h:TB k n)(hk:k≤116)(S:St):aa Tryz.prog w0 70 [eT n,dS key] S (fun e S'=>e= .bD [eT (l9 key n),dB (cw key n).isSome]∧S'=S):=by
 obtain⟨hr,d,hg,hd,ht⟩:=h
 refine XX w0 key n S hr fun e he=>?_
 have:=oe he (az hg)
 omega
theorem S8(w0:W0){k:Nat}{n:N}{key:ByteArray}(h:TB k n)(hk:k≤116)(S:St):aa Tryz.prog w0 117 [eT n,dS key] S (fun e S'=>e= .bD [dS ((cw key n).getD aJ),dB (cw key n).isSome]∧S'=S):=by
 obtain⟨hr,d,hg,hd,ht⟩:=h
 exact Q1 w0 key d n S hg (by omega)
def Ak:ByteArray:=⟨#[0,0]⟩
def cY(f:ByteArray→ByteArray)(c:C):C:= .mk c.key (f c.key) [] []
def UP(E l:List C):Prop:=∃f:ByteArray→ByteArray,(∀k,(f k).size=2)∧E=l.map (cY f)
def vj(f:ByteArray→ByteArray)(x v:ByteArray):ByteArray→ByteArray:=fun k=>if k=x then v else f k
theorem FA{f:ByteArray→ByteArray}{x v:ByteArray}:vj f x v x=v:=if_pos rfl
theorem Fw{f:ByteArray→ByteArray}{x v k:ByteArray}(h:k≠x):vj f x v k=f k:=if_neg h
theorem qN{f:ByteArray→ByteArray}{x v:ByteArray}(hf:∀k,(f k).size=2)(hv:v.size=2)(k:ByteArray):(vj f x v k).size=2:=by
 unfold vj;split
 ·exact hv
 ·exact hf k
theorem ld{f:ByteArray→ByteArray}{x v:ByteArray}{A:List C}(h:∀a,a∈A→a.key≠x):A.map (cY (vj f x v))=A.map (cY f):=List.map_congr_left fun a ha=>by unfold cY;rw[Fw (h a ha)]
theorem xC{f:ByteArray→ByteArray}{x v:ByteArray}{c:C}(h:c.key=x):cY (vj f x v) c= .mk x v [] []:=by unfold cY;rw[h,FA]
structure VI(k:Nat)(n:N)(l:List C):Prop where
 dir:TB k n
 bQ:dm l
 cell:∀c,c∈l→c=af c.key (aA c)∧TB k (aA c)∧gl c.key=true
 len:l.length≤k
 en:UP (di n) l
theorem Rg(k:Nat):VI k l5 []:=⟨Rp k,List.Pairwise.nil,fun c hc=>absurd hc List.not_mem_nil,Nat.zero_le _,fun _=>Ak,fun _=>rfl,rfl⟩
def mG(name:ByteArray)(n:N)(l:List C):(N×List C)×Int:=
 if gl name then(if dH l name then((n,l),38)else((k7 name Ak n,l.take (bd l name)++[af name l5]++l.drop (bd l name)),0))else((n,l),34)
theorem dt{k:ByteArray}(h:gl k=true):k≠aJ∧k.size≤16:=by
 unfold gl at h
 simp only[Bool.and_eq_true,decide_eq_true_eq]at h
 exact⟨fun e=>by rw[e,bk]at h;omega,h.2⟩
theorem QT(w0:W0)(k:Nat)(name:ByteArray)(n:N)(l:List C)(S:St)(h:VI k n l)(hk:k≤116):aa Tryz.prog w0 26 [eV n l,dS name] S (fun d S'=>d= .bD [eV (mG name n l).1.1 (mG name n l).1.2,dI (mG name n l).2]∧S'=S):=by
 have hln:=h.len
 have hdir:=h.dir
 have hrise:=h.bQ
 clear h
 have hil:=Mj l name
 have hput:=fun(a:name.size≤16) S=>EP w0 (key:=name) (val:=Ak) hdir hk a (by decide) S
 have q1:gl name=false→mG name n l=((n,l),34):=fun e=>by unfold mG;rw[e];rfl
 have q2:gl name=true→dH l name=true→mG name n l=((n,l),38):=fun e f=>by unfold mG;rw[e,f];rfl
 have q3:gl name=true→dH l name=false→mG name n l=((k7 name Ak n,l.take (bd l name)++[af name l5]++l.drop (bd l name)),0):=fun e f=>by unfold mG;rw[e,f];rfl
 have hcl:=yw w0 (l.map lP)
 have hx6:(cd (lP (af name l5))).length=6:=rfl
 have hx:eL (lP (af name l5))=true:=rfl
 generalize k7 name Ak n=D at*
 generalize hI:bd l name=i at*
 generalize mG name n l=R at*
 refine aZ [7] mx Tryz.func26 rfl rfl (by kernel_rfl) ?_;(refine @ab _ ?_;refine an @Tryz.ntmps26 ?_)
 intro b b1
 refine ao (LM w0 n l name _ hrise (by omega)) ?_
 (refine @ab _ ?_;refine au ?_)
 refine ao (Vw w0 name _) ?_
 (refine @ab _ ?_;refine au ?_)
 cases hok:gl name with
 |false=>
  rw[q1 hok]
  (refine @ab _ ?_;exact aV)
  all_goals exact .refl _
 |true=>
  (refine @ab _ ?_;refine au ?_)
  refine⟨fun hh=>by rw[q2 hok hh];exact .refl _,fun hh=>?_⟩
  rw[q3 hok hh]
  obtain⟨_,hsz⟩:=dt hok
  refine bA (hcl _ (by rw[List.length_map];omega)) ?_
  rintro d S' ⟨b2,rfl,rfl⟩
  (refine @ab _ ?_;refine au ?_)
  refine ao (Yw w0 _) ?_
  (refine @ab _ ?_;refine au ?_)
  rw[hI]
  refine .inl ?_
  by_cases hl:l=[]
  ·subst hl
   obtain rfl:i=0:=by simpa using hil
   refine bA (VP w0 _ b2.n (lP (af name l5)) (by(refine @ab _ ?_;exact aV)) hx hx6) ?_ ⟨.refl _,.refl _,.full _ _ _,trivial⟩
   rintro d S' ⟨rfl,rfl⟩
   (refine @ab _ ?_;refine au ?_)
   refine lE [] [8] mx (by kernel_rfl) ?_
   (refine @ab _ ?_;refine au ?_)
   refine aS (tf w0 _) ?_
   (refine @ab _ ?_;refine au ?_)
   refine aS (hput hsz _) ?_
   (refine @ab _ ?_;exact aV)
  ·refine bA (UT w0 _ b2.n (l.map lP) i (lP (af name l5)) (by(refine @ab _ ?_;exact aV)) (fun d hd=>by obtain⟨c,_,rfl⟩:=List.mem_map.1 hd;exact⟨rfl,rfl⟩) (by simpa using hl) (by rw[List.length_map];exact hil) hx hx6 (by rw[List.length_map];omega)) ?_ ⟨.eq (by rw[List.length_map]),.refl _,.full _ _ _,trivial⟩
   rintro d S' ⟨m,rfl,rfl⟩
   (refine @ab _ ?_;refine au ?_)
   refine lE [] [8] mx (by kernel_rfl) ?_
   (refine @ab _ ?_;refine au ?_)
   refine⟨by omega,aS (tf w0 _) ?_⟩
   (refine @ab _ ?_;refine au ?_)
   refine aS (hput hsz _) ?_
   (refine @ab _ ?_;refine au ?_)
   rw[List.map_append,List.map_append];exact .refl _
def wQ(name:ByteArray)(n:N)(l:List C):(N×List C)×Int:=
 if dH l name then((l9 name n,l.take (bd l name)++l.drop (bd l name+1)),0)else((n,l),32)
theorem Mu{l:List C}{name:ByteArray}(h:dH l name=true):bd l name<l.length:=by
 unfold dH at h
 split at h
 ·rename_i e;exact(List.getElem?_eq_some_iff.1 e).1
 ·cases h
theorem WQ(w0:W0)(k:Nat)(name:ByteArray)(n:N)(l:List C)(S:St)(h:VI k n l)(hk:k≤116):aa Tryz.prog w0 30 [eV n l,dS name] S (fun d S'=>d= .bD [eV (wQ name n l).1.1 (wQ name n l).1.2,dI (wQ name n l).2]∧S'=S):=by
 have hln:=h.len
 have hdir:=h.dir
 have hrise:=h.bQ
 clear h
 have hlt:=Mu (l:=l) (name:=name)
 have hdel:=fun S=>QJ w0 (key:=name) hdir hk S
 have q1:dH l name=false→wQ name n l=((n,l),32):=fun e=>by unfold wQ;rw[e];rfl
 have q2:dH l name=true→wQ name n l=((l9 name n,l.take (bd l name)++l.drop (bd l name+1)),0):=fun e=>by unfold wQ;rw[e];rfl
 have hcl:=yw w0 (l.map lP)
 generalize l9 name n=D at*
 generalize (cw name n).isSome=sm at*
 generalize wQ name n l=R at*
 refine aZ [5] mx Tryz.func30 rfl rfl (by kernel_rfl) ?_;(refine @ab _ ?_;refine an @Tryz.ntmps30 ?_)
 intro b b1
 refine ao (LM w0 n l name _ hrise (by omega)) ?_
 generalize hI:bd l name=i at*
 (refine @ab _ ?_;refine au ?_)
 refine⟨fun hh=>?_,fun hh=>by rw[q1 hh];exact .refl _⟩
 rw[q2 hh]
 have hil:=hlt hh
 refine ao (hdel _) ?_
 (refine @ab _ ?_;refine au ?_)
 intro b2
 refine Y.l8 [3,7] [8] [1,4,5,6,0,2,3,7,8,9,10] mx (by kernel_rfl) ?_
 (refine @ab _ ?_;refine au ?_)
 refine bA (hcl _ (by rw[List.length_map];omega)) ?_
 rintro d S' ⟨l1,rfl,rfl⟩
 (refine @ab _ ?_;refine au ?_)
 rw[cm i (by omega)]
 refine .inl (bA (YP w0 _ l1.n (l.map lP) i (by(refine @ab _ ?_;exact aV)) (fun d hd=>by obtain⟨c,_,rfl⟩:=List.mem_map.1 hd;exact⟨rfl,rfl⟩) (by rw[List.length_map];exact hil) (by rw[List.length_map];omega)) ?_ ⟨.eq (by rw[List.length_map]),.refl _,.refl _,trivial⟩)
 rintro d S' ⟨m1,rfl,rfl⟩
 (refine @ab _ ?_;refine au ?_)
 omega
def uU(name:ByteArray)(f:N→N×Int)(n:N)(l:List C):(N×List C)×Int:=
 if dH l name then(match l[bd l name]? with
  |some c=>if(f (aA c)).2=0 then((k7 name Ak n,l.set (bd l name) (af c.key (f (aA c)).1)),0)else((n,l),(f (aA c)).2)
  |none=>((n,l),32))else((n,l),32)
theorem CE{l:List C}{name:ByteArray}(h:dH l name=true):∃c,l[bd l name]? =some c∧c.key=name:=by
 unfold dH at h
 split at h
 ·rename_i c e;exact⟨c,e,cN.1 h⟩
 ·cases h
theorem EI(w0:W0)(k:Nat)(name:ByteArray)(f:N→N×Int)(g:Nat)(cs:List Value)(n:N)(l:List C)(S:St)(h:VI k n l)(hk:k≤116)
 (hg:okF Tryz.prog g=true) (hcs:cs.all (fun u=>u.oneCell')=true)
 (hf:∀c,l[bd l name]? =some c→∀T,Has S T→aa Tryz.prog w0 g (eT (aA c)::cs.map .v) T (fun d S'=>d= .bD [eT (f (aA c)).1,dI (f (aA c)).2]∧S'=T)):
 aa Tryz.prog w0 67 [eV n l,dS name,.v (.func (.func g) #[] cs.toArray)] S (fun d S'=>d= .bD [eV (uU name f n l).1.1 (uU name f n l).1.2,dI (uU name f n l).2]∧S'=S):=by
 have hln:=h.len
 have hdir:=h.dir
 have hrise:=h.bQ
 have hsz:dH l name=true→name.size≤16:=fun hh=>by
  obtain⟨c,hc,rfl⟩:=CE hh
  exact(dt (h.cell c (List.mem_of_getElem? hc)).2.2).2
 clear h
 have hlt:=Mu (l:=l) (name:=name)
 have hput:=fun(a:name.size≤16) S=>EP w0 (key:=name) (val:=Ak) hdir hk a (by decide) S
 have q1:dH l name=false→uU name f n l=((n,l),32):=fun e=>by unfold uU;rw[e];rfl
 have q2:dH l name=true→∀c,l[bd l name]? =some c→(f (aA c)).2≠0→uU name f n l=((n,l),(f (aA c)).2):=fun e c hc h0=>by unfold uU;rw[e,hc];simp only[if_true];rw[if_neg h0]
 have q3:dH l name=true→∀c,l[bd l name]? =some c→(f (aA c)).2=0→uU name f n l=((k7 name Ak n,l.set (bd l name) (af c.key (f (aA c)).1)),0):=fun e c hc h0=>by unfold uU;rw[e,hc];simp only[if_true];rw[if_pos h0]
 have hcl:=yw w0 (l.map lP)
 generalize k7 name Ak n=D at*
 generalize uU name f n l=R at*
 refine aZ [9] mx Tryz.func67 rfl rfl (by kernel_rfl) ?_;(refine @ab _ ?_;refine an @Tryz.ntmps67 ?_)
 intro b b1
 refine ao (LM w0 n l name _ hrise (by omega)) ?_
 generalize hI:bd l name=i at*
 (refine @ab _ ?_;refine au ?_)
 refine⟨fun hh=>?_,fun hh=>by rw[q1 hh];exact .refl _⟩
 have hil:=hlt hh
 refine⟨hil,fun c hc=>?_⟩
 (refine @ab _ ?_;refine ba @hg @hcs ?_)
 have hF:=hf c hc
 have q2':=q2 hh c hc
 have q3':=q3 hh c hc
 generalize (f (aA c)).1=m at*
 generalize (f (aA c)).2=e at*
 refine⟨hcs,ao (hF _ (by(refine @ab _ ?_;exact aV))) ?_⟩
 (refine @ab _ ?_;refine au ?_)
 intro b2
 refine⟨fun he=>by rw[q2' he];exact .refl _,fun he=>?_⟩
 rw[q3' (Classical.not_not.1 he)]
 refine bA (hcl _ (by rw[List.length_map];omega)) ?_
 rintro d S' ⟨l1,rfl,rfl⟩
 (refine @ab _ ?_;refine au ?_)
 refine⟨hil,hil,fun a ha=>?_⟩
 cases eE hc ha
 refine lE [] [12] mx (by kernel_rfl) ?_
 (refine @ab _ ?_;refine au ?_)
 refine aS (tf w0 _) ?_
 (refine @ab _ ?_;refine au ?_)
 refine aS (hput (hsz hh) _) ?_
 (refine @ab _ ?_;refine au ?_)
 rw[List.map_set]
 exact .refl _
def sc(name key val:ByteArray)(n:N)(l:List C):(N×List C)×Int:=
 if gl key&&decide (val.size≤400)then uU name (fun t=>(k7 key val t,0)) n l else((n,l),34)
def Nr(name key:ByteArray)(n:N)(l:List C):(N×List C)×Int:=
 uU name (fun t=>if(cw key t).isSome then(l9 key t,0)else(t,33)) n l
theorem XN(w0:W0)(k:Nat)(key val:ByteArray)(t:N)(b1 b2:Nat)(T:St)(ht:TB k t)(hk:k≤116)(hs:key.size≤16)(hv:val.size≤400)(h1:lk T.box b1=some [dS key])(h2:lk T.box b2=some [dS val]):
 aa Tryz.prog w0 68 [eT t,.v (.pointer (some ⟨b1,0,none⟩)),.v (.pointer (some ⟨b2,0,none⟩))] T (fun d S'=>d= .bD [eT (k7 key val t),dI 0]∧S'=T):=by
 have hp:=fun S=>EP w0 ht hk hs hv S
 generalize k7 key val t=p at*
 refine aZ [] mx Tryz.func68 rfl rfl (by kernel_rfl) ?_;simp only[Tryz.ntmps68,List.length_cons,List.length_nil,Nat.reduceAdd,Nat.reduceSub,List.reduceReplicate,List.cons_append,List.nil_append];(refine @ab _ ?_;refine eW @Tryz.ntmps68 @h1 @h2 ?_)
 intro b b3
 refine ao (hp _) ?_
 (refine @ab _ ?_;exact qd @h1 @h2)
theorem Yk(w0:W0)(k:Nat)(key:ByteArray)(t:N)(b1:Nat)(T:St)(ht:TB k t)(hk:k≤116)(h1:lk T.box b1=some [dS key]):
 aa Tryz.prog w0 72 [eT t,.v (.pointer (some ⟨b1,0,none⟩))] T (fun d S'=>d= .bD [eT (if(cw key t).isSome then(l9 key t,(0:Int))else(t,33)).1,dI (if(cw key t).isSome then(l9 key t,(0:Int))else(t,33)).2]∧S'=T):=by
 have hp:=fun S=>QJ w0 (key:=key) ht hk S
 generalize (cw key t).isSome=sm at*
 generalize l9 key t=p at*
 refine aZ [] mx Tryz.func72 rfl rfl (by kernel_rfl) ?_;simp only[Tryz.ntmps72,List.length_cons,List.length_nil,Nat.reduceAdd,Nat.reduceSub,List.reduceReplicate,List.cons_append,List.nil_append];(refine @ab _ ?_;refine ba @Tryz.ntmps72 @h1 ?_)
 intro b b3
 refine ao (hp _) ?_
 (refine @ab _ ?_;refine an @h1 ?_)
 intro b4
 refine⟨fun h=>?_,fun h=>?_⟩
 all_goals rw[h];exact .refl _
theorem VZ(w0:W0)(k:Nat)(name key val:ByteArray)(n:N)(l:List C)(S:St)(h:VI k n l)(hk:k≤116):aa Tryz.prog w0 27 [eV n l,dS name,dS key,dS val] S (fun d S'=>d= .bD [eV (sc name key val n l).1.1 (sc name key val n l).1.2,dI (sc name key val n l).2]∧S'=S):=by
 have q1:gl key=false→sc name key val n l=((n,l),34):=fun e=>by unfold sc;rw[e];rfl
 have q2:¬val.size≤400→sc name key val n l=((n,l),34):=fun e=>by unfold sc;rw[decide_eq_false e,Bool.and_false];rfl
 have q3:gl key=true→val.size≤400→sc name key val n l=uU name (fun t=>(k7 key val t,0)) n l:=fun e f=>by unfold sc;rw[e,decide_eq_true f];rfl
 have hch:=fun g cs S=>EI w0 k name (fun t=>(k7 key val t,0)) g cs n l S h hk
 generalize sc name key val n l=R at*
 generalize uU name (fun t=>(k7 key val t,0)) n l=Q at*
 refine aZ [] mx Tryz.func27 rfl rfl (by kernel_rfl) ?_;(refine @ab _ ?_;refine an @Tryz.ntmps27 ?_)
 intro b b1 b2 b3
 refine ao (Vw w0 key _) ?_
 (refine @ab _ ?_;refine au ?_)
 refine⟨fun e=>by rw[q1 e];exact .refl _,fun e=>⟨fun e2=>by rw[q2 (by omega)];exact .refl _,fun e2=>?_⟩⟩
 rw[q3 e (by omega)]
 refine ao (hch 68 [.pointer (some ⟨b1.n,0,none⟩),.pointer (some ⟨b2.n,0,none⟩)] _ (by kernel_rfl) rfl fun c hc T hT=>XN w0 k key val (aA c) b1.n b2.n T (h.cell c (List.mem_of_getElem? hc)).2.1 hk (dt e).2 (by omega) (hT.box _ _ (by(refine @ab _ ?_;exact aV))) (hT.box _ _ (by(refine @ab _ ?_;exact aV)))) ?_
 (refine @ab _ ?_;exact aV)
theorem Qc(w0:W0)(k:Nat)(name key:ByteArray)(n:N)(l:List C)(S:St)(h:VI k n l)(hk:k≤116):aa Tryz.prog w0 31 [eV n l,dS name,dS key] S (fun d S'=>d= .bD [eV (Nr name key n l).1.1 (Nr name key n l).1.2,dI (Nr name key n l).2]∧S'=S):=by
 have hch:=fun g cs S=>EI w0 k name (fun t=>if(cw key t).isSome then(l9 key t,0)else(t,33)) g cs n l S h hk
 unfold Nr
 generalize uU name (fun t=>if(cw key t).isSome then(l9 key t,0)else(t,33)) n l=Q at*
 refine aZ [] mx Tryz.func31 rfl rfl (by kernel_rfl) ?_;(refine @ab _ ?_;refine an @Tryz.ntmps31 ?_)
 intro b b1 b2
 refine ao (hch 72 [.pointer (some ⟨b1.n,0,none⟩)] _ (by kernel_rfl) rfl fun c hc T hT=>Yk w0 k key (aA c) b1.n T (h.cell c (List.mem_of_getElem? hc)).2.1 hk (hT.box _ _ (by(refine @ab _ ?_;exact aV)))) ?_
 (refine @ab _ ?_;exact aV)
end Go.Proofs.YtpjenciplibdnaaGreatDoor
namespace Go.Proofs.YtpjenciplibdnaaGreatDoor
open Aml Go
open Aml Go
open Aml Go
open Aml Go
end Go.Proofs.YtpjenciplibdnaaGreatDoor
namespace Go.Proofs.YtpjenciplibdnaaGreatDoor
open Aml Go
theorem Tf{name:ByteArray}{l:List C}(h:dm l)(hn:dH l name=false):∃A B,l=A++B∧bd l name=A.length∧(∀a,a∈A→cH a.key name=true)∧∀b,b∈B→cH name b.key=true:=by
 obtain⟨A,B,hl,h1,h2⟩:=qI name h
 have hi:bd l name=A.length:=by rw[hl];exact pV h1 h2
 refine⟨A,B,hl,hi,h1,fun b hb=>?_⟩
 cases B with
 |nil=>cases hb
 |cons x B=>
  have hx:eS x.key name=false:=by
   unfold dH at hn
   rw[hi,hl,List.getElem?_append_right (Nat.le_refl _),Nat.sub_self]at hn
   exact hn
  have hxl:cH name x.key=true:=by
   rcases nu x.key name with q|q|q
   ·rw[h2 x List.mem_cons_self]at q;cases q
   ·exact absurd q (dc.1 hx)
   ·exact q
  rcases List.mem_cons.1 hb with rfl|hb
  ·exact hxl
  ·have hr:dm (x::B):=by rw[hl]at h;exact(List.pairwise_append.1 h).2.1
   exact fO hxl ((List.pairwise_cons.1 hr).1 b hb)
theorem yg{name:ByteArray}{l:List C}(h:dm l)(hn:dH l name=true):∃A b B,l=A++b::B∧b.key=name∧bd l name=A.length∧(∀a,a∈A→cH a.key name=true)∧∀b,b∈B→cH name b.key=true:=by
 obtain⟨A,B,hl,h1,h2⟩:=qI name h
 have hi:bd l name=A.length:=by rw[hl];exact pV h1 h2
 obtain⟨c,hc,hk⟩:=CE hn
 rw[hi,hl,List.getElem?_append_right (Nat.le_refl _),Nat.sub_self]at hc
 cases B with
 |nil=>cases hc
 |cons x B=>
  obtain rfl:x=c:=by simpa using hc
  have hr:dm (x::B):=by rw[hl]at h;exact(List.pairwise_append.1 h).2.1
  exact⟨A,x,B,hl,hk,hi,h1,fun b hb=>by rw[←hk];exact(List.pairwise_cons.1 hr).1 b hb⟩
theorem xQ{name val:ByteArray}{A B M:List C}(h1:∀a,a∈A→cH a.key name=true)(h2:∀b,b∈B→cH name b.key=true)(hM:∀m,m∈M→m.key=name):pI name val (A++M++B)=A++ .mk name val [] []::B:=by
 unfold pI
 simp only[List.filter_append]
 rw[eQ h1,jG (l:=M) (fun m hm=>by rw[hM m hm,cI]),jG (l:=B) (fun b hb=>fk (h2 b hb)),jG (l:=A) (fun a ha=>fk (h1 a ha)),jG (l:=M) (fun m hm=>by rw[hM m hm,cI]),eQ h2]
 simp
theorem OH{name:ByteArray}{A B M:List C}(h1:∀a,a∈A→cH a.key name=true)(h2:∀b,b∈B→cH name b.key=true)(hM:∀m,m∈M→m.key=name):Bh name (A++M++B)=A++B:=by
 unfold Bh
 simp only[List.filter_append]
 rw[eQ (l:=A) (fun a ha=>by rw[dc.2 (bH (h1 a ha))];rfl),jG (l:=M) (fun m hm=>by rw[hM m hm,jy];rfl),eQ (l:=B) (fun b hb=>by rw[dc.2 (bH (h2 b hb)).symm];rfl)]
 simp
theorem Bf{name:ByteArray}{A B:List C}{m:C}(h:dm (A++B))(h1:∀a,a∈A→cH a.key name=true)(h2:∀b,b∈B→cH name b.key=true)(hm:m.key=name):dm (A++m::B):=by
 unfold dm at*
 rw[List.pairwise_append]at h ⊢
 refine⟨h.1,List.pairwise_cons.2 ⟨fun b hb=>by rw[hm];exact h2 b hb,h.2.1⟩,fun a ha b hb=>?_⟩
 rcases List.mem_cons.1 hb with rfl|hb
 ·rw[hm];exact h1 a ha
 ·exact h.2.2 a ha b hb
theorem map_lt{name:ByteArray}{A:List C}{f:ByteArray→ByteArray}(h:∀a,a∈A→cH a.key name=true):∀a,a∈A.map (cY f)→cH a.key name=true:=fun a ha=>by
 obtain⟨c,hc,rfl⟩:=List.mem_map.1 ha;exact h c hc
theorem yv{name:ByteArray}{A:List C}{f:ByteArray→ByteArray}(h:∀a,a∈A→cH name a.key=true):∀a,a∈A.map (cY f)→cH name a.key=true:=fun a ha=>by
 obtain⟨c,hc,rfl⟩:=List.mem_map.1 ha;exact h c hc
theorem fD{k m:Nat}{n:N}{l:List C}(h:VI k n l)(hm:k≤m):VI m n l:=⟨lz h.dir hm,h.bQ,fun c hc=>⟨(h.cell c hc).1,lz (h.cell c hc).2.1 hm,(h.cell c hc).2.2⟩,Nat.le_trans h.len hm,h.en⟩
theorem wi(name:ByteArray)(t:N):aA (af name t)=t:=rfl
theorem J8{k:Nat}{n:N}{l:List C}(h:VI k n l)(hk:k≤116)(name:ByteArray):VI (k+1) (mG name n l).1.1 (mG name n l).1.2:=by
 unfold mG
 cases hok:gl name with
 |false=>exact fD h (by omega)
 |true=>
  cases hh:dH l name with
  |true=>exact fD h (by omega)
  |false=>
   obtain⟨A,B,hl,hi,h1,h2⟩:=Tf h.bQ hh
   obtain⟨hne,hsz⟩:=dt hok
   have hlen:=h.len
   have e:l.take (bd l name)++[af name l5]++l.drop (bd l name)=A++af name l5::B:=by rw[hi,hl];simp
   simp only[if_true,if_false,Bool.false_eq_true]
   rw[e]
   have hr:=h.bQ
   have hce:=h.cell
   obtain⟨g,hgs,hen⟩:=h.en
   rw[hl]at hr hce hlen
   refine⟨tB h.dir hk hne hsz (by decide),Bf hr h1 h2 rfl,fun c hc=>?_,by simp only[List.length_append,List.length_cons]at *;omega,?_⟩
   ·have old:∀c,c∈A++B→c=af c.key (aA c)∧TB (k+1) (aA c)∧gl c.key=true:=fun c hc=>⟨(hce c hc).1,lz (hce c hc).2.1 (by omega),(hce c hc).2.2⟩
    rcases List.mem_append.1 hc with hc|hc
    ·exact old c (List.mem_append_left _ hc)
    ·rcases List.mem_cons.1 hc with rfl|hc
     ·exact⟨rfl,Rp _,hok⟩
     ·exact old c (List.mem_append_right _ hc)
   ·refine⟨vj g name Ak,qN hgs rfl,?_⟩
    rw[(kJ (val:=Ak) hne hsz (by decide) h.dir.1).2,hen,hl]
    have:=xQ (name:=name) (val:=Ak) (A:=A.map (cY g)) (B:=B.map (cY g)) (M:=[]) (map_lt h1) (yv h2) (fun m hm=>by cases hm)
    rw[List.append_nil]at this
    rw[List.map_append,this,List.map_append,List.map_cons,ld fun a ha=>bH (h1 a ha),ld (A:=B) fun b hb=>(bH (h2 b hb)).symm,xC (c:=af name l5) (x:=name) rfl]
theorem QD{k:Nat}{n:N}{l:List C}(h:VI k n l)(hk:k≤116)(name:ByteArray):VI (k+1) (wQ name n l).1.1 (wQ name n l).1.2:=by
 unfold wQ
 cases hh:dH l name with
 |false=>exact fD h (by omega)
 |true=>
  obtain⟨A,b,B,hl,hb,hi,h1,h2⟩:=yg h.bQ hh
  have hlen:=h.len
  have e:l.take (bd l name)++l.drop (bd l name+1)=A++B:=by rw[hi,hl];simp
  simp only[if_true]
  rw[e]
  have hr:=h.bQ
  have hce:=h.cell
  obtain⟨g,hgs,hen⟩:=h.en
  rw[hl]at hr hce hlen
  refine⟨DY h.dir hk,hr.sublist (List.Sublist.append_left (List.sublist_cons_self _ _) _),fun c hc=>?_,by simp only[List.length_append,List.length_cons]at *;omega,?_⟩
  ·have hm:c∈A++b::B:=(List.Sublist.append_left (List.sublist_cons_self _ _) _).subset hc
   exact⟨(hce c hm).1,lz (hce c hm).2.1 (by omega),(hce c hm).2.2⟩
  ·refine⟨g,hgs,?_⟩
   rw[(pn name h.dir.1).2,hen,hl]
   have:=OH (name:=name) (A:=A.map (cY g)) (B:=B.map (cY g)) (M:=[cY g b]) (map_lt h1) (yv h2) (fun m hm=>by rw[List.mem_singleton]at hm;subst hm;exact hb)
   rw[List.map_append,List.map_append,List.map_cons,←this];simp
theorem Q6{k:Nat}{n:N}{l:List C}(h:VI k n l)(hk:k≤116)(name:ByteArray)(f:N→N×Int)(hf:∀t,TB k t→TB (k+1) (f t).1):VI (k+1) (uU name f n l).1.1 (uU name f n l).1.2:=by
 unfold uU
 cases hh:dH l name with
 |false=>exact fD h (by omega)
 |true=>
  obtain⟨A,b,B,hl,hb,hi,h1,h2⟩:=yg h.bQ hh
  have hlen:=h.len
  have hgb:l[bd l name]? =some b:=by rw[hi,hl];simp
  simp only[if_true,hgb]
  split
  ·have hr:=h.bQ
   have hce:=h.cell
   obtain⟨g,hgs,hen⟩:=h.en
   have e:l.set (bd l name) (af b.key (f (aA b)).1)=A++af b.key (f (aA b)).1::B:=by rw[hi,hl];simp
   simp only
   rw[e]
   rw[hl]at hr hce hlen
   have hbc:=hce b (by simp)
   obtain⟨hne,hsz⟩:=dt hbc.2.2
   rw[hb]at hne hsz
   have hr2:dm (A++B):=hr.sublist (List.Sublist.append_left (List.sublist_cons_self _ _) _)
   refine⟨tB h.dir hk hne hsz (by decide),Bf hr2 h1 h2 hb,fun c hc=>?_,by simp only[List.length_append,List.length_cons]at *;omega,?_⟩
   ·have old:∀c,c∈A++b::B→c=af c.key (aA c)∧TB (k+1) (aA c)∧gl c.key=true:=fun c hc=>⟨(hce c hc).1,lz (hce c hc).2.1 (by omega),(hce c hc).2.2⟩
    rcases List.mem_append.1 hc with hc|hc
    ·exact old c (List.mem_append_left _ hc)
    ·rcases List.mem_cons.1 hc with rfl|hc
     ·exact⟨rfl,hf _ hbc.2.1,hbc.2.2⟩
     ·exact old c (List.mem_append_right _ (List.mem_cons_of_mem _ hc))
   ·refine⟨vj g name Ak,qN hgs rfl,?_⟩
    rw[(kJ (val:=Ak) hne hsz (by decide) h.dir.1).2,hen,hl]
    have:=xQ (name:=name) (val:=Ak) (A:=A.map (cY g)) (B:=B.map (cY g)) (M:=[cY g b]) (map_lt h1) (yv h2) (fun m hm=>by rw[List.mem_singleton]at hm;subst hm;exact hb)
    rw[List.map_append,List.map_cons,List.map_append,List.map_cons]
    have e2:List.map (cY g) A++cY g b::List.map (cY g) B=List.map (cY g) A++[cY g b]++List.map (cY g) B:=by simp
    rw[e2,this,ld fun a ha=>bH (h1 a ha),ld (A:=B) fun b hb=>(bH (h2 b hb)).symm,xC (c:=af b.key (f (aA b)).1) hb]
  ·exact fD h (by omega)
end Go.Proofs.YtpjenciplibdnaaGreatDoor
namespace Go.Proofs.YtpjenciplibdnaaGreatDoor
open Aml Go
end Go.Proofs.YtpjenciplibdnaaGreatDoor
namespace Go.Proofs.YtpjenciplibdnaaGreatDoor
open Aml Go
structure Sv where
 op:Int
 name:ByteArray
 key:ByteArray
 byte:Int
 size:Int
def Y8(s:Sv):ByteArray:=strOfNums (List.replicate s.size.toNat s.byte)
theorem Ci(n:Nat)(x:Int):nI (List.replicate n (.v (.int .u8 x)))=true∧vK (List.replicate n (.v (.int .u8 x)))=List.replicate n x:=by
 induction n with
 |zero=>exact⟨rfl,rfl⟩
 |succ n ih=>
  rw[List.replicate_succ,List.replicate_succ]
  exact⟨ih.1,by show x::vK _=_;rw[ih.2]⟩
end Go.Proofs.YtpjenciplibdnaaGreatDoor
namespace Go.Proofs.YtpjenciplibdnaaGreatDoor
open Aml Go
end Go.Proofs.YtpjenciplibdnaaGreatDoor
namespace Go.Proofs.YtpjenciplibdnaaGreatDoor
open Aml Go
def Xb(s:Sv)(q:N×List C):(N×List C)×Int:=
 if s.op=0 then mG s.name q.1 q.2 else if s.op=1 then wQ s.name q.1 q.2 else if s.op=2 then sc s.name s.key (Y8 s) q.1 q.2 else if s.op=3 then Nr s.name s.key q.1 q.2 else(q,0)
theorem XH{s:Sv}{q:N×List C}(h:s.op=1):wQ s.name q.1 q.2=Xb s q:=by unfold Xb;rw[if_neg (by omega),if_pos h]
theorem XU{s:Sv}{q:N×List C}(h:s.op=2):sc s.name s.key (Y8 s) q.1 q.2=Xb s q:=by unfold Xb;rw[if_neg (by omega),if_neg (by omega),if_pos h]
end Go.Proofs.YtpjenciplibdnaaGreatDoor
namespace Go.Proofs.YtpjenciplibdnaaGreatDoor
open Aml Go Go.RowKit Go.ChangeShapes
def gW(W:World):Gh:=⟨fun b i=>W.cell? ⟨b,i,none⟩,fun _ _=>none,fun _=>none⟩
theorem D4(w0:W0)(h:w0.gh.sub (gW w0.w)):Rel w0 (gW w0.w) ⟨[],[]⟩ w0.w:=
 ⟨⟨j6.refl _ _,fun _ _ h=>(by cases h),h⟩,fun _ _ _ h=>h,by simp,by simp,fun _ _ _ h=>(by cases h),⟨0,fun _ _ _=>rfl⟩,fun _ _ h=>(by cases h),fun _=>none,fun _ _ h=>(by cases h),fun _ _ h=>(by cases h)⟩
def Rd(P:Program)(W:World)(t:TypeId){α:Type}(en:α→List DV)(sz:α→Nat)(ok:α→Prop):Prop:=
 ∀(H:Type) (enc:TypeId×Value→H) (n:Nat) (cs:List Value) (x:DataW H×List MemPlace),DataW.trod enc P W 0 (fun _=>true) true n t cs=some x→
  ∃a,ok a∧sz a≤Rows.uptoBulk x.1∧ai (gW W) (en a) cs∧∀u,u∈cs→u.oneCell'=true
section
variable {P:Program} {W:World}
theorem Rd.conv{t:TypeId}{α β:Type}{en:α→List DV}{sz:α→Nat}{ok:α→Prop}{en':β→List DV}{sz':β→Nat}{ok':β→Prop}(h:Rd P W t en sz ok)(f:α→β)(he:∀a,en a=en' (f a))(hs:∀a,sz' (f a)≤sz a)(ho:∀a,ok a→ok' (f a)):Rd P W t en' sz' ok':=
 fun H enc n cs x hx=>let⟨a,h1,h2,h3,h4⟩:=h H enc n cs x hx;⟨f a,ho a h1,Nat.le_trans (hs a) h2,by rw[←he];exact h3,h4⟩
theorem MA{t:TypeId}(k:IntKind)(ht:P.underlying t=some (.int k)):Rd P W t (fun n:Int=>[.v (.int k n)]) (fun _=>1) (fun n=>(Lit.int k n).wf=true):=by
 intro H enc n cs x hx
 obtain⟨m,rfl,rfl,hw⟩:=DataW.trod_int ht hx
 exact⟨m,hw,by simp[Rows.uptoBulk],ai.cons (.v _ rfl) (ai.nil _),by simp[Value.oneCell']⟩
theorem Mv{t:TypeId}(ht:P.underlying t=some (.int .i64)):Rd P W t (fun n:Int=>[dI n]) (fun _=>1) (fun n=> -9223372036854775808≤n∧n≤9223372036854775807):=
 (MA .i64 ht).conv id (fun _=>rfl) (fun _=>Nat.le_refl _) fun _ h=>bounds_i64 h
theorem Kl{t:TypeId}(ht:P.underlying t=some .string):Rd P W t (fun s:ByteArray=>[dS s]) (fun s=>s.size+1) (fun _=>True):=by
 intro H enc n cs x hx
 obtain⟨s,rfl,rfl,hs⟩:=DataW.trod_string ht hx
 exact⟨s,trivial,(show s.size+1≤s.data.toList.length+1 by rw[Array.length_toList];exact Nat.le_refl _),ai.cons (.v _ rfl) (ai.nil _),by simp[Value.oneCell']⟩
theorem vQ{α:Type}{Q:Nat→α→Prop}:∀(n:Nat),(∀i,i<n→∃a,Q i a)→∃l:List α,l.length=n∧∀(i:Nat) (a:α),l[i]? =some a→Q i a
 |0,_=>⟨[],rfl,by simp⟩
 |n+1,h=>by
  obtain⟨l,h1,h2⟩:=vQ n fun i hi=>h i (by omega)
  obtain⟨a,ha⟩:=h n (by omega)
  refine⟨l++[a],by simp[h1],fun i b hb=>?_⟩
  by_cases hi:i<n
  ·rw[List.getElem?_append_left (by omega)]at hb;exact h2 i b hb
  ·have hlt:i<(l++[a]).length:=(List.getElem?_eq_some_iff.1 hb).1
   have:i=n:=by simp at hlt;omega
   subst this
   rw[List.getElem?_append_right (by omega),h1]at hb
   simp at hb;subst hb;exact ha
theorem yZ{H α:Type}{sz:α→Nat}:∀{l:List α} {es:List (DataW H)},l.length=es.length→(∀(i:Nat) (a:α) (e:DataW H),l[i]? =some a→es[i]? =some e→sz a≤Rows.uptoBulk e)→(l.map sz).sum≤Rows.uptoBulkAll es
 |[],[],_,_=>by simp[Rows.uptoBulkAll]
 |[],_::_,h,_=>by simp at h
 |_::_,[],h,_=>by simp at h
 |a::l,e::es,h,hs=>by
  have h1:=hs 0 a e rfl rfl
  have h2:=yZ (l:=l) (es:=es) (by simpa using h) fun i a e x y=>hs (i+1) a e (by simpa using x) (by simpa using y)
  simp only[List.map_cons,List.sum_cons,Rows.uptoBulkAll]
  omega
theorem oL{a:Addr}{k:Nat}{cs:List Value}(h:W.cells? 0 a k=some cs):cs.length=k∧∀j,j<k→W.cell? (a.add j)=cs[j]? :=by
 unfold World.cells? at h
 rw[if_pos (Nat.zero_le _)]at h
 exact⟨by simpa using mapM_some_length h,fun j hj=>mapM_some_get h j j (by simp[hj])⟩
theorem F9{t e:TypeId}{α:Type}{en:α→List DV}{sz:α→Nat}{ok:α→Prop}(h:Rd P W e en sz ok)(ht:P.underlying t=some (.slice e)){k:Nat}(hk:P.cellsOf e=k)(hk0:0<k)(enE:α→DV)(mk:List Value→Value)
 (hmk:∀a cs,ai (gW W) (en a) cs→(∀u,u∈cs→u.oneCell'=true)→cs.length=k→aK (gW W) (enE a) (mk cs)∧(mk cs).cells.toList=cs):
 Rd P W t (fun l:List α=>[.sl k false (l.map enE)]) (fun l=>(l.map sz).sum+1) (fun l=>∀a,a∈l→ok a):=by
 intro H enc n cs x hx
 rcases DataW.trod_slice ht hx with⟨rfl,rfl⟩|⟨a,len,cap,elems,rest,n',rfl,rfl,rfl, -,hlc,hcm,hel,hget, -, -⟩
 ·exact⟨[],by simp,by simp[Rows.uptoBulk],ai.cons (.nil _ _ _ _ (by simp)) (ai.nil _),by simp[Value.oneCell']⟩
 ·have hq:∀i,i<len→∃p:α×List Value,ok p.1∧(∀y,elems[i]? =some y→sz p.1≤Rows.uptoBulk y.1)∧W.cells? 0 (a.add (i*k)) k=some p.2∧ai (gW W) (en p.1) p.2∧∀u,u∈p.2→u.oneCell'=true:=by
   intro i hi
   have h1:=hget i hi
   rw[hk]at h1
   have h2:elems[i]? =some elems[i]:=List.getElem?_eq_getElem (by omega)
   rw[h2,Option.bind_eq_some_iff]at h1
   obtain⟨ci,hc,htr⟩:=h1
   obtain⟨b,b1,b2,b3,b4⟩:=h H enc n' ci _ htr
   exact⟨(b,ci),b1,fun y hy=>by rw[h2]at hy;cases hy;exact b2,hc,b3,b4⟩
  obtain⟨ps,hpl,hps⟩:=vQ len hq
  refine⟨ps.map (·.1),fun b hb=>?_,?_,?_,by simp[Value.oneCell']⟩
  ·obtain⟨p,hp,rfl⟩:=List.mem_map.1 hb
   obtain⟨i,hi⟩:=List.getElem?_of_mem hp
   exact(hps i p hi).1
  ·have:=yZ (sz:=sz) (l:=ps.map (·.1)) (es:=elems.map (·.1)) (by simp[hpl,hel]) fun i b e x y=>by
    rw[List.getElem?_map,Option.map_eq_some_iff]at x y
    obtain⟨p,hp,rfl⟩:=x
    obtain⟨y,hy,rfl⟩:=y
    exact(hps i p hp).2.1 y hy
   simp only[Rows.uptoBulk]
   omega
  ·refine ai.cons ?_ (ai.nil _)
   by_cases h0:len=0
   ·subst h0
    have:ps=[]:=List.eq_nil_of_length_eq_zero hpl
    subst this
    exact .nil _ _ _ _ (by simp)
   ·have hspot:a.spot=none:=by
     obtain⟨p,hp⟩:∃p,ps[0]? =some p:=⟨_,List.getElem?_eq_getElem (by omega)⟩
     obtain⟨hl,hc⟩:=oL (hps 0 p hp).2.2.1
     have:=hc 0 (by omega)
     rw[List.getElem?_eq_getElem (by omega)]at this
     simp only[Nat.zero_mul,Addr.add,if_true]at this
     unfold World.cell? at this
     split at this
     ·split at this
      ·cases this
      ·rename_i hs;simpa using hs
     ·cases this
    obtain⟨b,o,sp⟩:=a
    simp only at hspot
    subst hspot
    have hus:(ps.map fun p=>mk p.2).length=len:=by simp[hpl]
    have hmk':∀(i:Nat) (p:α×List Value),ps[i]? =some p→aK (gW W) (enE p.1) (mk p.2)∧(mk p.2).cells.toList=p.2∧p.2.length=k:=fun i p hp=>by
     have hc:=(oL (hps i p hp).2.2.1).1
     have:=hmk p.1 p.2 (hps i p hp).2.2.2.1 (hps i p hp).2.2.2.2 hc
     exact⟨this.1,this.2,hc⟩
    have:=aK.sl (g:=gW W) k false ((ps.map (·.1)).map enE) b o cap (ps.map fun p=>mk p.2) (by simp) (by simp) (by rw[hus];exact hlc) hcm
     (fun i d u hd hu=>by
      simp only[List.map_map,List.getElem?_map,Option.map_eq_some_iff]at hd hu
      obtain⟨p,hp,rfl⟩:=hd
      obtain⟨q,hq,rfl⟩:=hu
      rw[hp]at hq;cases hq
      exact(hmk' i p hp).1)
     (fun i u hu=>by
      rw[List.getElem?_map,Option.map_eq_some_iff]at hu
      obtain⟨p,hp,rfl⟩:=hu
      have:=hmk' i p hp
      rw[←Array.length_toList,this.2.1,this.2.2])
     (fun u hu x hx=>by
      obtain⟨p,hp,rfl⟩:=List.mem_map.1 hu
      obtain⟨i,hi⟩:=List.getElem?_of_mem hp
      rw[(hmk' i p hi).2.1]at hx
      exact(hps i p hi).2.2.2.2 x hx)
     (fun i u j x hu hx=>by
      rw[List.getElem?_map,Option.map_eq_some_iff]at hu
      obtain⟨p,hp,rfl⟩:=hu
      have hm:=hmk' i p hp
      have hc:=(oL (hps i p hp).2.2.1).2
      rw[←Array.getElem?_toList,hm.2.1]at hx
      have hj:j<k:=by rw[←hm.2.2];exact(List.getElem?_eq_some_iff.1 hx).1
      have:=hc j hj
      rw[hx]at this
      show W.cell? ⟨b,o+i*k+j,none⟩=some x
      have e:(Addr.add ⟨b,o,none⟩ (i*k)).add j=⟨b,o+i*k+j,none⟩:=by
       unfold Addr.add
       split <;>split <;>simp_all
      rw[←e];exact this)
    rw[hus]at this
    exact this
theorem Gp{t e:TypeId}{α:Type}{en:α→List DV}{sz:α→Nat}{ok:α→Prop}(h:Rd P W e en sz ok)(ht:P.underlying t=some (.slice e)){k:Nat}(hk:P.cellsOf e=k)(hk0:0<k):
 Rd P W t (fun l:List α=>[.sl k false (l.map fun a=> .agg (en a))]) (fun l=>(l.map sz).sum+1) (fun l=>∀a,a∈l→ok a):=
 F9 h ht hk hk0 (fun a=> .agg (en a)) (fun cs=> .agg cs.toArray) fun a cs hr h1 hl=>⟨.agg _ _ hr.len hr.at_ h1,rfl⟩
def Xi(P:Program)(W:World)(total off:Nat)(fs:List Field){α:Type}(en:α→List DV)(sz:α→Nat)(ok:α→Prop):Prop:=
 ∀(H:Type) (enc:TypeId×Value→H) (n:Nat) (cs:List Value) (xs:List (DataW H×List MemPlace)),cs.length=total→xs.length=fs.length→
  (∀(i:Nat) (f:Field),fs[i]? =some f→DataW.trod enc P W 0 (fun _=>true) true n f.type ((cs.drop f.offset).take (P.cellsOf f.type))=xs[i]?)→
  ∃a,ok a∧sz a≤Rows.uptoBulkAll (xs.map (·.1))∧ai (gW W) (en a) (cs.drop off)∧∀u,u∈cs.drop off→u.oneCell'=true
theorem Qw{total:Nat}:Xi P W total total [] (fun _:Unit=>[]) (fun _=>0) (fun _=>True):=by
 intro H enc n cs xs hc hx hg
 refine⟨(),trivial,Nat.zero_le _,?_,?_⟩
 ·rw[List.drop_eq_nil_of_le (by omega)];exact ai.nil _
 ·rw[List.drop_eq_nil_of_le (by omega)];simp
theorem pX{total off k:Nat}{f:Field}{fs:List Field}{α β:Type}{en:α→List DV}{sz:α→Nat}{ok:α→Prop}{en':β→List DV}{sz':β→Nat}{ok':β→Prop}(h:Rd P W f.type en sz ok)(hf:f.offset=off)(hk:P.cellsOf f.type=k)(h':Xi P W total (off+k) fs en' sz' ok'):
 Xi P W total off (f::fs) (fun p:α×β=>en p.1++en' p.2) (fun p=>sz p.1+sz' p.2) (fun p=>ok p.1∧ok' p.2):=by
 intro H enc n cs xs hc hx hg
 cases xs with
 |nil=>simp at hx
 |cons x xs=>
  have h0:=hg 0 f rfl
  rw[hf,hk]at h0
  obtain⟨a,a1,a2,a3,a4⟩:=h H enc n _ x h0
  obtain⟨b,b1,b2,b3,b4⟩:=h' H enc n cs xs hc (by simpa using hx) fun i f hf=>by have:=hg (i+1) f (by simpa using hf);simpa using this
  have e:cs.drop off=(cs.drop off).take k++cs.drop (off+k):=by rw[←List.drop_drop,List.take_append_drop]
  refine⟨(a,b),⟨a1,b1⟩,?_,?_,?_⟩
  ·simp only[List.map_cons,Rows.uptoBulkAll];omega
  ·rw[e];exact a3.append b3
  ·intro u hu
   rw[e,List.mem_append]at hu
   exact hu.elim (a4 u) (b4 u)
theorem Gm{t:TypeId}{fs:Array Field}{α:Type}{en:α→List DV}{sz:α→Nat}{ok:α→Prop}(ht:P.underlying t=some (.struct fs)){total:Nat}(hc:P.cellsOf t=total){fl:List Field}(hfl:fs.toList=fl)(h:Xi P W total 0 fl en sz ok):
 Rd P W t en (fun a=>sz a+1) ok:=by
 intro H enc n cs x hx
 subst hfl
 obtain⟨xs,n',rfl,rfl,h1,h2,h3⟩:=DataW.trod_struct ht hx
 obtain⟨a,a1,a2,a3,a4⟩:=h H enc n' cs xs (by rw[h1,hc]) (by simpa using h2) fun i f hf=>h3 i f (by simpa using hf)
 exact⟨a,a1,by simp only[Rows.uptoBulk];omega,by simpa using a3,by simpa using a4⟩
def Xz(P:Program)(W:World)(ts:List TypeId){α:Type}(en:α→List DV)(sz:α→Nat)(ok:α→Prop):Prop:=
 ∀(H:Type) (enc:TypeId×Value→H) (base:Nat) (vs:List Value) (ds:List (DataW H)) (p:List MemPlace),(∀(j:Nat) t v,ts[j]? =some t→vs[j]? =some v→Value.okWide P W .any base t v)→DataW.TrodAll enc P W 0 (fun _=>true) true ts vs ds p→
  ∃a,ok a∧sz a≤Rows.uptoBulkAll ds∧ai (gW W) (en a) vs
theorem NV:Xz P W [] (fun _:Unit=>[]) (fun _=>0) (fun _=>True):=by
 intro H enc base vs ds p hv h
 obtain⟨rfl,rfl,rfl⟩:=trodAll_nil h
 exact⟨(),trivial,Nat.zero_le _,ai.nil _⟩
def SK(P:Program)(t:TypeId):Bool:=match P.underlying t with
 |some .bool|some .string|some (.int _)|some (.slice _)=>true
 |_=>false
theorem C7{t:TypeId}(ht:SK P t=true){base:Nat}{v:Value}(h:Value.okWide P W .any base t v):v.cells= #[v]∧v.oneCell'=true:=by
 unfold SK at ht
 unfold Value.okWide Cell.okWide Cell.ok at h
 split at ht
 ·rename_i hu;rw[hu]at h;cases v <;>simp_all [Value.cells,Value.oneCell']
 ·rename_i hu;rw[hu]at h;cases v <;>simp_all [Value.cells,Value.oneCell']
 ·rename_i hu;rw[hu]at h;cases v <;>simp_all [Value.cells,Value.oneCell']
 ·rename_i hu;rw[hu]at h;cases v <;>simp_all [Value.cells,Value.oneCell']
 ·cases ht
theorem Fq{t:TypeId}{ts:List TypeId}{α β:Type}{en:α→DV}{sz:α→Nat}{ok:α→Prop}{en':β→List DV}{sz':β→Nat}{ok':β→Prop}(h:Rd P W t (fun a=>[en a]) sz ok)(ht:SK P t=true)(h':Xz P W ts en' sz' ok'):
 Xz P W (t::ts) (fun p:α×β=>en p.1::en' p.2) (fun p=>sz p.1+sz' p.2) (fun p=>ok p.1∧ok' p.2):=by
 intro H enc base vs ds p hv hA
 obtain⟨v,vs',d,ds',p1,q1,rfl,rfl,rfl,h1,h2⟩:=trodAll_cons hA
 obtain⟨b,b1,b2,b3⟩:=h' H enc base vs' ds' q1 (fun j t v x y=>hv (j+1) t v (by simpa using x) (by simpa using y)) h2
 obtain⟨n,hn⟩:=h1
 obtain⟨a,a1,a2,a3,a4⟩:=h H enc n _ _ hn
 obtain⟨hc,ho⟩:=C7 ht (hv 0 t v rfl rfl)
 rw[hc]at a3
 refine⟨(a,b),⟨a1,b1⟩,by simp only[Rows.uptoBulkAll];simp only at a2;omega,ai.cons ?_ b3⟩
 obtain⟨u,us,he,r1,r2⟩:=a3.bP
 simp only[List.cons.injEq]at he
 rw[he.1];exact r1
theorem nX{H:Type}{enc:TypeId×Value→H}(hl:laidOutB P=true){W':World}(hb:Below W.heap.size W W'){sp:Nat→Bool}:∀{ts:List TypeId} {vs:List Value} {ds:List (DataW H)} {ps:List MemPlace},(∀t,t∈ts→P.readableRec t=true∧t<P.types.size)→
 DataW.TrodAll enc P W 0 (fun _=>true) true ts vs ds ps→(∀p,p∈ps→p.block<W.heap.size∧sp p.block=true)→DataW.TrodAll enc P W' 0 sp true ts vs ds ps
 |[],vs,ds,ps,_,h,_=>by
  obtain⟨rfl,rfl,rfl⟩:=trodAll_nil h
  exact rfl
 |t::ts,vs,ds,ps,ht,h,hp=>by
  obtain⟨v,vs',d,ds',p1,q1,rfl,rfl,rfl,h1,h2⟩:=trodAll_cons h
  exact⟨p1,q1,WideElems.Trod_stays hl (ht t List.mem_cons_self).1 (ht t List.mem_cons_self).2 h1 (fun x hx=>hb.same (hp x (List.mem_append_left _ hx)).1) (fun x hx=>(hp x (List.mem_append_left _ hx)).2),
   nX hl hb (fun t' ht'=>ht t' (List.mem_cons_of_mem _ ht')) h2 fun x hx=>hp x (List.mem_append_right _ hx),rfl⟩
theorem ve{w0:W0}(hw0:w0.w=W)(hg0:w0.gh.sub (gW W)){H:Type}(enc:TypeId×Value→H){f:FuncId}{fn:Func}{s:ChangeSpec}{ts:List TypeId}{α:Type}{en:α→List DV}{sz:α→Nat}{ok:α→Prop}{tb:TypeId}(hr:Xz P W ts en sz ok)(hts:fn.params=ts.toArray)(hres:fn.resultTypes= #[tb])(htb:P.underlying tb=some .bool)(hvars:s.vars=[])
 (hl:laidOutB P=true) (hT:∀t,t∈ts→P.readableRec t=true∧t<P.types.size) (hspec:∀ds:List (DataW H),ds.length=ts.length→s.fn H ds={results:=[.lit (.bool true)],args:=ds})
 (hcall:∀a,ok a→sz a≤1048576→aa P w0 f (en a) ⟨[],[]⟩ fun d _=>d=dB true)
 (base:Nat) (args:Array Value) (ds gs:List (DataW H)) (before:List MemPlace) (hval:∀(j:Nat) t v,fn.params[j]? =some t→args[j]? =some v→Value.okWide P W .any base t v)
 (hW:DataW.Whole enc P fn.params.toList s.vars false W args.toList ds gs before) (hk:Rows.uptoBulkAll (ds++gs)≤1048576):
 Calls P f args W fun e W'=>∃v,e= .returned v∧s.post enc P fn false true false false W args v W':=by
 have hW':=hW
 obtain⟨p,q,hA,hV,rfl,hfz,hnd⟩:=hW
 rw[hvars]at hV
 have hgs:gs=[]∧q=[]:=by
  cases gs with
  |nil=>exact⟨rfl,hV⟩
  |cons g gs=>exact hV.elim
 obtain⟨rfl,rfl⟩:=hgs
 rw[hts]at hA
 simp only[List.append_nil]at hk
 obtain⟨a,a1,a2,a3⟩:=hr H enc base args.toList ds p (fun j t v x y=>hval j t v (by rw[hts];simpa using x) (by simpa using y)) (by simpa using hA)
 have hc:=hcall a a1 (Nat.le_trans a2 hk) (gW W) args W (by have:=D4 w0 (by rw[hw0];exact hg0);rw[hw0]at this;exact this) a3
 refine hc.mono ?_
 rintro e W' ⟨r,g',d,S',rfl,hle,hR,hd,rfl⟩
 have hb:=hR.below.base.below
 unfold W0.heap at hb
 rw[hw0]at hb
 have hrv:r= .bool true:=td hd
 subst hrv
 have hlen:ds.length=ts.length:=by
  have:∀{ts:List TypeId} {vs:List Value} {ds:List (DataW H)} {ps:List MemPlace},DataW.TrodAll enc P W 0 (fun _=>true) true ts vs ds ps→ds.length=ts.length:=by
   intro ts
   induction ts with
   |nil=>intro vs ds ps h;obtain⟨rfl,rfl,rfl⟩:=trodAll_nil h;rfl
   |cons t ts ih=>
    intro vs ds ps h
    obtain⟨v,vs',d,ds',p1,q1,rfl,rfl,rfl,h1,h2⟩:=trodAll_cons h
    simp[ih h2]
  exact this (by simpa using hA)
 have hsp:=hspec ds hlen
 have hold:∀x,x∈p→x.block<W.heap.size:=fun x hx=>hW'.lt x (by simpa using hx)
 have hres':∀(b:Nat) (sp:Nat→Bool) (hd:Bool),DataW.TrodAll enc P W' b sp hd fn.resultTypes.toList ((Value.bool true).resultList fn.resultTypes.size) (s.fn H (ds++[])).results []:=by
  intro b sp hd
  rw[List.append_nil,hsp,hres]
  exact trodAll_cons_mk (shut_bool htb _) trodAll_mk0
 have hargs':∀sp:Nat→Bool,(∀x,x∈p→sp x.block=true)→DataW.TrodAll enc P W' 0 sp true fn.params.toList args.toList (s.fn H (ds++[])).args p:=by
  intro sp hs
  rw[List.append_nil,hsp,hts]
  exact nX hl hb hT (by simpa using hA) fun x hx=>⟨hold x hx,hs x hx⟩
 have hvars':∀sp:Nat→Bool,DataW.TrodVars enc P W' sp s.vars (s.fn H (ds++[])).vars []:=by
  intro sp
  rw[List.append_nil,hsp,hvars]
  exact rfl
 refine⟨.bool true,rfl,ds,[],p++[],[],p,[],hW',hres' _ _ _,hargs' _ (fun x hx=>by simpa using hold x hx),hvars' _,World.keptBut_mono (fun x hx=>⟨hx,.inr (by simpa using hx)⟩) (hb.frame _),fun _=>?_⟩
 refine⟨?_,_,_,([]++p)++[],⟨[]++p,[],trodAll_append (hargs' _ (fun _ _=>rfl)) (hres' _ _ _),hvars' _,rfl,?_,?_⟩,?_⟩
 ·exact ok_one hres rfl (okWide_bool_mk htb _)
 ·intro b off hp
  have hp:MemPlace.cell b off∈p:=by simpa using hp
  rw[hb.frozen (hold _ hp)]
  exact hfz b off (by simpa using hp)
 ·intro ha;cases ha
 ·intro x hx _
  simpa using hx
end
end Go.Proofs.YtpjenciplibdnaaGreatDoor
namespace Go.Proofs.YtpjenciplibdnaaGreatDoor
open Aml Go Go.RowKit Go.ChangeShapes
open Aml Go
end Go.Proofs.YtpjenciplibdnaaGreatDoor
namespace Go.Proofs.YtpjenciplibdnaaGreatDoor
open Aml Go Go.RowKit Go.ChangeShapes
def Ru(c:C):C:= .mk c.key c.data [] []
def tT(n:N):List C:=(di n).map Ru
end Go.Proofs.YtpjenciplibdnaaGreatDoor
namespace Go.Proofs.YtpjenciplibdnaaGreatDoor
open Aml Go
def PZ(n:N):Prop:=n.l=[]→n.aq=0
theorem Rv:PZ l5:=fun _=>rfl
theorem RT{key val:ByteArray}{n:N}(h:gQ n)(h0:key≠aJ)(h1:key.size≤16)(h2:val.size≤400):PZ (k7 key val n):=fun e=>by
 have:=(kJ (val:=val) h0 h1 h2 h).2
 rw[cF,e,List.flatMap_nil]at this
 have:=congrArg List.length this
 unfold pI at this
 simp at this
theorem Sc{key:ByteArray}{n:N}(h:gQ n)(hz:PZ n):PZ (l9 key n):=fun e=>by
 cases hf:(cw key n).isSome with
 |true=>rw[vR h hf e];rfl
 |false=>
  have:l9 key n=n:=by unfold l9;rw[if_neg (by rw[hf];simp)]
  rw[this]at e ⊢
  exact hz e
theorem EF{l:List C}(h:dm l){i j:Nat}{a b:C}(hij:i<j)(ha:l[i]? =some a)(hb:l[j]? =some b):cH a.key b.key=true:=by
 obtain⟨h1,rfl⟩:=List.getElem?_eq_some_iff.1 ha
 obtain⟨h2,rfl⟩:=List.getElem?_eq_some_iff.1 hb
 exact List.pairwise_iff_getElem.1 h i j h1 h2 hij
def Ve(c:C):Prop:=c.data.size≤400∧(c.ak≠[]→16<c.data.size)
theorem Yf(w0:W0)(c:C)(S:St)(h:Ve c):aa Tryz.prog w0 272 [fS c] S (fun d S'=>d=dB false∧S'=S):=by
 obtain⟨h1,h2⟩:=h
 refine aZ [] mx Tryz.func272 rfl rfl (by kernel_rfl) ?_;(refine @ab _ ?_;refine an @Tryz.ntmps272 ?_)
 intro b
 refine⟨fun h3=>absurd h3 (by omega),fun _ h3=>ao (Ap w0 _ _) ?_⟩
 ·(refine @ab _ ?_;refine au ?_)
  have:c.ak≠[]:=fun e=>by rw[e]at h3;simp at h3
  have:=h2 this
  unfold need
  rw[if_pos (by omega)]
  omega
theorem YV(w0:W0)(l:List C)(S:St)(h:∀c,c∈l→Ve c)(hl:l.length≤1048576):aa Tryz.prog w0 275 [.sl 2 false (l.map fS),.v (.func (.func 272) #[] #[])] S (fun d S'=>d=dI (-1)∧S'=S):=by
 refine aZ [] mx Tryz.func275 rfl rfl (by kernel_rfl) ?_;(refine @ab _ ?_;refine an @Tryz.ntmps275 ?_)
 refine aF [] l.length [0,1,7,8] (fun k=>[(8,dI k)]) (fun _=>S) (fun _=>True) mx (by kernel_rfl) ?_ ?_
 ·(refine @ab _ ?_;exact aV)
 ·intro k hk _
  (refine @ab _ ?_;refine au ?_)
  refine fun hlt=>⟨hlt,fun c hc=>ao (Yf w0 c _ (h c (List.mem_of_getElem? hc))) ?_⟩
  (refine @ab _ ?_;refine au ?_)
  exact⟨hlt,cm k (by omega)⟩
theorem V2(w0:W0)(l:List C)(S:St)(h:∀c,c∈l→Ve c)(hl:l.length≤1048576):aa Tryz.prog w0 271 [.sl 2 false (l.map fS),.v (.func (.func 272) #[] #[])] S (fun d S'=>d=dB false∧S'=S):=by
 refine aZ [] mx Tryz.func271 rfl rfl (by kernel_rfl) ?_;(refine @ab _ ?_;refine an @Tryz.ntmps271 ?_)
 refine ao (YV w0 l _ h hl) ?_
 (refine @ab _ ?_;refine au ?_)
 omega
structure TM(b:Bool)(l:List C)(lo hi:ByteArray):Prop where
 bQ:dm l
 size:∀c,c∈l→c.key.size≤16
 first:∀(i:Nat) c,l[i]? =some c→(c.key=aJ↔i=0∧b=false)
 low:∀(i:Nat) c,l[i]? =some c→¬(i=0∧b=false)→mg lo c.key=true
 high:hi≠aJ→∀c,c∈l→cH c.key hi=true
theorem T7{a:ByteArray}(h:cH a aJ=true):False:=by
 have:=ig.1 (ot a)
 rw[h]at this;cases this
theorem p9:∀{d:Nat} {n:N} {lo hi:ByteArray},Good d n→(∀x,x∈di n→mg lo x.key=true)→(hi≠aJ→∀x,x∈di n→cH x.key hi=true)→TM n.leaf n.l lo hi
 |0,n,lo,hi,h,h1,h2=>by
  rw[h.1]
  rw[cM h.1]at h1 h2
  exact⟨h.2.1,fun c hc=>(h.2.2 c hc).2.1,fun i c hc=>⟨fun e=>absurd e (h.2.2 c (List.mem_of_getElem? hc)).1,fun e=>by cases e.2⟩,fun i c hc _=>h1 c (List.mem_of_getElem? hc),fun e c hc=>h2 e c hc⟩
 |d+1,n,lo,hi,h,h1,h2=>by
  obtain⟨hl,hne,hB⟩:=h
  rw[hl]
  have hr:dm n.l:=hB.pw.imp fun h=>h.1
  have hin:∀c,c∈n.l→∀x,x∈ja false c→x∈di n:=fun c hc x hx=>by rw[cF,hl];exact List.mem_flatMap.2 ⟨c,hc,hx⟩
  have hlt:∀(i:Nat) c,n.l[i]? =some c→0<i→∃x,x∈di n∧cH x.key c.key=true:=fun i c hc hi=>by
   obtain⟨j,rfl⟩:∃j,i=j+1:=⟨i-1,by omega⟩
   obtain⟨hi2,rfl⟩:=List.getElem?_eq_some_iff.1 hc
   have hj:n.l[j]? =some n.l[j]:=List.getElem?_eq_getElem (by omega)
   obtain⟨x,hx⟩:=lL (hB.cell _ (List.mem_of_getElem? hj))
   exact⟨x,hin _ (List.mem_of_getElem? hj) x hx,(List.pairwise_iff_getElem.1 hB.pw j (j+1) (by omega) hi2 (by omega)).2 x hx⟩
  refine⟨hr,fun c hc=>(hB.cell c hc).1.1,fun i c hc=>⟨fun e=>⟨?_,rfl⟩,fun e=>?_⟩,fun i c hc hi=>?_,fun e c hc=>?_⟩
  ·refine Nat.eq_zero_of_not_pos fun hp=>?_
   obtain⟨x,_,hx⟩:=hlt i c hc hp
   rw[e]at hx
   exact T7 hx
  ·have:=hB.k0
   rw[e.1]at hc
   cases hx:n.l with
   |nil=>rw[hx]at hc;cases hc
   |cons a l=>rw[hx]at hc this;cases hc;exact this
  ·obtain⟨x,hx,hxc⟩:=hlt i c hc (Nat.pos_of_ne_zero fun e=>hi ⟨e,rfl⟩)
   exact qS (lX (h1 x hx) hxc)
  ·have hcG:=hB.cell c hc
   obtain⟨x,hx⟩:=lL hcG
   exact lX (hcG.2.1 x hx) (h2 e x (hin c hc x hx))
theorem JL{n:N}(h:Good 0 n):∀c,c∈n.l→Ve c:=fun c hc=>by
 obtain⟨_,_,h3,h4,_⟩:=h.2.2 c hc
 exact⟨h3,h4⟩
theorem VX(w0:W0)(n:N)(lo hi:ByteArray)(S:St)(hlf:n.leaf=true)(hk:TM true n.l lo hi)(hv:∀c,c∈n.l→Ve c)(hl:n.l.length≤1048576):aa Tryz.prog w0 263 [eT n,.agg [dS lo,dS hi]] S (fun d S'=>d=dB true∧S'=S):=by
 have hany:=fun S=>V2 w0 n.l S hv hl
 rw[bR hlf]
 refine aZ [6] mx Tryz.func263 rfl rfl (by kernel_rfl) ?_;(refine @ab _ ?_;refine an @Tryz.ntmps263 ?_)
 intro b b1
 refine⟨fun h=>absurd h (by omega),fun _=>?_⟩
 refine aF [6] n.l.length [2,3,46,47,48] (fun k=>[(48,dI k)]) (fun k=>⟨(b1.n,[dS lo,dS hi])::(b.n,[dI n.aq,dB true,.sl 1 false (n.l.map fun c=>dS c.key),.sl 2 false (n.l.map fS),.sl 5 false []])::S.box,S.acc⟩) (fun _=>True) mx (by kernel_rfl) ?_ ?_
 ·(refine @ab _ ?_;exact aV)
 ·intro k hk' _
  (refine @ab _ ?_;refine au ?_)
  refine⟨fun hlt=>⟨hlt,fun a ha=>?_⟩,fun _=>ao (hany _) ?_⟩
  ·have hm:=List.mem_of_getElem? ha
   have f1:eS a.key {data:= #[]}=false:=dc.2 fun e=>(by have:=((hk.first k a ha).1 e).2;cases this)
   have f3:cH a.key lo=false:=ig.1 (hk.low k a ha fun e=>by cases e.2)
   have f2:((a.key.size:Int)>16)=False:=eq_false (by have:=hk.size a hm;omega)
   have f4:eS hi {data:= #[]}=false→cH a.key hi=true:=fun e=>hk.high (dc.1 e) a hm
   have f5:=cm k (by omega)
   have f4':eS hi {data:= #[]}=false→cH a.key hi=false→False:=fun e h=>by rw[f4 e]at h;cases h
   rcases Nat.eq_zero_or_pos k with h0|h0
   ·have z1:((k:Int)=0)=True:=eq_true (by omega)
    have z2:((k:Int)>0)=False:=eq_false (by omega)
    refine On [] mx (by kernel_rfl) ?_
    (refine @ab _ ?_;refine XF @f1 @f2 @f3 @f5 @z1 @z2 @hlt ?_)
    exact f4'
   ·skip
    have z1:((k:Int)=0)=False:=eq_false (by omega)
    have z2:((k:Int)>0)=True:=eq_true (by omega)
    have z3:IntKind.i64.wrap ((k:Int)-1)=((k-1:Nat):Int):=by rw[aX (by omega) (by omega)];omega
    have z4:∀c,n.l[k-1]? =some c→mg a.key c.key=false:=fun c hc=>tr.2 (EF hk.bQ (i:=k-1) (j:=k) (by omega) hc ha)
    have z5:∀c,n.l[k-1]? =some c→mg a.key c.key=true→False:=fun c hc h=>by rw[z4 c hc]at h;cases h
    refine On [] mx (by kernel_rfl) ?_
    (refine @ab _ ?_;refine OR @f1 @f2 @f3 @f5 @z1 @z2 @z3 @hlt ?_)
    exact⟨by omega,fun c hc=>⟨z5 c hc,fun _=>f4'⟩⟩
  ·(refine @ab _ ?_;exact aV)
theorem W2(w0:W0)(n:N)(lo hi:ByteArray)(S:St)(hlf:n.leaf=false)(hk:TM false n.l lo hi)(hone:∀c,c∈n.l→∃k,c.kid=[k])(hl:n.l.length≤1048576):aa Tryz.prog w0 263 [eT n,.agg [dS lo,dS hi]] S (fun d S'=>d=dB true∧S'=S):=by
 have hany:=fun S=>V2 w0 [] S (fun c hc=>by cases hc) (by simp)
 rw[eB hlf hone]
 unfold yN
 have hdk:=iH n.l
 generalize dK n.l=K at*
 refine aZ [6] mx Tryz.func263 rfl rfl (by kernel_rfl) ?_;(refine @ab _ ?_;refine ba @Tryz.ntmps263 @hdk ?_)
 intro b b1
 refine⟨fun h=>absurd h (by omega),fun _=>?_⟩
 refine aF [6] n.l.length [2,3,46,47,48] (fun k=>[(48,dI k)]) (fun k=>⟨(b1.n,[dS lo,dS hi])::(b.n,[dI n.aq,dB false,.sl 1 false (n.l.map fun c=>dS c.key),.sl 2 false [],.sl 5 false K])::S.box,S.acc⟩) (fun _=>True) mx (by kernel_rfl) ?_ ?_
 ·(refine @ab _ ?_;exact aV)
 ·intro k hk' _
  (refine @ab _ ?_;refine au ?_)
  refine⟨fun hlt=>⟨hlt,fun a ha=>?_⟩,fun _=>ao (hany _) ?_⟩
  ·have hm:=List.mem_of_getElem? ha
   have f2:((a.key.size:Int)>16)=False:=eq_false (by have:=hk.size a hm;omega)
   have f4:eS hi {data:= #[]}=false→cH a.key hi=true:=fun e=>hk.high (dc.1 e) a hm
   have f5:=cm k (by omega)
   have f4':eS hi {data:= #[]}=false→cH a.key hi=false→False:=fun e h=>by rw[f4 e]at h;cases h
   rcases Nat.eq_zero_or_pos k with h0|h0
   ·have z1:((k:Int)=0)=True:=eq_true (by omega)
    have z2:((k:Int)>0)=False:=eq_false (by omega)
    have f1:eS a.key {data:= #[]}=true:=cN.2 ((hk.first k a ha).2 ⟨h0,rfl⟩)
    refine On [] mx (by kernel_rfl) ?_
    (refine @ab _ ?_;refine DD @f1 @f2 @f5 @z1 @z2 @hlt ?_)
    exact f4'
   ·have f1:eS a.key {data:= #[]}=false:=dc.2 fun e=>absurd ((hk.first k a ha).1 e).1 (by omega)
    have f3:cH a.key lo=false:=ig.1 (hk.low k a ha fun e=>absurd e.1 (by omega))
    have z1:((k:Int)=0)=False:=eq_false (by omega)
    have z2:((k:Int)>0)=True:=eq_true (by omega)
    have z3:IntKind.i64.wrap ((k:Int)-1)=((k-1:Nat):Int):=by rw[aX (by omega) (by omega)];omega
    have z4:∀c,n.l[k-1]? =some c→mg a.key c.key=false:=fun c hc=>tr.2 (EF hk.bQ (i:=k-1) (j:=k) (by omega) hc ha)
    have z5:∀c,n.l[k-1]? =some c→mg a.key c.key=true→False:=fun c hc h=>by rw[z4 c hc]at h;cases h
    refine On [] mx (by kernel_rfl) ?_
    (refine @ab _ ?_;refine OR @f1 @f2 @f3 @f5 @z1 @z2 @z3 @hlt ?_)
    exact⟨by omega,fun c hc=>⟨z5 c hc,fun _=>f4'⟩⟩
  ·(refine @ab _ ?_;exact aV)
def Fo(b:Bool)(l:List C):ByteArray:=cS (if b then 1 else 2) ((l.map (dV b)).map (eH b))
mutual
def bq:N→LS→N×LS
 | .mk p b l,q=>if p≠0∨(b=true∧l=[])then(.mk p b l,q)else
  let r:=ah b l q
  (.mk (r.2.1.headD 0) b r.1,(r.2.1.tail,r.2.2++[(r.2.1.headD 0,Fo b r.1)]))
def eU(b:Bool):C→LS→C×LS
 | .mk k d ps kid,q=>if b then(.mk k d (eX d ps q).1 kid,(eX d ps q).2)else
  let r:=Rf kid q
  (.mk k d ps r.1,r.2)
def ah(b:Bool):List C→LS→List C×LS
 |[],q=>([],q)
 |c::l,q=>
  let r:=eU b c q
  let s:=ah b l r.2
  (r.1::s.1,s.2)
def Rf:List N→LS→List N×LS
 |[],q=>([],q)
 |n::l,q=>([(bq n q).1],(bq n q).2)
end
theorem s8(b:Bool):∀(l:List C) (c:C) (q:LS),ah b (l++[c]) q=((ah b l q).1++[(eU b c (ah b l q).2).1],(eU b c (ah b l q).2).2)
 |[],c,q=>by simp[ah]
 |a::l,c,q=>by simp only[List.cons_append,ah,s8 b l c]
theorem om{b:Bool}{l:List C}{k:Nat}{c:C}(h:l[k]? =some c)(q:LS):ah b (l.take (k+1)) q=((ah b (l.take k) q).1++[(eU b c (ah b (l.take k) q).2).1],(eU b c (ah b (l.take k) q).2).2):=by
 rw[List.take_add_one,h,Option.toList_some,s8]
theorem bW(b:Bool):∀(l:List C) (q:LS),(ah b l q).1.length=l.length
 |[],_=>rfl
 |a::l,q=>by simp only[ah,List.length_cons,bW b l]
theorem dJ(n:N)(q:LS):bq n q=if n.aq≠0∨(n.leaf=true∧n.l=[])then(n,q)else(.mk ((ah n.leaf n.l q).2.1.headD 0) n.leaf (ah n.leaf n.l q).1,((ah n.leaf n.l q).2.1.tail,(ah n.leaf n.l q).2.2++[((ah n.leaf n.l q).2.1.headD 0,Fo n.leaf (ah n.leaf n.l q).1)])):=by
 cases n;simp only[bq,N.leaf,N.l,N.aq];rfl
theorem bX(c:C)(q:LS):eU true c q=(.mk c.key c.data (eX c.data c.ak q).1 c.kid,(eX c.data c.ak q).2):=by
 cases c;simp only[eU,if_true,C.key,C.data,C.ak,C.kid]
theorem dg{c:C}{k:N}(h:c.kid=[k])(q:LS):eU false c q=(.mk c.key c.data c.ak [(bq k q).1],(bq k q).2):=by
 cases c with|mk ck cd cp cr=>
 simp only[C.kid]at h;subst h
 simp only[eU,Bool.false_eq_true,if_false,Rf,C.key,C.data,C.ak]
theorem nx(d:ByteArray)(ps:List Int)(q:LS):∃m,(eX d ps q).2.1=q.1.drop m∧m=(if ps=[]then need (d.size:Int)else 0):=by
 unfold eX
 by_cases h:ps=[]
 ·rw[if_pos h]
  split
  ·rename_i e
   have e:=e.resolve_right (fun f=>f h)
   exact⟨0,by simp,e.symm⟩
  ·exact⟨_,rfl,rfl⟩
 ·rw[if_neg h,if_pos (.inr h)]
  exact⟨0,by simp,rfl⟩
theorem eY{b:Bool}:∀{l:List C} {q:LS},(∀c,c∈l→∀q:LS,(eU b c q).2.1=q.1.drop (ko b c))→(ah b l q).2.1=q.1.drop (gP b l)
 |[],q,_=>by simp[ah,gP]
 |c::l,q,h=>by
  have h1:=h c List.mem_cons_self q
  have h2:=eY (l:=l) (q:=(eU b c q).2) fun c hc=>h c (List.mem_cons_of_mem _ hc)
  simp only[ah]
  rw[h2,h1,List.drop_drop]
  unfold gP
  rw[List.map_cons,List.sum_cons]
theorem qx:∀{d:Nat} {n:N} {q:LS},Nd d n→(bq n q).2.1=q.1.drop (dG n):=by
 have fin:∀{d:Nat} {n:N} {q:LS},Nd d n→(∀c,c∈n.l→∀q:LS,(eU n.leaf c q).2.1=q.1.drop (ko n.leaf c))→(bq n q).2.1=q.1.drop (dG n):=by
  intro d n q hn h
  rw[dJ,fv hn]
  by_cases hp:n.aq≠0
  ·rw[if_pos (.inl hp),if_pos hp];simp
  ·rw[if_neg hp]
   by_cases hz:n.leaf=true∧n.l=[]
   ·rw[if_pos (.inr hz),if_pos hz];simp
   ·rw[if_neg (fun e=>e.elim hp hz),if_neg hz]
    show(ah n.leaf n.l q).2.1.tail=_
    rw[eY h,List.tail_drop,Nat.add_comm]
 intro d
 induction d with
 |zero=>
  intro n q hn
  refine fin hn fun c hc q=>?_
  rw[hn.1,bX]
  obtain⟨m,h1,h2⟩:=nx c.data c.ak q
  rw[h1,h2];rfl
 |succ d ih=>
  intro n q hn
  refine fin hn fun c hc q=>?_
  obtain⟨_,k,hk,hnd⟩:=hn.2.2 c hc
  rw[hn.1,dg hk]
  have:ko false c=dG k:=by rw[←bx hk];rfl
  rw[this]
  exact ih hnd
theorem ed(n:N)(q:LS):(bq n q).1.leaf=n.leaf:=by rw[dJ];split <;>rfl
theorem Dm(n:N)(q:LS):(bq n q).1.l=if n.aq≠0∨(n.leaf=true∧n.l=[])then n.l else(ah n.leaf n.l q).1:=by rw[dJ];split <;>rfl
theorem gp(b:Bool)(c:C)(q:LS):(eU b c q).1.key=c.key∧(eU b c q).1.data=c.data:=by
 cases c;cases b <;>exact⟨rfl,rfl⟩
theorem FU(b:Bool)(c:C)(q:LS):aW b (eU b c q).1=aW b c:=by
 obtain⟨h1,h2⟩:=gp b c q
 unfold aW;rw[h1,h2]
theorem ny(n:N)(q:LS):ae (bq n q).1=ae n:=by
 unfold ae
 rw[ed,Dm]
 split
 ·rfl
 ·have:∀(b:Bool) (l:List C) (q:LS),(ah b l q).1.map (aW b)=l.map (aW b):=fun b l=>by
   induction l with
   |nil=>intro q;rfl
   |cons c l ih=>intro q;simp only[ah,List.map_cons,FU,ih]
  exact this _ _ _
theorem hJ{b:Bool}:∀{l:List C} {q:LS} {x:C},x∈(ah b l q).1→∃c q',c∈l∧x=(eU b c q').1
 |[],_,x,h=>by cases h
 |c::l,q,x,h=>by
  simp only[ah]at h
  rcases List.mem_cons.1 h with rfl|h
  ·exact⟨c,q,List.mem_cons_self,rfl⟩
  ·obtain⟨c',q',h1,h2⟩:=hJ h
   exact⟨c',q',List.mem_cons_of_mem _ h1,h2⟩
theorem Hl(b:Bool)(l:List C)(q:LS):keyOf (ah b l q).1=keyOf l:=by
 cases l with
 |nil=>rfl
 |cons c l=>exact(gp b c q).1
theorem ui(d:ByteArray)(ps:List Int)(q:LS)(hd:d.size≤400):((eX d ps q).1=ps∨(ps=[]∧16<d.size))∧(eX d ps q).1.length≤max ps.length 4:=by
 unfold eX
 split
 ·exact⟨.inl rfl,by show ps.length≤_;omega⟩
 ·rename_i h
  have h1:need (d.size:Int)≠0:=fun e=>h (.inl e)
  have h2:ps=[]:=Classical.not_not.1 fun e=>h (.inr e)
  have h3:=xM (d.size:Int)
  refine⟨.inr ⟨h2,?_⟩,by show(List.take _ _).length≤_;rw[List.length_take];omega⟩
  unfold need at h1
  split at h1
  ·omega
  ·exact absurd rfl h1
theorem dX(n:N)(q:LS):(bq n q).1=n∨(bq n q).1.l=(ah n.leaf n.l q).1:=by
 rw[Dm,dJ]
 split
 ·exact .inl rfl
 ·exact .inr rfl
theorem yF:∀{d:Nat} {n:N} (q:LS),Nd d n→Nd d (bq n q).1
 |0,n,q,h=>by
  rcases dX n q with e|e
  ·rw[e];exact h
  ·refine⟨by rw[ed];exact h.1,fun x hx=>?_⟩
   rw[e,h.1]at hx
   obtain⟨c,q',hc,rfl⟩:=hJ hx
   obtain⟨h1,h2⟩:=h.2 c hc
   rw[bX]
   refine⟨⟨h1.1,h1.2.1,?_⟩,h2⟩
   have:=(ui c.data c.ak q' h1.2.1).2
   have:=h1.2.2
   show(eX c.data c.ak q').1.length≤4
   omega
 |d+1,n,q,h=>by
  rcases dX n q with e|e
  ·rw[e];exact h
  ·refine⟨by rw[ed];exact h.1,?_,fun x hx=>?_⟩
   ·rw[e]
    intro e
    have:=bW n.leaf n.l q
    rw[e]at this
    exact h.2.1 (List.eq_nil_of_length_eq_zero this.symm)
   ·rw[e,h.1]at hx
    obtain⟨c,q',hc,rfl⟩:=hJ hx
    obtain⟨h1,k,hk,hnd⟩:=h.2.2 c hc
    rw[dg hk]
    exact⟨⟨h1.1,h1.2.1,h1.2.2⟩,_,rfl,yF q' hnd⟩
theorem P4:∀{d:Nat} {n:N} (q:LS),Nd d n→bw (bq n q).1=bw n:=by
 have cs:∀(b:Bool) (l:List C) (q:LS),(∀c,c∈l→∀q,lJ (eU b c q).1=lJ c)→kR (ah b l q).1=kR l:=by
  intro b l
  induction l with
  |nil=>intro q _;rfl
  |cons c l ih=>
   intro q h
   simp only[ah,bj]
   rw[h c List.mem_cons_self,ih _ fun c hc=>h c (List.mem_cons_of_mem _ hc)]
 intro d
 induction d with
 |zero=>
  intro n q h
  rcases dX n q with e|e
  ·rw[e]
  ·rw[aL,aL,e,h.1]
   refine cs true n.l q fun c hc q=>?_
   rw[bX,eR,eR];rfl
 |succ d ih=>
  intro n q h
  rcases dX n q with e|e
  ·rw[e]
  ·rw[aL,aL,e,h.1]
   refine cs false n.l q fun c hc q=>?_
   obtain⟨_,k,hk,hnd⟩:=h.2.2 c hc
   rw[dg hk,cK hk,cK (k:=(bq k q).1) rfl,ih q hnd]
theorem DG:∀{d:Nat} {n:N} (q:LS),Nd d n→(di (bq n q).1).map (fun c=>(c.key,c.data))=(di n).map fun c=>(c.key,c.data)
 |0,n,q,hn=>by
  rcases dX n q with e|e
  ·rw[e]
  ·rw[cM hn.1,cM (by rw[ed];exact hn.1),e]
   have:∀(b:Bool) (l:List C) (q:LS),(ah b l q).1.map (fun c=>(c.key,c.data))=l.map fun c=>(c.key,c.data):=fun b l=>by
    induction l with
    |nil=>intro q;rfl
    |cons c l ih=>
     intro q
     obtain⟨h1,h2⟩:=gp b c q
     simp only[ah,List.map_cons,ih,h1,h2]
   exact this _ _ _
 |d+1,n,q,hn=>by
  rcases dX n q with e|e
  ·rw[e]
  ·rw[cF,cF n,ed,e,hn.1]
   have:∀(l:List C) (q:LS),(∀c,c∈l→c∈n.l)→((ah false l q).1.flatMap (ja false)).map (fun c=>(c.key,c.data))=(l.flatMap (ja false)).map fun c=>(c.key,c.data):=by
    intro l
    induction l with
    |nil=>intro q _;rfl
    |cons c l ih=>
     intro q hl
     obtain⟨hs,k,hk,hnd⟩:=hn.2.2 c (hl c List.mem_cons_self)
     simp only[ah,List.flatMap_cons,List.map_append]
     rw[ih _ fun c hc=>hl c (List.mem_cons_of_mem _ hc),dg hk,bf (k:=(bq k q).1) rfl,bf hk,DG q hnd]
   exact this n.l q fun _ h=>h
theorem TN{d:Nat}{n:N}(q:LS)(hn:Nd d n){x:C}(h:x∈di (bq n q).1):∃y,y∈di n∧y.key=x.key∧y.data=x.data:=by
 have:(x.key,x.data)∈(di (bq n q).1).map fun c=>(c.key,c.data):=List.mem_map_of_mem (f:=fun c:C=>(c.key,c.data)) h
 rw[DG q hn]at this
 obtain⟨y,hy,e⟩:=List.mem_map.1 this
 simp only[Prod.mk.injEq]at e
 exact⟨y,hy,e.1,e.2⟩
theorem uq{b:Bool}{R:C→C→Prop}:∀{l:List C} {q:LS},(∀c,c∈l→∀c',c'∈l→∀q q',R c c'→R (eU b c q).1 (eU b c' q').1)→l.Pairwise R→(ah b l q).1.Pairwise R
 |[],_,_,_=>List.Pairwise.nil
 |c::l,q,h,hp=>by
  rw[List.pairwise_cons]at hp
  simp only[ah]
  rw[List.pairwise_cons]
  refine⟨fun x hx=>?_,uq (fun a ha a' ha'=>h a (List.mem_cons_of_mem _ ha) a' (List.mem_cons_of_mem _ ha')) hp.2⟩
  obtain⟨c',q',hc',rfl⟩:=hJ hx
  exact h c List.mem_cons_self c' (List.mem_cons_of_mem _ hc') q q' (hp.1 c' hc')
theorem pW:∀{d:Nat} {n:N} (q:LS),Good d n→Good d (bq n q).1
 |0,n,q,h=>by
  rcases dX n q with e|e
  ·rw[e];exact h
  ·refine⟨by rw[ed];exact h.1,?_,fun x hx=>?_⟩
   ·rw[e]
    exact uq (fun c _ c' _ q q' hr=>by rw[(gp _ c q).1,(gp _ c' q').1];exact hr) h.2.1
   ·rw[e,h.1]at hx
    obtain⟨c,q',hc,rfl⟩:=hJ hx
    obtain⟨w1,w2,w3,w4,w5,w6⟩:=h.2.2 c hc
    rw[bX]
    obtain⟨v1,v2⟩:=ui c.data c.ak q' w3
    refine⟨w1,w2,w3,fun z=>?_,?_,w6⟩
    ·show 16<c.data.size
     rcases v1 with v|v
     ·refine w4 fun z'=>z ?_
      show(eX c.data c.ak q').1=[]
      rw[v,z']
     ·exact v.2
    ·show(eX c.data c.ak q').1.length≤4
     omega
 |d+1,n,q,h=>by
  have hB:=h.2.2
  have hl:=bW n.leaf n.l q
  have hen:∀c,c∈n.l→∀q' x,x∈ja false (eU false c q').1→∃y,y∈ja false c∧y.key=x.key:=fun c hc q' x hx=>by
   obtain⟨_,_,k,hk,hg,_⟩:=hB.cell c hc
   rw[dg hk,bf (k:=(bq k q').1) rfl]at hx
   obtain⟨y,hy,e,_⟩:=TN q' (az hg) hx
   exact⟨y,by rw[bf hk];exact hy,e⟩
  rcases dX n q with e|e
  ·rw[e];exact h
  ·refine⟨by rw[ed];exact h.1,?_,⟨?_,?_,fun x hx=>?_⟩⟩
   ·rw[e]
    intro e
    rw[e]at hl
    exact h.2.1 (List.eq_nil_of_length_eq_zero hl.symm)
   ·rw[e,Hl];exact hB.k0
   ·rw[e,h.1]
    refine uq (fun c hc c' hc' q q' hr=>⟨by rw[(gp _ c q).1,(gp _ c' q').1];exact hr.1,fun x hx=>?_⟩) hB.pw
    obtain⟨y,hy,e⟩:=hen c hc q x hx
    rw[(gp _ c' q').1,←e]
    exact hr.2 y hy
   ·rw[e,h.1]at hx
    obtain⟨c,q',hc,rfl⟩:=hJ hx
    obtain⟨w1,w2,k,hk,hg,hf⟩:=hB.cell c hc
    have hen':=hen c hc q'
    rw[dg hk]at hen' ⊢
    refine⟨w1,fun x hx=>?_,_,rfl,pW q' hg,?_,?_⟩
    ·obtain⟨y,hy,e⟩:=hen' x hx
     rw[←e];exact w2 y hy
    ·rw[ny];exact hf.1
    ·rw[ny];exact hf.2
theorem zq{n:N}(q:LS)(h:gQ n):gQ (bq n q).1:=by
 obtain⟨d,h1,h2,h3⟩:=h
 refine⟨d,pW q h1,by rw[ny];exact h2,?_⟩
 rcases dX n q with e|e
 ·rw[e];exact h3
 ·rw[ed,e,bW];exact h3
theorem CV{α:Type}(a b c d:List α):((a++b)++(c++d)).Perm ((a++c)++(b++d)):=by
 rw[List.append_assoc,List.append_assoc]
 refine List.Perm.append_left a ?_
 rw[←List.append_assoc,←List.append_assoc]
 exact List.Perm.append_right d List.perm_append_comm
theorem AB{b:Bool}:∀{l:List C} {q:LS},(∀c,c∈l→∀q:LS,(eU b c q).2.1=q.1.drop (ko b c))→(∀c,c∈l→∀q:LS,ko b c≤q.1.length→(∀p,p∈q.1→p≠0)→(qE b (eU b c q).1).Perm (qE b c++q.1.take (ko b c)))→
 gP b l≤q.1.length→(∀p,p∈q.1→p≠0)→((ah b l q).1.flatMap (qE b)).Perm (l.flatMap (qE b)++q.1.take (gP b l))
 |[],q,_,_,_,_=>by simp[ah,gP]
 |c::l,q,h1,h2,hq,hp=>by
  have e:gP b (c::l)=ko b c+gP b l:=by unfold gP;rw[List.map_cons,List.sum_cons]
  rw[e]at hq ⊢
  have d1:=h1 c List.mem_cons_self q
  have a1:=h2 c List.mem_cons_self q (by omega) hp
  have a2:=AB (l:=l) (q:=(eU b c q).2) (fun c hc=>h1 c (List.mem_cons_of_mem _ hc)) (fun c hc=>h2 c (List.mem_cons_of_mem _ hc)) (by rw[d1,List.length_drop];omega) (by rw[d1];exact fun p h=>hp p (List.mem_of_mem_drop h))
  rw[d1]at a2
  simp only[ah,List.flatMap_cons]
  rw[List.take_add]
  exact(a1.append a2).trans (CV _ _ _ _)
theorem CN:∀{d:Nat} {n:N} {q:LS},Nd d n→dG n≤q.1.length→(∀p,p∈q.1→p≠0)→(cf (bq n q).1).Perm (cf n++q.1.take (dG n)):=by
 have fin:∀{d:Nat} {n:N} {q:LS},Nd d n→(∀c,c∈n.l→∀q:LS,(eU n.leaf c q).2.1=q.1.drop (ko n.leaf c))→(∀c,c∈n.l→∀q:LS,ko n.leaf c≤q.1.length→(∀p,p∈q.1→p≠0)→(qE n.leaf (eU n.leaf c q).1).Perm (qE n.leaf c++q.1.take (ko n.leaf c)))→
  dG n≤q.1.length→(∀p,p∈q.1→p≠0)→(cf (bq n q).1).Perm (cf n++q.1.take (dG n)):=by
  intro d n q hn h1 h2 hq hp
  rw[dJ]
  rw[fv hn]at hq ⊢
  by_cases h0:n.aq≠0
  ·rw[if_pos (.inl h0),if_pos h0];simp
  ·rw[if_neg h0]at hq ⊢
   by_cases hz:n.leaf=true∧n.l=[]
   ·rw[if_pos (.inr hz),if_pos hz];simp
   ·rw[if_neg hz]at hq
    rw[if_neg (fun e=>e.elim h0 hz),if_neg hz]
    have a:=AB (l:=n.l) (q:=q) h1 h2 (by omega) hp
    have dr:=eY (l:=n.l) (q:=q) h1
    have hlt:gP n.leaf n.l<q.1.length:=by omega
    have e1:(q.1.drop (gP n.leaf n.l)).headD 0=q.1[gP n.leaf n.l]:=by
     rw[List.drop_eq_getElem_cons hlt];rfl
    have e2:q.1[gP n.leaf n.l]≠0:=hp _ (List.getElem_mem _)
    have e3:∀l,cf (N.mk q.1[gP n.leaf n.l] n.leaf l)=[q.1[gP n.leaf n.l]]++l.flatMap (qE n.leaf):=fun l=>by
     have:cf (N.mk q.1[gP n.leaf n.l] n.leaf l)=(if q.1[gP n.leaf n.l]≠0 then [q.1[gP n.leaf n.l]]else [])++l.flatMap (qE n.leaf):=fN _
     rw[this,if_pos e2]
    have e4:cf n=n.l.flatMap (qE n.leaf):=by rw[fN,if_neg h0,List.nil_append]
    show(cf (N.mk ((ah n.leaf n.l q).2.1.headD 0) n.leaf (ah n.leaf n.l q).1)).Perm _
    rw[dr,e1,e3,e4,Nat.add_comm 1,List.take_add_one,List.getElem?_eq_getElem hlt,Option.toList_some,←List.append_assoc]
    exact List.perm_append_comm.trans (List.Perm.append_right _ a)
 intro d
 induction d with
 |zero=>
  intro n q hn
  refine fin hn (fun c hc q=>?_) (fun c hc q hq hp=>?_)
  ·rw[hn.1,bX]
   obtain⟨m,h1,h2⟩:=nx c.data c.ak q
   rw[h1,h2];rfl
  ·rw[hn.1]at hq ⊢
   rw[bX,kS,kS]
   show(eX c.data c.ak q).1.Perm (c.ak++q.1.take (ko true c))
   have e:ko true c=if c.ak=[]then need (c.data.size:Int)else 0:=rfl
   rw[e]
   unfold eX
   by_cases hps:c.ak=[]
   ·rw[if_pos hps,hps,List.nil_append]
    split
    ·rename_i h
     rw[h.resolve_right fun f=>f rfl];exact .refl _
    ·exact .refl _
   ·rw[if_neg hps,if_pos (.inr hps)]
    simp
 |succ d ih=>
  intro n q hn
  refine fin hn (fun c hc q=>?_) (fun c hc q hq hp=>?_)
  ·obtain⟨_,k,hk,hnd⟩:=hn.2.2 c hc
   rw[hn.1,dg hk]
   have:ko false c=dG k:=by rw[←bx hk];rfl
   rw[this]
   exact qx hnd
  ·obtain⟨_,k,hk,hnd⟩:=hn.2.2 c hc
   have e:ko false c=dG k:=by rw[←bx hk];rfl
   rw[hn.1]at hq ⊢
   rw[e]at hq ⊢
   rw[dg hk,fJ hk,fJ (k:=(bq k q).1) rfl,List.append_assoc]
   exact List.Perm.append_left _ (ih hnd hq hp)
theorem Bw{d:Nat}{n:N}{q:LS}(hn:Nd d n)(hq:dG n≤q.1.length)(hp:∀p,p∈q.1→p≠0)(h:¬(n.leaf=true∧n.l=[])):(bq n q).1.aq≠0:=by
 rw[dJ]
 by_cases h0:n.aq≠0
 ·rw[if_pos (.inl h0)];exact h0
 ·rw[if_neg (fun e=>e.elim h0 h)]
  show(ah n.leaf n.l q).2.1.headD 0≠0
  rw[fv hn,if_neg h0,if_neg h]at hq
  have dr:(ah n.leaf n.l q).2.1=q.1.drop (gP n.leaf n.l):=eY fun c hc q=>by
   cases d with
   |zero=>
    rw[hn.1,bX]
    obtain⟨m,h1,h2⟩:=nx c.data c.ak q
    rw[h1,h2];rfl
   |succ d=>
    obtain⟨_,k,hk,hnd⟩:=hn.2.2 c hc
    rw[hn.1,dg hk,show ko false c=dG k by rw[←bx hk];rfl]
    exact qx hnd
  have hlt:gP n.leaf n.l<q.1.length:=by omega
  rw[dr,List.drop_eq_getElem_cons hlt]
  exact hp _ (List.getElem_mem _)
theorem S3{d:Nat}{n:N}{q:LS}(hn:Nd d n)(hq:dG n≤q.1.length)(hp:∀p,p∈q.1→p≠0):dG (bq n q).1=0:=by
 rw[fv (yF q hn)]
 by_cases h:n.leaf=true∧n.l=[]
 ·have e:(bq n q).1=n:=by rw[dJ,if_pos (.inr h)]
  rw[e,if_pos h];split <;>rfl
 ·rw[if_pos (Bw hn hq hp h)]
theorem uX{b:Bool}:∀{l:List C} {q:LS} {x:C},(∀c,c∈l→∀q:LS,(eU b c q).2.1=q.1.drop (ko b c))→gP b l≤q.1.length→x∈(ah b l q).1→
 ∃c q',c∈l∧x=(eU b c q').1∧ko b c≤q'.1.length∧∀p,p∈q'.1→p∈q.1
 |[],_,x,_,_,h=>by cases h
 |c::l,q,x,h1,hq,h=>by
  have e:gP b (c::l)=ko b c+gP b l:=by unfold gP;rw[List.map_cons,List.sum_cons]
  rw[e]at hq
  have d1:=h1 c List.mem_cons_self q
  simp only[ah]at h
  rcases List.mem_cons.1 h with rfl|h
  ·exact⟨c,q,List.mem_cons_self,rfl,by omega,fun _ h=>h⟩
  ·obtain⟨c',q',w1,w2,w3,w4⟩:=uX (fun c hc=>h1 c (List.mem_cons_of_mem _ hc)) (by rw[d1,List.length_drop];omega) h
   refine⟨c',q',List.mem_cons_of_mem _ w1,w2,w3,fun p hp=>?_⟩
   have:=w4 p hp
   rw[d1]at this
   exact List.mem_of_mem_drop this
theorem qD{d:Nat}{n:N}(hn:Nd d n):∀c,c∈n.l→∀q:LS,(eU n.leaf c q).2.1=q.1.drop (ko n.leaf c):=fun c hc q=>by
 cases d with
 |zero=>
  rw[hn.1,bX]
  obtain⟨m,h1,h2⟩:=nx c.data c.ak q
  rw[h1,h2];rfl
 |succ d=>
  obtain⟨_,k,hk,hnd⟩:=hn.2.2 c hc
  rw[hn.1,dg hk,show ko false c=dG k by rw[←bx hk];rfl]
  exact qx hnd
theorem FL{d:ByteArray}{ps:List Int}{q:LS}(hd:d.size≤400)(h:ps=[]∨ps.length=fA d.size)(hq:(if ps=[]then need (d.size:Int)else 0)≤q.1.length):(eX d ps q).1.length=fA d.size:=by
 unfold eX
 by_cases hps:ps=[]
 ·rw[if_pos hps]at hq
  split
  ·rename_i z
   rw[←qZ hd,z.resolve_right fun f=>f hps,hps];rfl
  ·show(List.take _ _).length=_
   rw[List.length_take,←qZ hd];omega
 ·rw[if_pos (.inr hps)]
  exact h.resolve_left hps
theorem uV:∀{d:Nat} {n:N} {q:LS},Nd d n→k8 n→dG n≤q.1.length→(∀p,p∈q.1→p≠0)→nS (bq n q).1
 |d,n,q,hn,hl,hq,hp=>by
  by_cases h0:n.aq≠0
  ·rw[dJ,if_pos (.inl h0)]
   cases hl with|mk _ h1 h2 h3=>exact h1 h0
  ·by_cases hz:n.leaf=true∧n.l=[]
   ·rw[dJ,if_pos (.inr hz)]
    cases n with|mk p b l=>
    obtain⟨z1,z2⟩:=hz
    simp only[N.leaf,N.l,N.aq]at z1 z2 h0
    subst z1;subst z2
    exact .leaf _ _ ⟨fun e=>absurd e h0,fun e=>absurd rfl e⟩ fun c hc=>by cases hc
   ·have hpg:=Bw hn hq hp hz
    have hq':=hq
    rw[fv hn,if_neg h0,if_neg hz]at hq'
    have mem:=fun x=>uX (x:=x) (qD hn) (by omega:gP n.leaf n.l≤q.1.length)
    have hlen:=bW n.leaf n.l q
    rw[dJ,if_neg (fun e=>e.elim h0 hz)]at hpg ⊢
    have hpg:(ah n.leaf n.l q).2.1.headD 0≠0:=hpg
    show nS (.mk ((ah n.leaf n.l q).2.1.headD 0) n.leaf (ah n.leaf n.l q).1)
    generalize (ah n.leaf n.l q).2.1.headD 0=pg at hpg
    generalize (ah n.leaf n.l q).1=l' at mem hlen
    cases hl with|mk _ h1 h2 h3=>
    cases d with
    |zero=>
     have hb:=hn.1
     rw[hb]at mem ⊢
     refine .leaf _ _ ⟨fun _ e=>hz ⟨hb,?_⟩,fun _=>hpg⟩ fun x hx=>?_
     ·rw[e]at hlen
      exact List.eq_nil_of_length_eq_zero hlen.symm
     ·obtain⟨c,q',w1,w2,w3,w4⟩:=mem x hx
      rw[w2,bX]
      exact FL (hn.2 c w1).1.2.1 (h2 hb c w1) w3
    |succ d=>
     have hb:=hn.1
     rw[hb]at mem ⊢
     refine .br _ _ hpg fun x hx k' hk'=>?_
     obtain⟨c,q',w1,w2,w3,w4⟩:=mem x hx
     obtain⟨_,k,hk,hnd⟩:=hn.2.2 c w1
     rw[w2,dg hk]at hk'
     have hk':[(bq k q').1]=[k']:=hk'
     cases hk'
     rw[show ko false c=dG k by rw[←bx hk];rfl]at w3
     exact uV hnd (h3 hb c w1 k hk) w3 fun p h=>hp p (w4 p h)
 termination_by d=>d
theorem Jn{c:C}(hk:c.key.size≤16)(hd:c.data.size≤400)(hl:c.ak.length=fA c.data.size)(hp:∀p,p∈c.ak→2≤p∧p≤999):Nb true (dV true c):=by
 unfold dV
 rw[if_pos rfl]
 unfold fA at hl
 cases h:c.ak with
 |nil=>
  rw[if_pos rfl]
  have:c.data.size≤16:=by
   rw[h]at hl
   simp only[List.length_nil]at hl
   split at hl <;>omega
  refine⟨hk,?_⟩
  rw[if_pos rfl,if_neg (by simp)]
  exact⟨this,rfl,rfl⟩
 |cons p ps=>
  rw[if_neg (by simp)]
  have:16<c.data.size:=by
   rw[h]at hl
   simp only[List.length_cons]at hl
   split at hl <;>omega
  refine⟨hk,?_⟩
  rw[if_pos rfl,if_pos rfl]
  have:=hp p (by rw[h];exact List.mem_cons_self)
  refine⟨rfl,?_,?_,this.1,this.2⟩ <;>simp only[] <;>omega
theorem Ui{c:C}{k:N}(hk:c.key.size≤16)(hkid:c.kid=[k])(hp:2≤k.aq∧k.aq≤999):Nb false (dV false c):=by
 unfold dV
 rw[if_neg (by simp),bx hkid]
 refine⟨hk,?_⟩
 rw[if_neg (by simp)]
 exact⟨rfl,rfl,rfl,hp.1,hp.2⟩
theorem QA{P:Int→Prop}{d:Nat}{n:N}{q:LS}(hn:Nd d n)(hq:dG n≤q.1.length)(h0:∀p,p∈q.1→p≠0)(h1:∀p,p∈cf n→P p)(h2:∀p,p∈q.1→P p):∀p,p∈cf (bq n q).1→P p:=fun p hp=>by
 rcases List.mem_append.1 ((CN hn hq h0).mem_iff.1 hp)with h|h
 ·exact h1 p h
 ·exact h2 p (List.mem_of_mem_take h)
theorem xm{n:N}(h:n.aq≠0):n.aq∈cf n:=by
 rw[fN,if_pos h];exact List.mem_append_left _ List.mem_cons_self
end Go.Proofs.YtpjenciplibdnaaGreatDoor
