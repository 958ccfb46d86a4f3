/-
  A tree laid on pages: what the reference computes; A tree laid on pages: plain laws; A tree laid on pages: what it stays; A tree laid on pages: the pages it has; A tree laid on pages: all of it is laid; A tree laid on pages: its entries may stand on a page; A laid tree stands on pages: plain laws; Views laid on pages: plain laws; Numbers and texts as bytes, rows of bytes put together: what the program computes; Sums of bytes by a table: what the program computes is what the reference does; Pages of cells: what the program computes is the reference's page; Nodes as pages: what the program computes is the reference's; Long values as pages: what the program computes is the reference's; A value laid over pages: what the program computes is the reference's; Values laid on pages: what the program computes is the reference's; A tree laid on pages: what the reference computes; What stands on a node's page: what the program computes is the reference's; Values and nodes laid one by one: what the program computes is the reference's; A tree laid on pages: what the program computes is the reference's; Whether a tree may be: what the reference computes; Whether a tree may be, whole: what the reference computes; Whether a tree may be laid, and the laid one: what the reference computes; How far a tree's leaves are; whether it may be: what the program computes; Whether a tree may be laid, and the laid one: what the program computes is the reference's; Whether a tree may be laid, and the laid one, whatever pages are given: what the reference computes; The law's trees, as the program has them, of the reference's, and back; pages that a tree hasn't; The law's trees back as the reference has them; What is the same is the same: what the program computes; The reference's views: what it computes; A good tree's copy is itself; the law's helpers, of trees that steps come to; The law's trees behind steps: what they are; The law's guard against a dead program; What is written when a tree is laid: the pages that are taken, in order, each of 128 bytes. By an AI agent.
-/
import Derived.Test.YtpjenciplibdnaaGreatDoorMP6
import Derived.Test.YtpjenciplibdnaaGreatDoorMP5
set_option linter.unusedVariables false
set_option linter.unusedSimpArgs false
set_option maxRecDepth 100000
set_option maxHeartbeats 16000000
namespace Go.Proofs.YtpjenciplibdnaaGreatDoor
open Aml Go
def Fo(b:Bool)(l:List C):ByteArray:=gz (if b then 1 else 2) ((l.map (dX b)).map (eJ b))
mutual
def bA:N→LS→N×LS
 | .mk p b l,q=>if p≠0∨(b=true∧l=[])then(.mk p b l,q)else
  let r:=ah b l q
  (.mk (r.2.1.headD 0) b r.1,(r.2.1.tail,r.2.2++[(r.2.1.headD 0,Fo b r.1)]))
def eX(b:Bool):C→LS→C×LS
 | .mk k d ps kid,q=>if b then(.mk k d (eY d ps q).1 kid,(eY d ps q).2)else
  let r:=Rn kid q
  (.mk k d ps r.1,r.2)
def ah(b:Bool):List C→LS→List C×LS
 |[],q=>([],q)
 |c::l,q=>
  let r:=eX b c q
  let s:=ah b l r.2
  (r.1::s.1,s.2)
def Rn:List N→LS→List N×LS
 |[],q=>([],q)
 |n::l,q=>([(bA n q).1],(bA n q).2)
end
theorem uK(b:Bool):∀(l:List C) (c:C) (q:LS),ah b (l++[c]) q=((ah b l q).1++[(eX b c (ah b l q).2).1],(eX b c (ah b l q).2).2)
 |[],c,q=>by simp[ah]
 |a::l,c,q=>by simp only[List.cons_append,ah,uK b l c]
theorem oI{b:Bool}{l:List C}{k:Nat}{c:C}(h:l[k]? =some c)(q:LS):ah b (l.take (k+1)) q=((ah b (l.take k) q).1++[(eX b c (ah b (l.take k) q).2).1],(eX b c (ah b (l.take k) q).2).2):=by
 rw[List.take_add_one,h,Option.toList_some,uK]
theorem cf(b:Bool):∀(l:List C) (q:LS),(ah b l q).1.length=l.length
 |[],_=>rfl
 |a::l,q=>by simp only[ah,List.length_cons,cf b l]
theorem dF(n:N)(q:LS):bA n q=if n.ak≠0∨(n.leaf=true∧n.l=[])then(n,q)else(.mk ((ah n.leaf n.l q).2.1.headD 0) n.leaf (ah n.leaf n.l q).1,((ah n.leaf n.l q).2.1.tail,(ah n.leaf n.l q).2.2++[((ah n.leaf n.l q).2.1.headD 0,Fo n.leaf (ah n.leaf n.l q).1)])):=by
 cases n;simp only[bA,N.leaf,N.l,N.ak];rfl
theorem cg(c:C)(q:LS):eX true c q=(.mk c.key c.data (eY c.data c.ai q).1 c.kid,(eY c.data c.ai q).2):=by
 cases c;simp only[eX,if_true,C.key,C.data,C.ai,C.kid]
theorem df{c:C}{k:N}(h:c.kid=[k])(q:LS):eX false c q=(.mk c.key c.data c.ai [(bA k q).1],(bA k q).2):=by
 cases c with|mk ck cd cp cr=>
 simp only[C.kid]at h;subst h
 simp only[eX,Bool.false_eq_true,if_false,Rn,C.key,C.data,C.ai]
theorem nP(d:ByteArray)(ps:List Int)(q:LS):∃m,(eY d ps q).2.1=q.1.drop m∧m=(if ps=[]then need (d.size:Int)else 0):=by
 unfold eY
 by_cases h:ps=[]
 ·rw[if_pos h]
  split
  ·rename_i e
   have e:=e.resolve_right (fun f=>f h)
   exact⟨0,by simp,e.symm⟩
  ·exact⟨_,rfl,rfl⟩
 ·rw[if_neg h,if_pos (.inr h)]
  exact⟨0,by simp,rfl⟩
theorem fc{b:Bool}:∀{l:List C} {q:LS},(∀c,c∈l→∀q:LS,(eX b c q).2.1=q.1.drop (jP b c))→(ah b l q).2.1=q.1.drop (gQ b l)
 |[],q,_=>by simp[ah,gQ]
 |c::l,q,h=>by
  have h1:=h c List.mem_cons_self q
  have h2:=fc (l:=l) (q:=(eX b c q).2) fun c hc=>h c (List.mem_cons_of_mem _ hc)
  simp only[ah]
  rw[h2,h1,List.drop_drop]
  unfold gQ
  rw[List.map_cons,List.sum_cons]
theorem qM:∀{d:Nat} {n:N} {q:LS},Nd d n→(bA n q).2.1=q.1.drop (dg n):=by
 have fin:∀{d:Nat} {n:N} {q:LS},Nd d n→(∀c,c∈n.l→∀q:LS,(eX n.leaf c q).2.1=q.1.drop (jP n.leaf c))→(bA n q).2.1=q.1.drop (dg n):=by
  intro d n q hn h
  rw[dF,eQ hn]
  by_cases hp:n.ak≠0
  ·rw[if_pos (.inl hp),if_pos hp];simp
  ·rw[if_neg hp]
   by_cases hz:n.leaf=true∧n.l=[]
   ·rw[if_pos (.inr hz),if_pos hz];simp
   ·rw[if_neg (fun e=>e.elim hp hz),if_neg hz]
    show(ah n.leaf n.l q).2.1.tail=_
    rw[fc h,List.tail_drop,Nat.add_comm]
 intro d
 induction d with
 |zero=>
  intro n q hn
  refine fin hn fun c hc q=>?_
  rw[hn.1,cg]
  obtain⟨m,h1,h2⟩:=nP c.data c.ai q
  rw[h1,h2];rfl
 |succ d ih=>
  intro n q hn
  refine fin hn fun c hc q=>?_
  obtain⟨_,k,hk,hnd⟩:=hn.2.2 c hc
  rw[hn.1,df hk]
  have:jP false c=dg k:=by rw[←bl hk];rfl
  rw[this]
  exact ih hnd
theorem eo(n:N)(q:LS):(bA n q).1.leaf=n.leaf:=by rw[dF];split <;>rfl
theorem Ce(n:N)(q:LS):(bA n q).1.l=if n.ak≠0∨(n.leaf=true∧n.l=[])then n.l else(ah n.leaf n.l q).1:=by rw[dF];split <;>rfl
theorem gM(b:Bool)(c:C)(q:LS):(eX b c q).1.key=c.key∧(eX b c q).1.data=c.data:=by
 cases c;cases b <;>exact⟨rfl,rfl⟩
theorem IH(b:Bool)(c:C)(q:LS):aX b (eX b c q).1=aX b c:=by
 obtain⟨h1,h2⟩:=gM b c q
 unfold aX;rw[h1,h2]
theorem nE(n:N)(q:LS):ae (bA n q).1=ae n:=by
 unfold ae
 rw[eo,Ce]
 split
 ·rfl
 ·have:∀(b:Bool) (l:List C) (q:LS),(ah b l q).1.map (aX b)=l.map (aX b):=fun b l=>by
   induction l with
   |nil=>intro q;rfl
   |cons c l ih=>intro q;simp only[ah,List.map_cons,IH,ih]
  exact this _ _ _
theorem ie{b:Bool}:∀{l:List C} {q:LS} {x:C},x∈(ah b l q).1→∃c q',c∈l∧x=(eX b c q').1
 |[],_,x,h=>by cases h
 |c::l,q,x,h=>by
  simp only[ah]at h
  rcases List.mem_cons.1 h with rfl|h
  ·exact⟨c,q,List.mem_cons_self,rfl⟩
  ·obtain⟨c',q',h1,h2⟩:=ie h
   exact⟨c',q',List.mem_cons_of_mem _ h1,h2⟩
theorem Io(b:Bool)(l:List C)(q:LS):keyOf (ah b l q).1=keyOf l:=by
 cases l with
 |nil=>rfl
 |cons c l=>exact(gM b c q).1
theorem tc(d:ByteArray)(ps:List Int)(q:LS)(hd:d.size≤400):((eY d ps q).1=ps∨(ps=[]∧16<d.size))∧(eY d ps q).1.length≤max ps.length 4:=by
 unfold eY
 split
 ·exact⟨.inl rfl,by show ps.length≤_;omega⟩
 ·rename_i h
  have h1:need (d.size:Int)≠0:=fun e=>h (.inl e)
  have h2:ps=[]:=Classical.not_not.1 fun e=>h (.inr e)
  have h3:=sE (d.size:Int)
  refine⟨.inr ⟨h2,?_⟩,by show(List.take _ _).length≤_;rw[List.length_take];omega⟩
  unfold need at h1
  split at h1
  ·omega
  ·exact absurd rfl h1
theorem ef(n:N)(q:LS):(bA n q).1=n∨(bA n q).1.l=(ah n.leaf n.l q).1:=by
 rw[Ce,dF]
 split
 ·exact .inl rfl
 ·exact .inr rfl
theorem yT:∀{d:Nat} {n:N} (q:LS),Nd d n→Nd d (bA n q).1
 |0,n,q,h=>by
  rcases ef n q with e|e
  ·rw[e];exact h
  ·refine⟨by rw[eo];exact h.1,fun x hx=>?_⟩
   rw[e,h.1]at hx
   obtain⟨c,q',hc,rfl⟩:=ie hx
   obtain⟨h1,h2⟩:=h.2 c hc
   rw[cg]
   refine⟨⟨h1.1,h1.2.1,?_⟩,h2⟩
   have:=(tc c.data c.ai q' h1.2.1).2
   have:=h1.2.2
   show(eY c.data c.ai q').1.length≤4
   omega
 |d+1,n,q,h=>by
  rcases ef n q with e|e
  ·rw[e];exact h
  ·refine⟨by rw[eo];exact h.1,?_,fun x hx=>?_⟩
   ·rw[e]
    intro e
    have:=cf n.leaf n.l q
    rw[e]at this
    exact h.2.1 (List.eq_nil_of_length_eq_zero this.symm)
   ·rw[e,h.1]at hx
    obtain⟨c,q',hc,rfl⟩:=ie hx
    obtain⟨h1,k,hk,hnd⟩:=h.2.2 c hc
    rw[df hk]
    exact⟨⟨h1.1,h1.2.1,h1.2.2⟩,_,rfl,yT q' hnd⟩
theorem N5:∀{d:Nat} {n:N} (q:LS),Nd d n→bd (bA n q).1=bd n:=by
 have cs:∀(b:Bool) (l:List C) (q:LS),(∀c,c∈l→∀q,lX (eX b c q).1=lX c)→kC (ah b l q).1=kC l:=by
  intro b l
  induction l with
  |nil=>intro q _;rfl
  |cons c l ih=>
   intro q h
   simp only[ah,bh]
   rw[h c List.mem_cons_self,ih _ fun c hc=>h c (List.mem_cons_of_mem _ hc)]
 intro d
 induction d with
 |zero=>
  intro n q h
  rcases ef n q with e|e
  ·rw[e]
  ·rw[aH,aH,e,h.1]
   refine cs true n.l q fun c hc q=>?_
   rw[cg,eU,eU];rfl
 |succ d ih=>
  intro n q h
  rcases ef n q with e|e
  ·rw[e]
  ·rw[aH,aH,e,h.1]
   refine cs false n.l q fun c hc q=>?_
   obtain⟨_,k,hk,hnd⟩:=h.2.2 c hc
   rw[df hk,cA hk,cA (k:=(bA k q).1) rfl,ih q hnd]
theorem Dw:∀{d:Nat} {n:N} (q:LS),Nd d n→(de (bA n q).1).map (fun c=>(c.key,c.data))=(de n).map fun c=>(c.key,c.data)
 |0,n,q,hn=>by
  rcases ef n q with e|e
  ·rw[e]
  ·rw[cm hn.1,cm (by rw[eo];exact hn.1),e]
   have:∀(b:Bool) (l:List C) (q:LS),(ah b l q).1.map (fun c=>(c.key,c.data))=l.map fun c=>(c.key,c.data):=fun b l=>by
    induction l with
    |nil=>intro q;rfl
    |cons c l ih=>
     intro q
     obtain⟨h1,h2⟩:=gM b c q
     simp only[ah,List.map_cons,ih,h1,h2]
   exact this _ _ _
 |d+1,n,q,hn=>by
  rcases ef n q with e|e
  ·rw[e]
  ·rw[ca,ca n,eo,e,hn.1]
   have:∀(l:List C) (q:LS),(∀c,c∈l→c∈n.l)→((ah false l q).1.flatMap (iU false)).map (fun c=>(c.key,c.data))=(l.flatMap (iU false)).map fun c=>(c.key,c.data):=by
    intro l
    induction l with
    |nil=>intro q _;rfl
    |cons c l ih=>
     intro q hl
     obtain⟨hs,k,hk,hnd⟩:=hn.2.2 c (hl c List.mem_cons_self)
     simp only[ah,List.flatMap_cons,List.map_append]
     rw[ih _ fun c hc=>hl c (List.mem_cons_of_mem _ hc),df hk,bc (k:=(bA k q).1) rfl,bc hk,Dw q hnd]
   exact this n.l q fun _ h=>h
theorem Th{d:Nat}{n:N}(q:LS)(hn:Nd d n){x:C}(h:x∈de (bA n q).1):∃y,y∈de n∧y.key=x.key∧y.data=x.data:=by
 have:(x.key,x.data)∈(de (bA n q).1).map fun c=>(c.key,c.data):=List.mem_map_of_mem (f:=fun c:C=>(c.key,c.data)) h
 rw[Dw q hn]at this
 obtain⟨y,hy,e⟩:=List.mem_map.1 this
 simp only[Prod.mk.injEq]at e
 exact⟨y,hy,e.1,e.2⟩
theorem uj{b:Bool}{R:C→C→Prop}:∀{l:List C} {q:LS},(∀c,c∈l→∀c',c'∈l→∀q q',R c c'→R (eX b c q).1 (eX b c' q').1)→l.Pairwise R→(ah b l q).1.Pairwise R
 |[],_,_,_=>List.Pairwise.nil
 |c::l,q,h,hp=>by
  rw[List.pairwise_cons]at hp
  simp only[ah]
  rw[List.pairwise_cons]
  refine⟨fun x hx=>?_,uj (fun a ha a' ha'=>h a (List.mem_cons_of_mem _ ha) a' (List.mem_cons_of_mem _ ha')) hp.2⟩
  obtain⟨c',q',hc',rfl⟩:=ie hx
  exact h c List.mem_cons_self c' (List.mem_cons_of_mem _ hc') q q' (hp.1 c' hc')
theorem pr:∀{d:Nat} {n:N} (q:LS),Good d n→Good d (bA n q).1
 |0,n,q,h=>by
  rcases ef n q with e|e
  ·rw[e];exact h
  ·refine⟨by rw[eo];exact h.1,?_,fun x hx=>?_⟩
   ·rw[e]
    exact uj (fun c _ c' _ q q' hr=>by rw[(gM _ c q).1,(gM _ c' q').1];exact hr) h.2.1
   ·rw[e,h.1]at hx
    obtain⟨c,q',hc,rfl⟩:=ie hx
    obtain⟨w1,w2,w3,w4,w5,w6⟩:=h.2.2 c hc
    rw[cg]
    obtain⟨v1,v2⟩:=tc c.data c.ai q' w3
    refine⟨w1,w2,w3,fun z=>?_,?_,w6⟩
    ·show 16<c.data.size
     rcases v1 with v|v
     ·refine w4 fun z'=>z ?_
      show(eY c.data c.ai q').1=[]
      rw[v,z']
     ·exact v.2
    ·show(eY c.data c.ai q').1.length≤4
     omega
 |d+1,n,q,h=>by
  have hB:=h.2.2
  have hl:=cf n.leaf n.l q
  have hen:∀c,c∈n.l→∀q' x,x∈iU false (eX false c q').1→∃y,y∈iU false c∧y.key=x.key:=fun c hc q' x hx=>by
   obtain⟨_,_,k,hk,hg,_⟩:=hB.cell c hc
   rw[df hk,bc (k:=(bA k q').1) rfl]at hx
   obtain⟨y,hy,e,_⟩:=Th q' (aw hg) hx
   exact⟨y,by rw[bc hk];exact hy,e⟩
  rcases ef n q with e|e
  ·rw[e];exact h
  ·refine⟨by rw[eo];exact h.1,?_,⟨?_,?_,fun x hx=>?_⟩⟩
   ·rw[e]
    intro e
    rw[e]at hl
    exact h.2.1 (List.eq_nil_of_length_eq_zero hl.symm)
   ·rw[e,Io];exact hB.k0
   ·rw[e,h.1]
    refine uj (fun c hc c' hc' q q' hr=>⟨by rw[(gM _ c q).1,(gM _ c' q').1];exact hr.1,fun x hx=>?_⟩) hB.pw
    obtain⟨y,hy,e⟩:=hen c hc q x hx
    rw[(gM _ c' q').1,←e]
    exact hr.2 y hy
   ·rw[e,h.1]at hx
    obtain⟨c,q',hc,rfl⟩:=ie hx
    obtain⟨w1,w2,k,hk,hg,hf⟩:=hB.cell c hc
    have hen':=hen c hc q'
    rw[df hk]at hen' ⊢
    refine⟨w1,fun x hx=>?_,_,rfl,pr q' hg,?_,?_⟩
    ·obtain⟨y,hy,e⟩:=hen' x hx
     rw[←e];exact w2 y hy
    ·rw[nE];exact hf.1
    ·rw[nE];exact hf.2
theorem zE{n:N}(q:LS)(h:gV n):gV (bA n q).1:=by
 obtain⟨d,h1,h2,h3⟩:=h
 refine⟨d,pr q h1,by rw[nE];exact h2,?_⟩
 rcases ef n q with e|e
 ·rw[e];exact h3
 ·rw[eo,e,cf];exact h3
theorem Cc{α:Type}(a b c d:List α):((a++b)++(c++d)).Perm ((a++c)++(b++d)):=by
 rw[List.append_assoc,List.append_assoc]
 refine List.Perm.append_left a ?_
 rw[←List.append_assoc,←List.append_assoc]
 exact List.Perm.append_right d List.perm_append_comm
theorem An{b:Bool}:∀{l:List C} {q:LS},(∀c,c∈l→∀q:LS,(eX b c q).2.1=q.1.drop (jP b c))→(∀c,c∈l→∀q:LS,jP b c≤q.1.length→(∀p,p∈q.1→p≠0)→(lR b (eX b c q).1).Perm (lR b c++q.1.take (jP b c)))→
 gQ b l≤q.1.length→(∀p,p∈q.1→p≠0)→((ah b l q).1.flatMap (lR b)).Perm (l.flatMap (lR b)++q.1.take (gQ b l))
 |[],q,_,_,_,_=>by simp[ah,gQ]
 |c::l,q,h1,h2,hq,hp=>by
  have e:gQ b (c::l)=jP b c+gQ b l:=by unfold gQ;rw[List.map_cons,List.sum_cons]
  rw[e]at hq ⊢
  have d1:=h1 c List.mem_cons_self q
  have a1:=h2 c List.mem_cons_self q (by omega) hp
  have a2:=An (l:=l) (q:=(eX b c q).2) (fun c hc=>h1 c (List.mem_cons_of_mem _ hc)) (fun c hc=>h2 c (List.mem_cons_of_mem _ hc)) (by rw[d1,List.length_drop];omega) (by rw[d1];exact fun p h=>hp p (List.mem_of_mem_drop h))
  rw[d1]at a2
  simp only[ah,List.flatMap_cons]
  rw[List.take_add]
  exact(a1.append a2).trans (Cc _ _ _ _)
theorem De:∀{d:Nat} {n:N} {q:LS},Nd d n→dg n≤q.1.length→(∀p,p∈q.1→p≠0)→(bX (bA n q).1).Perm (bX n++q.1.take (dg n)):=by
 have fin:∀{d:Nat} {n:N} {q:LS},Nd d n→(∀c,c∈n.l→∀q:LS,(eX n.leaf c q).2.1=q.1.drop (jP n.leaf c))→(∀c,c∈n.l→∀q:LS,jP n.leaf c≤q.1.length→(∀p,p∈q.1→p≠0)→(lR n.leaf (eX n.leaf c q).1).Perm (lR n.leaf c++q.1.take (jP n.leaf c)))→
  dg n≤q.1.length→(∀p,p∈q.1→p≠0)→(bX (bA n q).1).Perm (bX n++q.1.take (dg n)):=by
  intro d n q hn h1 h2 hq hp
  rw[dF]
  rw[eQ hn]at hq ⊢
  by_cases h0:n.ak≠0
  ·rw[if_pos (.inl h0),if_pos h0];simp
  ·rw[if_neg h0]at hq ⊢
   by_cases hz:n.leaf=true∧n.l=[]
   ·rw[if_pos (.inr hz),if_pos hz];simp
   ·rw[if_neg hz]at hq
    rw[if_neg (fun e=>e.elim h0 hz),if_neg hz]
    have a:=An (l:=n.l) (q:=q) h1 h2 (by omega) hp
    have dr:=fc (l:=n.l) (q:=q) h1
    have hlt:gQ n.leaf n.l<q.1.length:=by omega
    have e1:(q.1.drop (gQ n.leaf n.l)).headD 0=q.1[gQ n.leaf n.l]:=by
     rw[List.drop_eq_getElem_cons hlt];rfl
    have e2:q.1[gQ n.leaf n.l]≠0:=hp _ (List.getElem_mem _)
    have e3:∀l,bX (N.mk q.1[gQ n.leaf n.l] n.leaf l)=[q.1[gQ n.leaf n.l]]++l.flatMap (lR n.leaf):=fun l=>by
     have:bX (N.mk q.1[gQ n.leaf n.l] n.leaf l)=(if q.1[gQ n.leaf n.l]≠0 then [q.1[gQ n.leaf n.l]]else [])++l.flatMap (lR n.leaf):=fg _
     rw[this,if_pos e2]
    have e4:bX n=n.l.flatMap (lR n.leaf):=by rw[fg,if_neg h0,List.nil_append]
    show(bX (N.mk ((ah n.leaf n.l q).2.1.headD 0) n.leaf (ah n.leaf n.l q).1)).Perm _
    rw[dr,e1,e3,e4,Nat.add_comm 1,List.take_add_one,List.getElem?_eq_getElem hlt,Option.toList_some,←List.append_assoc]
    exact List.perm_append_comm.trans (List.Perm.append_right _ a)
 intro d
 induction d with
 |zero=>
  intro n q hn
  refine fin hn (fun c hc q=>?_) (fun c hc q hq hp=>?_)
  ·rw[hn.1,cg]
   obtain⟨m,h1,h2⟩:=nP c.data c.ai q
   rw[h1,h2];rfl
  ·rw[hn.1]at hq ⊢
   rw[cg,iC,iC]
   show(eY c.data c.ai q).1.Perm (c.ai++q.1.take (jP true c))
   have e:jP true c=if c.ai=[]then need (c.data.size:Int)else 0:=rfl
   rw[e]
   unfold eY
   by_cases hps:c.ai=[]
   ·rw[if_pos hps,hps,List.nil_append]
    split
    ·rename_i h
     rw[h.resolve_right fun f=>f rfl];exact .refl _
    ·exact .refl _
   ·rw[if_neg hps,if_pos (.inr hps)]
    simp
 |succ d ih=>
  intro n q hn
  refine fin hn (fun c hc q=>?_) (fun c hc q hq hp=>?_)
  ·obtain⟨_,k,hk,hnd⟩:=hn.2.2 c hc
   rw[hn.1,df hk]
   have:jP false c=dg k:=by rw[←bl hk];rfl
   rw[this]
   exact qM hnd
  ·obtain⟨_,k,hk,hnd⟩:=hn.2.2 c hc
   have e:jP false c=dg k:=by rw[←bl hk];rfl
   rw[hn.1]at hq ⊢
   rw[e]at hq ⊢
   rw[df hk,fy hk,fy (k:=(bA k q).1) rfl,List.append_assoc]
   exact List.Perm.append_left _ (ih hnd hq hp)
theorem Bp{d:Nat}{n:N}{q:LS}(hn:Nd d n)(hq:dg n≤q.1.length)(hp:∀p,p∈q.1→p≠0)(h:¬(n.leaf=true∧n.l=[])):(bA n q).1.ak≠0:=by
 rw[dF]
 by_cases h0:n.ak≠0
 ·rw[if_pos (.inl h0)];exact h0
 ·rw[if_neg (fun e=>e.elim h0 h)]
  show(ah n.leaf n.l q).2.1.headD 0≠0
  rw[eQ hn,if_neg h0,if_neg h]at hq
  have dr:(ah n.leaf n.l q).2.1=q.1.drop (gQ n.leaf n.l):=fc fun c hc q=>by
   cases d with
   |zero=>
    rw[hn.1,cg]
    obtain⟨m,h1,h2⟩:=nP c.data c.ai q
    rw[h1,h2];rfl
   |succ d=>
    obtain⟨_,k,hk,hnd⟩:=hn.2.2 c hc
    rw[hn.1,df hk,show jP false c=dg k by rw[←bl hk];rfl]
    exact qM hnd
  have hlt:gQ n.leaf n.l<q.1.length:=by omega
  rw[dr,List.drop_eq_getElem_cons hlt]
  exact hp _ (List.getElem_mem _)
theorem SJ{d:Nat}{n:N}{q:LS}(hn:Nd d n)(hq:dg n≤q.1.length)(hp:∀p,p∈q.1→p≠0):dg (bA n q).1=0:=by
 rw[eQ (yT q hn)]
 by_cases h:n.leaf=true∧n.l=[]
 ·have e:(bA n q).1=n:=by rw[dF,if_pos (.inr h)]
  rw[e,if_pos h];split <;>rfl
 ·rw[if_pos (Bp hn hq hp h)]
theorem td{b:Bool}:∀{l:List C} {q:LS} {x:C},(∀c,c∈l→∀q:LS,(eX b c q).2.1=q.1.drop (jP b c))→gQ b l≤q.1.length→x∈(ah b l q).1→
 ∃c q',c∈l∧x=(eX b c q').1∧jP b c≤q'.1.length∧∀p,p∈q'.1→p∈q.1
 |[],_,x,_,_,h=>by cases h
 |c::l,q,x,h1,hq,h=>by
  have e:gQ b (c::l)=jP b c+gQ b l:=by unfold gQ;rw[List.map_cons,List.sum_cons]
  rw[e]at hq
  have d1:=h1 c List.mem_cons_self q
  simp only[ah]at h
  rcases List.mem_cons.1 h with rfl|h
  ·exact⟨c,q,List.mem_cons_self,rfl,by omega,fun _ h=>h⟩
  ·obtain⟨c',q',w1,w2,w3,w4⟩:=td (fun c hc=>h1 c (List.mem_cons_of_mem _ hc)) (by rw[d1,List.length_drop];omega) h
   refine⟨c',q',List.mem_cons_of_mem _ w1,w2,w3,fun p hp=>?_⟩
   have:=w4 p hp
   rw[d1]at this
   exact List.mem_of_mem_drop this
theorem qY{d:Nat}{n:N}(hn:Nd d n):∀c,c∈n.l→∀q:LS,(eX n.leaf c q).2.1=q.1.drop (jP n.leaf c):=fun c hc q=>by
 cases d with
 |zero=>
  rw[hn.1,cg]
  obtain⟨m,h1,h2⟩:=nP c.data c.ai q
  rw[h1,h2];rfl
 |succ d=>
  obtain⟨_,k,hk,hnd⟩:=hn.2.2 c hc
  rw[hn.1,df hk,show jP false c=dg k by rw[←bl hk];rfl]
  exact qM hnd
theorem GR{d:ByteArray}{ps:List Int}{q:LS}(hd:d.size≤400)(h:ps=[]∨ps.length=fH d.size)(hq:(if ps=[]then need (d.size:Int)else 0)≤q.1.length):(eY d ps q).1.length=fH d.size:=by
 unfold eY
 by_cases hps:ps=[]
 ·rw[if_pos hps]at hq
  split
  ·rename_i z
   rw[←ru hd,z.resolve_right fun f=>f hps,hps];rfl
  ·show(List.take _ _).length=_
   rw[List.length_take,←ru hd];omega
 ·rw[if_pos (.inr hps)]
  exact h.resolve_left hps
theorem tr:∀{d:Nat} {n:N} {q:LS},Nd d n→k7 n→dg n≤q.1.length→(∀p,p∈q.1→p≠0)→nV (bA n q).1
 |d,n,q,hn,hl,hq,hp=>by
  by_cases h0:n.ak≠0
  ·rw[dF,if_pos (.inl h0)]
   cases hl with|mk _ h1 h2 h3=>exact h1 h0
  ·by_cases hz:n.leaf=true∧n.l=[]
   ·rw[dF,if_pos (.inr hz)]
    cases n with|mk p b l=>
    obtain⟨z1,z2⟩:=hz
    simp only[N.leaf,N.l,N.ak]at z1 z2 h0
    subst z1;subst z2
    exact .leaf _ _ ⟨fun e=>absurd e h0,fun e=>absurd rfl e⟩ fun c hc=>by cases hc
   ·have hpg:=Bp hn hq hp hz
    have hq':=hq
    rw[eQ hn,if_neg h0,if_neg hz]at hq'
    have mem:=fun x=>td (x:=x) (qY hn) (by omega:gQ n.leaf n.l≤q.1.length)
    have hlen:=cf n.leaf n.l q
    rw[dF,if_neg (fun e=>e.elim h0 hz)]at hpg ⊢
    have hpg:(ah n.leaf n.l q).2.1.headD 0≠0:=hpg
    show nV (.mk ((ah n.leaf n.l q).2.1.headD 0) n.leaf (ah n.leaf n.l q).1)
    generalize (ah n.leaf n.l q).2.1.headD 0=pg at hpg
    generalize (ah n.leaf n.l q).1=l' at mem hlen
    cases hl with|mk _ h1 h2 h3=>
    cases d with
    |zero=>
     have hb:=hn.1
     rw[hb]at mem ⊢
     refine .leaf _ _ ⟨fun _ e=>hz ⟨hb,?_⟩,fun _=>hpg⟩ fun x hx=>?_
     ·rw[e]at hlen
      exact List.eq_nil_of_length_eq_zero hlen.symm
     ·obtain⟨c,q',w1,w2,w3,w4⟩:=mem x hx
      rw[w2,cg]
      exact GR (hn.2 c w1).1.2.1 (h2 hb c w1) w3
    |succ d=>
     have hb:=hn.1
     rw[hb]at mem ⊢
     refine .br _ _ hpg fun x hx k' hk'=>?_
     obtain⟨c,q',w1,w2,w3,w4⟩:=mem x hx
     obtain⟨_,k,hk,hnd⟩:=hn.2.2 c w1
     rw[w2,df hk]at hk'
     have hk':[(bA k q').1]=[k']:=hk'
     cases hk'
     rw[show jP false c=dg k by rw[←bl hk];rfl]at w3
     exact tr hnd (h3 hb c w1 k hk) w3 fun p h=>hp p (w4 p h)
 termination_by d=>d
theorem KI{c:C}(hk:c.key.size≤16)(hd:c.data.size≤400)(hl:c.ai.length=fH c.data.size)(hp:∀p,p∈c.ai→2≤p∧p≤999):NJ true (dX true c):=by
 unfold dX
 rw[if_pos rfl]
 unfold fH at hl
 cases h:c.ai with
 |nil=>
  rw[if_pos rfl]
  have:c.data.size≤16:=by
   rw[h]at hl
   simp only[List.length_nil]at hl
   split at hl <;>omega
  refine⟨hk,?_⟩
  rw[if_pos rfl,if_neg (by simp)]
  exact⟨this,rfl,rfl⟩
 |cons p ps=>
  rw[if_neg (by simp)]
  have:16<c.data.size:=by
   rw[h]at hl
   simp only[List.length_cons]at hl
   split at hl <;>omega
  refine⟨hk,?_⟩
  rw[if_pos rfl,if_pos rfl]
  have:=hp p (by rw[h];exact List.mem_cons_self)
  refine⟨rfl,?_,?_,this.1,this.2⟩ <;>simp only[] <;>omega
theorem SD{c:C}{k:N}(hk:c.key.size≤16)(hkid:c.kid=[k])(hp:2≤k.ak∧k.ak≤999):NJ false (dX false c):=by
 unfold dX
 rw[if_neg (by simp),bl hkid]
 refine⟨hk,?_⟩
 rw[if_neg (by simp)]
 exact⟨rfl,rfl,rfl,hp.1,hp.2⟩
theorem Qt{P:Int→Prop}{d:Nat}{n:N}{q:LS}(hn:Nd d n)(hq:dg n≤q.1.length)(h0:∀p,p∈q.1→p≠0)(h1:∀p,p∈bX n→P p)(h2:∀p,p∈q.1→P p):∀p,p∈bX (bA n q).1→P p:=fun p hp=>by
 rcases List.mem_append.1 ((De hn hq h0).mem_iff.1 hp)with h|h
 ·exact h1 p h
 ·exact h2 p (List.mem_of_mem_take h)
theorem yr{n:N}(h:n.ak≠0):n.ak∈bX n:=by
 rw[fg,if_pos h];exact List.mem_append_left _ List.mem_cons_self
structure XF(b:Bool)(l:List C):Prop where
 ok:∀e,e∈l.map (dX b)→NJ b e
 bW:(l.map (dX b)).Pairwise fun x y=>cI x.key y.key=true
 first:∀(i:Nat) e,(l.map (dX b))[i]? =some e→(e.key=aZ↔i=0∧b=false)
 fits:db ((l.map (dX b)).map (eJ b))≤122
 many:1<(l.map (dX b)).length∨(b=true∧(l.map (dX b)).length=1)
theorem p8(b:Bool)(c:C):(dX b c).key=c.key:=by
 unfold dX
 split
 ·split <;>rfl
 ·rfl
theorem vq{c:C}(h:ZK c)(hf:c.ai.length=fH c.data.size):(((eJ true (dX true c)).size+1:Nat):Int)=aX true c:=by
 rw[oR,p8]
 have h3:=h.2.2.1
 have hn:=ru h3
 by_cases hp:c.ai=[]
 ·have h0:fH c.data.size=0:=by rw[←hf,hp];rfl
  have e:dX true c=⟨c.key,c.data,false,0,0⟩:=by unfold dX;rw[if_pos rfl,if_pos hp]
  rw[e]
  unfold aX
  simp only[if_true,Bool.false_eq_true,if_false]
  rw[if_neg (by rw[hn,h0];omega)]
  omega
 ·have h0:fH c.data.size≠0:=by rw[←hf];exact fun e=>hp (List.eq_nil_of_length_eq_zero e)
  have e:dX true c=⟨c.key,aZ,true,c.data.size,c.ai.headD 0⟩:=by unfold dX;rw[if_pos rfl,if_neg hp]
  rw[e]
  unfold aX
  simp only[if_true]
  rw[if_pos (.inl (by rw[hn];omega))]
  omega
theorem zw(c:C):(((eJ false (dX false c)).size+1:Nat):Int)=aX false c:=by
 rw[oR,p8]
 unfold aX
 simp only[Bool.false_eq_true,if_false]
 omega
theorem Fy{b:Bool}:∀{l:List C},(∀c,c∈l→(((eJ b (dX b c)).size+1:Nat):Int)=aX b c)→((db ((l.map (dX b)).map (eJ b)):Nat):Int)=(l.map (aX b)).sum
 |[],_=>rfl
 |c::l,h=>by
  have h1:=h c List.mem_cons_self
  have h2:=Fy (l:=l) fun c hc=>h c (List.mem_cons_of_mem _ hc)
  unfold db at h2 ⊢
  rw[List.map_cons,List.map_cons,List.map_cons,List.sum_cons,List.map_cons,List.sum_cons,←h1,←h2]
  omega
theorem QH{d:Nat}{n:N}(hg:Good d n)(hf:nV n)(hp:∀p,p∈bX n→2≤p∧p≤999)(hs:(ae n).sum≤122)(hne:n.l≠[])(h2:n.leaf=true∨2≤n.l.length):XF n.leaf n.l:=by
 have hk:=ri hg (lo:=aZ) (hi:=aZ) (fun x _=>od _) (fun e=>absurd rfl e)
 have hpos:=List.length_pos_iff.2 hne
 refine⟨fun e he=>?_,?_,fun i e he=>?_,?_,?_⟩
 ·obtain⟨c,hc,rfl⟩:=List.mem_map.1 he
  cases d with
  |zero=>
   obtain⟨w1,w2,w3,w4,w5,w6⟩:=hg.2.2 c hc
   rw[fg]at hp
   rw[hg.1]at hp ⊢
   refine KI w2 w3 ?_ fun p h=>hp p (List.mem_append_right _ (List.mem_flatMap.2 ⟨c,hc,by rw[iC];exact h⟩))
   cases hf with
   |leaf p l _ hh=>exact hh c hc
   |br p l _ _=>cases hg.1
  |succ d=>
   obtain⟨⟨w1,w2,w3⟩,_,k,hkid,hgk,hfk⟩:=hg.2.2.cell c hc
   rw[fg]at hp
   rw[hg.1]at hp ⊢
   have hfull:nV k:=by
    cases hf with
    |leaf p l _ _=>cases hg.1
    |br p l _ hh=>exact hh c hc k hkid
   have hkp:=(w9 (aw hgk) hfull).2 (pc hfk)
   exact SD w1 hkid (hp _ (List.mem_append_right _ (List.mem_flatMap.2 ⟨c,hc,by rw[fy hkid];exact List.mem_append_right _ (yr hkp)⟩)))
 ·rw[List.pairwise_map]
  exact hk.bW.imp fun{a b} h=>by rw[p8,p8];exact h
 ·rw[List.getElem?_map]at he
  cases hc:n.l[i]? with
  |none=>rw[hc]at he;cases he
  |some c=>
   rw[hc]at he
   cases he
   rw[p8]
   exact hk.first i c hc
 ·have:((db ((n.l.map (dX n.leaf)).map (eJ n.leaf)):Nat):Int)=(n.l.map (aX n.leaf)).sum:=Fy fun c hc=>by
   cases d with
   |zero=>
    rw[hg.1]
    refine vq (hg.2.2 c hc) ?_
    cases hf with
    |leaf p l _ hh=>exact hh c hc
    |br p l _ _=>cases hg.1
   |succ d=>rw[hg.1];exact zw c
  have:(ae n).sum=(n.l.map (aX n.leaf)).sum:=rfl
  omega
 ·rw[List.length_map]
  rcases h2 with h|h
  ·by_cases h1:n.l.length=1
   ·exact .inr ⟨h,h1⟩
   ·exact .inl (by omega)
  ·exact .inl (by omega)
theorem EE(d:ByteArray)(ps:List Int)(q:LS):(eY d ps q).2.2.length≤q.2.length+(if ps=[]then need (d.size:Int)else 0):=by
 unfold eY
 split
 ·show q.2.length≤_;omega
 ·rename_i h
  rw[if_pos (Classical.not_not.1 fun e=>h (.inr e))]
  show(q.2++_).length≤_
  rw[List.length_append,List.length_zip,List.length_take]
  omega
theorem kL{b:Bool}:∀{l:List C} {q:LS},(∀c,c∈l→∀q:LS,(eX b c q).2.2.length≤q.2.length+jP b c)→(ah b l q).2.2.length≤q.2.length+gQ b l
 |[],q,_=>by simp[ah,gQ]
 |c::l,q,h=>by
  have h1:=h c List.mem_cons_self q
  have h2:=kL (l:=l) (q:=(eX b c q).2) fun c hc=>h c (List.mem_cons_of_mem _ hc)
  have e:gQ b (c::l)=jP b c+gQ b l:=by unfold gQ;rw[List.map_cons,List.sum_cons]
  simp only[ah]
  omega
theorem Pm:∀{d:Nat} {n:N} {q:LS},Nd d n→(bA n q).2.2.length≤q.2.length+dg n:=by
 have fin:∀{d:Nat} {n:N} {q:LS},Nd d n→(∀c,c∈n.l→∀q:LS,(eX n.leaf c q).2.2.length≤q.2.length+jP n.leaf c)→(bA n q).2.2.length≤q.2.length+dg n:=by
  intro d n q hn h
  rw[dF,eQ hn]
  by_cases hp:n.ak≠0
  ·rw[if_pos (.inl hp),if_pos hp];exact Nat.le_refl _
  ·rw[if_neg hp]
   by_cases hz:n.leaf=true∧n.l=[]
   ·rw[if_pos (.inr hz),if_pos hz];exact Nat.le_refl _
   ·rw[if_neg (fun e=>e.elim hp hz),if_neg hz]
    show((ah n.leaf n.l q).2.2++[_]).length≤_
    have:=kL (q:=q) h
    rw[List.length_append,List.length_singleton]
    omega
 intro d
 induction d with
 |zero=>
  intro n q hn
  refine fin hn fun c hc q=>?_
  rw[hn.1,cg]
  exact EE c.data c.ai q
 |succ d ih=>
  intro n q hn
  refine fin hn fun c hc q=>?_
  obtain⟨_,k,hk,hnd⟩:=hn.2.2 c hc
  rw[hn.1,df hk]
  have:jP false c=dg k:=by rw[←bl hk];rfl
  rw[this]
  exact ih hnd
theorem Fz{d:Nat}{n:N}(hn:Nd d n):∀c,c∈n.l→∀q:LS,(eX n.leaf c q).2.2.length≤q.2.length+jP n.leaf c:=fun c hc q=>by
 cases d with
 |zero=>
  rw[hn.1,cg]
  exact EE c.data c.ai q
 |succ d=>
  obtain⟨_,k,hk,hnd⟩:=hn.2.2 c hc
  rw[hn.1,df hk,show jP false c=dg k by rw[←bl hk];rfl]
  exact Pm hnd
theorem xb:∀{d:Nat} {n:N} (q:LS),Nd d n→(∀x,x∈de n→x.data.size≤16)→de (bA n q).1=de n
 |0,n,q,hn,hs=>by
  rcases ef n q with e|e
  ·rw[e]
  ·rw[cm hn.1]at hs
   rw[cm hn.1,cm (by rw[eo];exact hn.1),e,hn.1]
   have:∀(l:List C) (q:LS),(∀c,c∈l→c.data.size≤16)→(ah true l q).1=l:=fun l=>by
    induction l with
    |nil=>intro q _;rfl
    |cons c l ih=>
     intro q h
     have h0:need (c.data.size:Int)=0:=by have:=h c List.mem_cons_self;unfold need;rw[if_neg (by omega)]
     have h1:(eX true c q).1=c:=by
      rw[cg]
      unfold eY
      rw[if_pos (.inl h0)]
      cases c;rfl
     simp only[ah]
     rw[ih _ fun c hc=>h c (List.mem_cons_of_mem _ hc),h1]
   exact this _ _ hs
 |d+1,n,q,hn,hs=>by
  rcases ef n q with e|e
  ·rw[e]
  ·rw[ca,hn.1]at hs
   rw[ca,ca n,eo,e,hn.1]
   have:∀(l:List C) (q:LS),(∀c,c∈l→c∈n.l)→(ah false l q).1.flatMap (iU false)=l.flatMap (iU false):=by
    intro l
    induction l with
    |nil=>intro q _;rfl
    |cons c l ih=>
     intro q hl
     obtain⟨hsh,k,hk,hnd⟩:=hn.2.2 c (hl c List.mem_cons_self)
     simp only[ah,List.flatMap_cons]
     rw[ih _ fun c hc=>hl c (List.mem_cons_of_mem _ hc),df hk,bc (k:=(bA k q).1) rfl,bc hk,xb q hnd fun x hx=>hs x (List.mem_flatMap.2 ⟨c,hl c List.mem_cons_self,by rw[bc hk];exact hx⟩)]
   exact this n.l q fun _ h=>h
def nF(l:List C):Nat:=(l.map fun c=>dg (ay c)).sum
def eu(q:N×List C):Nat:=dg q.1+nF q.2
def qj(l:List C):List Int:=l.flatMap fun c=>bX (ay c)
def gS(q:N×List C):List Int:=bX q.1++qj q.2
theorem Bv(l:List C)(c:C):nF (l++[c])=nF l+dg (ay c):=by simp[nF]
theorem A7(l:List C)(k:Nat):nF (l.take k)≤nF l:=by
 have:=congrArg nF (List.take_append_drop k l)
 simp only[nF,List.map_append,List.sum_append]at this ⊢
 omega
structure TL(n:N):Prop where
 root:gV n
 laid:k7 n
 pz:PZ n
theorem tV{n:N}(h:TL n):∃d,Nd d n:=let⟨d,h1,_⟩:=h.root;⟨d,aw h1⟩
structure TV(q:N×List C):Prop where
 dir:TL q.1
 cell:∀c,c∈q.2→TL (ay c)
structure BI(k:Nat)(q o:N×List C)(f:Int):Prop where
 v:VI k q.1 q.2
 w:VI k o.1 o.2
 tv:TV q
 f0:eu o=0
 sub:∀p,(gS q).count p≤(gS o).count p
 one:∀p,(gS o).count p≤1
 qh:∀p,p∈gS o→2≤p∧p<f
 lo:2≤f
 hi:f≤1000
theorem Pw{k m:Nat}{q o:N×List C}{f:Int}(h:BI k q o f)(hm:k≤m):BI m q o f:=⟨fJ h.v hm,fJ h.w hm,h.tv,h.f0,h.sub,h.one,h.qh,h.lo,h.hi⟩
theorem yz{n:N}{key val:ByteArray}(h:TL n)(h0:key≠aZ)(h1:key.size≤16)(h2:val.size≤400):TL (ld key val n):=by
 obtain⟨d,hn⟩:=tV h
 exact⟨(kF h0 h1 h2 h.root).1,Hl vj h1 h2 (.inl rfl) hn h.laid,UC h.root h0 h1 h2⟩
theorem Nu{n:N}{key:ByteArray}(h:TL n):TL (mg key n):=by
 obtain⟨d,hn⟩:=tV h
 exact⟨(pC key h.root).1,Ig vj hn h.laid,UJ h.root h.pz⟩
theorem DP{n:N}{key val:ByteArray}(h:TL n)(h1:key.size≤16)(h2:val.size≤400)(p:Int):(bX (ld key val n)).count p≤(bX n).count p:=by
 obtain⟨d,hn⟩:=tV h
 exact Un h1 h2 p hn
theorem JR{n:N}{key:ByteArray}(h:TL n)(p:Int):(bX (mg key n)).count p≤(bX n).count p:=by
 obtain⟨d,hn⟩:=tV h
 exact T5 p hn
theorem yt{k:Nat}{q o q':N×List C}{f:Int}(h:BI k q o f)(h1:VI (k+1) q'.1 q'.2)(h2:TV q')(h3:∀p,(gS q').count p≤(gS q).count p):BI (k+1) q' o f:=
 ⟨h1,fJ h.w (by omega),h2,h.f0,fun p=>Nat.le_trans (h3 p) (h.sub p),h.one,h.qh,h.lo,h.hi⟩
theorem pW(l m:List C):qj (l++m)=qj l++qj m:=by unfold qj;rw[List.flatMap_append]
theorem Xi{k:Nat}{q o:N×List C}{f:Int}(h:BI k q o f)(hk:k≤116)(name:ByteArray):BI (k+1) (mI name q.1 q.2).1 o f:=by
 have hv:=Np h.v hk name
 refine yt h hv ?_ ?_ <;>clear hv
 all_goals
  unfold mI
  cases hok:gE name with
  |false=>first|exact h.tv|exact fun p=>Nat.le_refl _
  |true=>
   cases hh:dE q.2 name with
   |true=>first|exact h.tv|exact fun p=>Nat.le_refl _
   |false=>
    obtain⟨hne,hsz⟩:=dp hok
    simp only[if_true,if_false,Bool.false_eq_true]
    first
    |refine⟨yz h.tv.dir hne hsz (by decide),fun c hc=>?_⟩
     rw[List.append_assoc]at hc
     rcases List.mem_append.1 hc with hc|hc
     ·exact h.tv.cell c (List.mem_of_mem_take hc)
     ·rcases List.mem_append.1 hc with hc|hc
      ·rw[List.mem_singleton]at hc;subst hc;exact⟨yW,uB,Ry⟩
      ·exact h.tv.cell c (List.mem_of_mem_drop hc)
    |intro p
     have a:=DP (key:=name) (val:=AF) h.tv.dir hsz (by decide) p
     have b:=congrArg (fun l=>(qj l).count p) (List.take_append_drop (bk q.2 name) q.2)
     simp only[gS,pW,List.count_append]at b ⊢
     have e:(qj [af name mi]).count p=0:=by show List.count p []=0;simp
     omega
theorem V8{k:Nat}{q o:N×List C}{f:Int}(h:BI k q o f)(hk:k≤116)(name:ByteArray):BI (k+1) (we name q.1 q.2).1 o f:=by
 have hv:=Sd h.v hk name
 refine yt h hv ?_ ?_ <;>clear hv
 all_goals
  unfold we
  cases hh:dE q.2 name with
  |false=>first|exact h.tv|exact fun p=>Nat.le_refl _
  |true=>
   simp only[if_true]
   first
   |refine⟨Nu h.tv.dir,fun c hc=>?_⟩
    rcases List.mem_append.1 hc with hc|hc
    ·exact h.tv.cell c (List.mem_of_mem_take hc)
    ·exact h.tv.cell c (List.mem_of_mem_drop hc)
   |intro p
    have a:=JR (key:=name) h.tv.dir p
    have b:=congrArg (fun l=>(qj l).count p) (List.take_append_drop (bk q.2 name) q.2)
    have c:(qj (q.2.drop (bk q.2 name+1))).count p≤(qj (q.2.drop (bk q.2 name))).count p:=by
     rw[←List.drop_drop]
     have:=congrArg (fun l=>(qj l).count p) (List.take_append_drop 1 (q.2.drop (bk q.2 name)))
     simp only[pW,List.count_append]at this
     omega
    simp only[gS,pW,List.count_append]at b ⊢
    omega
theorem RU{k:Nat}{q o:N×List C}{f:Int}(h:BI k q o f)(hk:k≤116)(name:ByteArray)(g:N→N×Int)(hg:∀t,TB k t→TB (k+1) (g t).1)(ht:∀t,TL t→TL (g t).1)(hp:∀t,TL t→∀p,(bX (g t).1).count p≤(bX t).count p):BI (k+1) (ve name g q.1 q.2).1 o f:=by
 have hv:=Rq h.v hk name g hg
 refine yt h hv ?_ ?_ <;>clear hv
 all_goals
  unfold ve
  cases hh:dE q.2 name with
  |false=>first|exact h.tv|exact fun p=>Nat.le_refl _
  |true=>
   obtain⟨c,hc,hck⟩:=Dd hh
   have hm:=List.mem_of_getElem? hc
   obtain⟨hne,hsz⟩:=dp (h.v.cell c hm).2.2
   rw[hck]at hne hsz
   simp only[if_true,hc]
   split
   ·first
    |refine⟨yz h.tv.dir hne hsz (by decide),fun x hx=>?_⟩
     rcases List.mem_or_eq_of_mem_set hx with hx|rfl
     ·exact h.tv.cell x hx
     ·exact ht _ (h.tv.cell c hm)
    |intro p
     have a:=DP (key:=name) (val:=AF) h.tv.dir hsz (by decide) p
     have b:=hp _ (h.tv.cell c hm) p
     obtain⟨hlt,he⟩:=List.getElem?_eq_some_iff.1 hc
     have e1:q.2.set (bk q.2 name) (af c.key (g (ay c)).1)=q.2.take (bk q.2 name)++af c.key (g (ay c)).1::q.2.drop (bk q.2 name+1):=List.set_eq_take_append_cons_drop.trans (if_pos hlt)
     have e2:q.2=q.2.take (bk q.2 name)++c::q.2.drop (bk q.2 name+1):=by
      rw[←he,←List.drop_eq_getElem_cons hlt,List.take_append_drop]
     have e3:∀(x:C) (A B:List C),(qj (A++x::B)).count p=(qj A).count p+(bX (ay x)).count p+(qj B).count p:=fun x A B=>by
      unfold qj
      rw[List.flatMap_append,List.flatMap_cons,List.count_append,List.count_append]
      omega
     have e4:=congrArg (fun l=>(qj l).count p) e2
     simp only[e3]at e4
     simp only[gS,List.count_append]
     rw[e1,e3,wA]
     omega
   ·first|exact h.tv|exact fun p=>Nat.le_refl _
theorem RG{k:Nat}{q o:N×List C}{f:Int}(h:BI k q o f)(hk:k≤116)(name key val:ByteArray):BI (k+1) (sN name key val q.1 q.2).1 o f:=by
 unfold sN
 split
 ·rename_i hc
  simp only[Bool.and_eq_true,decide_eq_true_eq]at hc
  obtain⟨hne,hsz⟩:=dp hc.1
  exact RU h hk name _ (fun t ht=>tu ht hk hne hsz hc.2) (fun t ht=>yz ht hne hsz hc.2) fun t ht p=>DP ht hsz hc.2 p
 ·exact Pw h (by omega)
theorem VD{k:Nat}{q o:N×List C}{f:Int}(h:BI k q o f)(hk:k≤116)(name key:ByteArray):BI (k+1) (Oq name key q.1 q.2).1 o f:=by
 refine RU h hk name _ (fun t ht=>?_) (fun t ht=>?_) fun t ht p=>?_
 ·split
  ·exact Cb ht hk
  ·exact lL ht (by omega)
 ·split
  ·exact Nu ht
  ·exact ht
 ·split
  ·exact JR ht p
  ·exact Nat.le_refl _
def bY(s:ByteArray):List DV:=s.data.toList.map fun c=> .v (.int .u8 c.toNat)
theorem bg(s:ByteArray):(bY s).length=s.size:=by unfold bY;rw[List.length_map];rfl
theorem cP(a b:ByteArray):bY (a++b)=bY a++bY b:=by
 unfold bY
 rw[←List.map_append]
 congr 1
theorem mV(x:Int)(h0:0≤x)(h1:x≤255):bY (strOfNums [x])=[.v (.int .u8 x)]:=by
 have e:bY (strOfNums [x])=[.v (.int .u8 ((UInt8.ofNat x.toNat).toNat:Nat))]:=rfl
 rw[e]
 have:(UInt8.ofNat x.toNat).toNat=x.toNat:=by
  rw[UInt8.toNat_ofNat'];omega
 rw[this]
 congr 4
 omega
@[go_sem] def fC (s:ByteArray):DV:= .sl 1 false (bY s)
theorem EW:∀(i:Nat) (x:Int),0≤x→x<18446744073709551616→kJ i x=x.fdiv (2^(8*i))∧0≤kJ i x∧kJ i x<18446744073709551616
 |0,x,h0,h1=>⟨by simp[kJ],h0,h1⟩
 |i+1,x,h0,h1=>by
  obtain⟨e,a,b⟩:=EW i x h0 h1
  have e1:(kJ i x).tdiv 256=kJ i x/256:=Int.tdiv_eq_ediv_of_nonneg a
  have hw:IntKind.u64.wrap (kJ i x/256)=kJ i x/256:=ja (by omega) (by omega)
  rw[kJ,e1,hw]
  refine⟨?_,by omega,by omega⟩
  rw[e,Int.fdiv_eq_ediv_of_nonneg _ (Int.le_of_lt (Int.pow_pos (by decide))),Int.fdiv_eq_ediv_of_nonneg _ (Int.le_of_lt (Int.pow_pos (by decide))),Int.ediv_ediv_of_nonneg (Int.le_of_lt (Int.pow_pos (by decide))),show(8*(i+1))=8*i+8 by omega,Int.pow_add]
  rfl
theorem tn(w0:W0)(x:Int)(k:Nat)(S:St)(h0:1≤k)(h1:k≤8)(hx:0≤x)(hx2:x<18446744073709551616):aa Tryz.prog w0 81 [dU x,dI k] S (fun d S'=>d=fC (bF k x)∧S'=S):=by
 refine aY [] mx Tryz.func81 rfl rfl (by kernel_rfl) ?_;simp(maxDischargeDepth:=12) (maxSteps:=1000000) -implicitDefEqProofs only[Tryz.ntmps81,go_sem,Nat.reduceAdd,Nat.reduceSub,Nat.reduceMul,Nat.reduceLeDiff,Nat.reduceEqDiff,Nat.reduceGT,Nat.reduceBEq,reduceCtorEq,↓reduceIte,Int.reduceToNat,Int.reduceLE,Int.reduceLT,Int.reduceNe,Int.reduceEq]
 refine⟨fun h=>absurd h (by omega),fun _=>⟨fun h=>absurd h (by omega),fun _=>?_⟩⟩
 refine⟨by omega,by omega,fun b=>?_⟩
 refine aA [] k [0,1,5,16,17] (fun i=>[(17,dI i)]) (fun i=>⟨S.box,(b.n,.arr 1 (List.replicate (k-i) (.v (.int .u8 0))++bY (bF i x)))::S.acc⟩) (fun _=>True) mx (by kernel_rfl) ?_ ?_
 ·have e0:bY (bF 0 x)=[]:=rfl
  simp(maxDischargeDepth:=12) (maxSteps:=1000000) -implicitDefEqProofs only[go_sem,Nat.reduceAdd,Nat.reduceSub,Nat.reduceMul,Nat.reduceLeDiff,Nat.reduceEqDiff,Nat.reduceGT,Nat.reduceBEq,reduceCtorEq,↓reduceIte,Int.reduceToNat,Int.reduceLE,Int.reduceLT,Int.reduceNe,Int.reduceEq,e0,Nat.sub_zero,List.append_nil]
 ·intro i hi _
  have hs:=bg (bF i x)
  rw[aC]at hs
  have e2:IntKind.i64.wrap ((i:Int)+1)=((i+1:Nat):Int):=by rw[ba (by omega) (by omega)];omega
  have e3:IntKind.i64.wrap (8*(i:Int))=8*i:=ba (by omega) (by omega)
  have e4:IntKind.i64.wrap ((k:Int)-1)=(k:Int)-1:=ba (by omega) (by omega)
  have e5:IntKind.i64.wrap ((k:Int)-1-i)=(k:Int)-1-i:=ba (by omega) (by omega)
  simp(maxDischargeDepth:=12) (maxSteps:=1000000) -implicitDefEqProofs only[go_sem,Nat.reduceAdd,Nat.reduceSub,Nat.reduceMul,Nat.reduceLeDiff,Nat.reduceEqDiff,Nat.reduceGT,Nat.reduceBEq,reduceCtorEq,↓reduceIte,Int.reduceToNat,Int.reduceLE,Int.reduceLT,Int.reduceNe,Int.reduceEq,hs,e3,e4,e5]
  have hl:(List.replicate (k-i) (DV.v (.int .u8 0))).length+i=k:=by rw[List.length_replicate];omega
  refine⟨fun hlt=>⟨by omega,by omega,by omega,hl,?_⟩,fun hge=>⟨hl,?_⟩⟩
  ·have ej:((k:Int)-1-i).toNat=k-1-i:=by omega
   have dn:(List.replicate (k-i) (DV.v (.int .u8 0))++bY (bF i x)).set ((k:Int)-1-i).toNat (.v (.int .u8 (IntKind.u8.wrap (x.fdiv (2^min (8*(i:Int)).toNat 64)))))=List.replicate (k-(i+1)) (DV.v (.int .u8 0))++bY (bF (i+1) x):=by
    have hx1:x.fdiv (2^min (8*(i:Int)).toNat 64)=kJ i x:=by
     rw[(EW i x hx hx2).1]
     congr 2
     omega
    have h8:bY (bF (i+1) x)= .v (.int .u8 (IntKind.u8.wrap (kJ i x)))::bY (bF i x):=by
     have hb:0≤IntKind.u8.wrap (kJ i x)∧IntKind.u8.wrap (kJ i x)≤255:=by
      have e:IntKind.u8.wrap (kJ i x)=kJ i x%256:=rfl
      rw[e]
      have:=Int.emod_nonneg (kJ i x) (by decide:(256:Int)≠0)
      have:=Int.emod_lt_of_pos (kJ i x) (by decide:(0:Int)<256)
      omega
     rw[bF,cP,mV _ hb.1 hb.2];rfl
    rw[hx1,h8,ej,show k-i=(k-(i+1))+1 by omega,List.replicate_succ',List.append_assoc,show k-1-i=k-(i+1)by omega]
    rw[List.set_append_right _ _ (by rw[List.length_replicate];exact Nat.le_refl _),List.length_replicate,Nat.sub_self]
    rfl
   rw[dn]
   refine⟨.v (.int .u8 0),?_,rfl,hlt,e2,.refl _⟩
   rw[ej,List.getElem?_append_left (by rw[List.length_replicate];omega),List.getElem?_replicate,if_pos (by omega)]
  ·have:k-i=0:=by omega
   rw[this,show i=k by omega]
   exact .refl _
theorem TS(w0:W0)(x:Int)(S:St)(hx:0≤x)(hx2:x<65536):aa Tryz.prog w0 299 [dI x] S (fun d S'=>d=fC (bF 2 x)∧S'=S):=by
 have e:IntKind.u64.wrap x=x:=ja (by omega) (by omega)
 refine aY [] mx Tryz.func299 rfl rfl (by kernel_rfl) ?_;(refine @ab _ ?_;refine ao @Tryz.ntmps299 ?_)
 (refine @ab _ ?_;refine ao @e ?_)
 refine aq (tn w0 x 2 _ (by decide) (by decide) hx (by omega)) ?_
 (refine @ab _ ?_;exact aK)
theorem K8(w0:W0)(l:List ByteArray)(S:St)(h:db l≤1048576)(hl:l.length≤1048576):aa Tryz.prog w0 139 [.sl 1 false (l.map fC)] S (fun d S'=>d=dI (db l)∧S'=S):=by
 refine aY [] mx Tryz.func139 rfl rfl (by kernel_rfl) ?_;(refine @ab _ ?_;refine ao @Tryz.ntmps139 ?_)
 have hll:=xX l
 have hsl:∀k,((l.take k).map fun s=>s.size).sum+(l.take k).length=db (l.take k):=fun k=>by
  induction l.take k with
  |nil=>rfl
  |cons a m ih=>simp only[db,List.map_cons,List.sum_cons,List.length_cons]at *;omega
 refine aA [] l.length [3,8,9,10] (fun k=>[(3,dI ((l.length+((l.take k).map fun s=>s.size).sum:Nat):Int)),(10,dI k)]) (fun _=>S) (fun _=>True) mx (by kernel_rfl) ?_ ?_
 ·(refine @ab _ ?_;refine au ?_)
  simp
 ·intro k hk _
  have h1:=hsl k
  have h2:=jj l k
  have h4:=jj l (k+1)
  have h5:=hsl (k+1)
  (refine @ab _ ?_;refine au ?_)
  refine⟨fun hlt=>⟨hlt,fun s hs=>?_⟩,fun hge=>?_⟩
  ·have h3:((l.take (k+1)).map fun s=>s.size).sum=((l.take k).map fun s=>s.size).sum+s.size:=by rw[List.take_add_one,hs];simp
   have hb:=bg s
   rw[hb,h3]
   exact⟨hlt,by rw[ba (by omega) (by omega)];omega,by rw[ba (by omega) (by omega)];omega⟩
  ·have:=hsl l.length
   rw[List.take_of_length_le (Nat.le_refl _)]at this
   rw[List.take_of_length_le (by omega)]
   omega
theorem TP(w0:W0)(n:Int)(S:St)(h0:0≤n)(h1:n≤1099511627776):aa Tryz.prog w0 274 [.sl 0 true [],dI n] S (fun d S'=>∃l:FN S.acc,d= .acc l.n 0∧S'=⟨S.box,(l.n,.arr 1 [])::S.acc⟩):=by
 refine ia (K':=fun d S'=>(d= .sl 0 true []∧S'=S)∨∃l:FN S.acc,d= .acc l.n 0∧S'=⟨S.box,(l.n,.arr 1 [])::S.acc⟩) ?_ 1 (by omega) ?_
 ·refine nt [] mx Tryz.func274 rfl rfl (by kernel_rfl) ?_;(refine @ab _ ?_;refine ao @Tryz.ntmps274 ?_)
  have e1:IntKind.i64.wrap (0-0)=0:=ba (by omega) (by omega)
  rw[e1,Int.sub_zero,ba (by omega) (by omega)]
  refine⟨fun h=>by omega,fun h h2=>⟨by omega,by omega,by omega,fun l=> .inl ⟨⟨_,_,_,rfl⟩,by simp,fun l'=>⟨⟨l'.n,l'.h.2.2⟩,rfl,rfl⟩⟩⟩⟩
 ·rintro d S' (⟨rfl,rfl⟩|h)
  ·exact .inr ⟨⟨0,rfl⟩,fun l hl=>⟨⟨l,hl⟩,rfl,rfl⟩⟩
  ·exact .inl h
theorem LC(w0:W0)(rows:List (List DV))(S:St)(h0:rows.length≤1099511627776)(h1:(fl rows).length≤1048576):
 aa Tryz.prog w0 268 [.sl 1 false (rows.map (dR 1))] S (fun d S'=>d=dR 1 (fl rows)∧S'=S):=by
 refine aY [] mx Tryz.func268 rfl rfl (by kernel_rfl) ?_;(refine @ab _ ?_;refine ao @Tryz.ntmps268 ?_)
 refine aA [] rows.length [0,3,9,10,11] (fun k=>[(3,dI (fl (rows.take k)).length),(11,dI k)]) (fun _=>S) (fun k=>True) mx (by kernel_rfl) ?_ ?_
 ·(refine @ab _ ?_;refine au ?_)
  simp[fl]
 ·intro k hk _
  (refine @ab _ ?_;refine au ?_)
  refine⟨fun hlt=>⟨hlt,fun a ha=>?_⟩,fun hge=>?_⟩
  ·have h2:=ko ha
   have h3:=rN rows (k+1)
   rw[h2,List.length_append]at h3
   rw[ba (by omega) (by omega)]
   refine⟨fun h=>by omega,fun h=>⟨hlt,?_,ba (by omega) (by omega)⟩⟩
   rw[h2,List.length_append];omega
  ·rw[List.take_of_length_le (by omega)]
   refine bB (TP w0 (fl rows).length S (by omega) (by omega)) ?_
   rintro d S' ⟨l,rfl,rfl⟩
   (refine @ab _ ?_;refine au ?_)
   refine aA [] rows.length [6,25,26,27] (fun k=>[(6,.acc l.n (fl (rows.take k)).length),(27,dI k)]) (fun k=>⟨S.box,(l.n,.arr 1 (fl (rows.take k)))::S.acc⟩) (fun k=>True) mx (by kernel_rfl) ?_ ?_
   ·(refine @ab _ ?_;refine au ?_)
    simp[fl,Wk.refl,Sub.refl]
   ·intro k hk _
    (refine @ab _ ?_;refine au ?_)
    refine⟨fun hlt=>⟨hlt,fun a ha=>?_⟩,fun hge=>?_⟩
    ·have h2:=ko ha
     have h3:=rN rows (k+1)
     rw[h2,List.length_append]at h3
     refine⟨by omega,by unfold maxLen;omega,hlt,⟨?_,ba (by omega) (by omega)⟩,?_⟩
     ·rw[h2,List.length_append];exact .refl _
     ·rw[h2];exact .refl _
    ·rw[List.take_of_length_le (by omega)];exact .full _ _ _
theorem PI(w0:W0)(a b:ByteArray)(S:St)(h:a.size+b.size≤1048576):aa Tryz.prog w0 268 [.sl 1 false [fC a,fC b]] S (fun d S'=>d=fC (a++b)∧S'=S):=by
 have:=LC w0 [bY a,bY b] S (by simp) (by simp[fl,bg];omega)
 have e:fl [bY a,bY b]=bY (a++b):=by simp[fl,cP]
 rw[e]at this
 exact this
theorem IK(w0:W0)(s:ByteArray){S:St}{b n c o:Nat}{ds:List DV}(hb:lk S.box b=some ds)(hs:(ds.drop o).take n=bY s)(hn:o+n≤ds.length)(h:s.size≤1048576):
 aa Tryz.prog w0 141 [.v (.slice (some ⟨b,o,none⟩) n c)] S (fun d S'=>d=fC s∧S'=S):=by
 refine aY [] mx Tryz.func141 rfl rfl (by kernel_rfl) ?_;(refine @ab _ ?_;refine fa @Tryz.ntmps141 @hb @hs ?_)
 have hm8:maxLen=9223372036854775807:=rfl
 rw[bg]
 exact⟨hn,by omega,by omega⟩
def uh:List Int:=[0,498536548,997073096,651767980,1994146192,1802195444,1303535960,1342533948,3988292384,4027552580,3604390888,3412177804,2607071920,2262029012,2685067896,3183342108]
def n9:List Value:=uh.map fun z=> .int .u32 z
def fF(w0:W0):Prop:=yH w0 1 n9
def fB(x:BitVec 32):BitVec 32:=(x >>> 1) ^^^ (if x.getLsbD 0 then 3988292384#32 else 0#32)
theorem Uq(x y p:BitVec 32):x ^^^ (y ^^^ p)=y ^^^ (x ^^^ p):=by rw[←BitVec.xor_assoc,BitVec.xor_comm x y,BitVec.xor_assoc]
theorem UR(x y p:BitVec 32):(x ^^^ p) ^^^ (y ^^^ p)=x ^^^ y:=by
 rw[BitVec.xor_assoc,Uq p y p,BitVec.xor_self,BitVec.xor_zero]
theorem TR(a b:BitVec 32):fB (a ^^^ b)=fB a ^^^ fB b:=by
 unfold fB
 rw[BitVec.ushiftRight_xor_distrib,BitVec.getLsbD_xor]
 cases a.getLsbD 0 <;>cases b.getLsbD 0
 ·simp
 ·simp[BitVec.xor_assoc]
 ·simp only[Bool.xor_false,Bool.true_xor,Bool.not_false,if_true,Bool.false_eq_true,if_false,BitVec.xor_zero]
  rw[BitVec.xor_assoc,BitVec.xor_assoc,BitVec.xor_comm (b >>> 1)]
 ·simp only[bne_self_eq_false,Bool.xor_self,Bool.false_eq_true,if_false,if_true,BitVec.xor_zero]
  exact(UR _ _ _).symm
def Hq(x:BitVec 32):BitVec 32:=fB (fB (fB (fB x)))
theorem OB(a b:BitVec 32):Hq (a ^^^ b)=Hq a ^^^ Hq b:=by unfold Hq;simp only[TR]
theorem sS{x:BitVec 32}(h:x.getLsbD 0=false):fB x=x >>> 1:=by unfold fB;rw[h];simp
theorem IU(x:BitVec 32):x=((x >>> 4) <<< 4) ^^^ (x &&& 15#32):=by
 refine BitVec.eq_of_getLsbD_eq fun i hi=>?_
 rw[BitVec.getLsbD_xor,BitVec.getLsbD_shiftLeft,BitVec.getLsbD_ushiftRight,BitVec.getLsbD_and]
 have h15:(15#32:BitVec 32).getLsbD i=decide (i<4):=by
  revert hi
  have:∀j:Fin 32,(15#32:BitVec 32).getLsbD j=decide (j.val<4):=by decide
  exact fun hi=>this ⟨i,hi⟩
 rw[h15]
 by_cases h4:i<4
 ·simp[h4]
 ·simp[h4,hi,show 4+(i-4)=i by omega]
theorem U3(x:BitVec 32):Hq ((x >>> 4) <<< 4)=x >>> 4:=by
 have hb:∀k,k<4→(((x >>> 4) <<< 4) >>> k).getLsbD 0=false:=fun k hk=>by
  rw[BitVec.getLsbD_ushiftRight,BitVec.getLsbD_shiftLeft]
  simp;intro _ h;omega
 unfold Hq
 have e0:fB ((x >>> 4) <<< 4)=((x >>> 4) <<< 4) >>> 1:=sS (by have:=hb 0 (by decide);simp at this ⊢)
 have e1:fB (((x >>> 4) <<< 4) >>> 1)=((x >>> 4) <<< 4) >>> 2:=by rw[sS (hb 1 (by decide)),←BitVec.shiftRight_add]
 have e2:fB (((x >>> 4) <<< 4) >>> 2)=((x >>> 4) <<< 4) >>> 3:=by rw[sS (hb 2 (by decide)),←BitVec.shiftRight_add]
 have e3:fB (((x >>> 4) <<< 4) >>> 3)=((x >>> 4) <<< 4) >>> 4:=by rw[sS (hb 3 (by decide)),←BitVec.shiftRight_add]
 rw[e0,e1,e2,e3]
 refine BitVec.eq_of_getLsbD_eq fun i hi=>?_
 rw[BitVec.getLsbD_ushiftRight,BitVec.getLsbD_shiftLeft,BitVec.getLsbD_ushiftRight,BitVec.getLsbD_ushiftRight]
 by_cases h:4+i<32
 ·simp[h]
 ·have:x.getLsbD (4+i)=false:=BitVec.getLsbD_of_ge _ _ (by omega)
  simp[h,this]
def TQ(k:Nat):BitVec 32:=BitVec.ofInt 32 (uh.getD k 0)
theorem Ty:∀r:Fin 16,Hq (BitVec.ofNat 32 r)=TQ r:=by decide
theorem Uh(x:BitVec 32):Hq x=(x >>> 4) ^^^ TQ (x &&& 15#32).toNat:=by
 have h:=IU x
 have hlt:(x &&& 15#32).toNat<16:=by
  rw[BitVec.toNat_and]
  exact Nat.lt_of_le_of_lt Nat.and_le_right (by decide)
 have hr:=Ty ⟨_,hlt⟩
 simp only at hr
 rw[BitVec.ofNat_toNat,BitVec.setWidth_eq]at hr
 conv=>lhs;rw[h]
 rw[OB,U3,hr]
def nB(b:BitVec 32):Int:=(b.toNat:Int)
theorem ug(b:BitVec 32):IntKind.u32.wrap (nB b)=nB b:=by
 have e:IntKind.u32.wrap (nB b)=nB b%4294967296:=rfl
 have:=b.isLt
 rw[e];unfold nB;omega
theorem xB(b:BitVec 32):BitVec.ofInt IntKind.u32.bits (nB b)=b:=by
 show BitVec.ofInt 32 (b.toNat:Int)=b
 rw[BitVec.ofInt_natCast,BitVec.ofNat_toNat,BitVec.setWidth_eq]
theorem mH(x y:Int):fD .xor .u32 x y=nB (BitVec.ofInt 32 x ^^^ BitVec.ofInt 32 y):=ug (BitVec.ofInt 32 x ^^^ BitVec.ofInt 32 y)
theorem BQ(x y:Int):fD .and .u32 x y=nB (BitVec.ofInt 32 x &&& BitVec.ofInt 32 y):=ug (BitVec.ofInt 32 x &&& BitVec.ofInt 32 y)
theorem OO(b:BitVec 32):UD (nB b)=nB (fB b):=by
 have h2:(nB b).tdiv 2=nB (b >>> 1):=by
  unfold nB
  rw[BitVec.toNat_ushiftRight,Nat.shiftRight_eq_div_pow,Int.tdiv_eq_ediv_of_nonneg (by omega)]
  omega
 have h3:(nB b).tmod 2=((b.toNat%2:Nat):Int):=by
  unfold nB
  rw[Int.tmod_eq_emod_of_nonneg (by omega)];omega
 have h4:b.getLsbD 0=decide (b.toNat%2=1):=Nat.testBit_zero b.toNat
 unfold UD fB
 rw[h2,h3,h4,ug]
 by_cases h:b.toNat%2=1
 ·rw[if_pos (by omega),mH,decide_eq_true h,if_pos rfl]
  have:BitVec.ofInt 32 (nB (b >>> 1))=b >>> 1:=xB _
  rw[this];rfl
 ·rw[if_neg (by omega),decide_eq_false h]
  simp
theorem Bo(b:BitVec 32):BL 8 (nB b)=nB (Hq (Hq b)):=by
 simp only[BL,OO]
 rfl
def vO(x:Int):Int:=fD .xor .u32 (x.fdiv (2^4)) (uh.getD (fD .and .u32 x 15).toNat 0)
theorem zy(b:BitVec 32):vO (nB b)=nB (Hq b):=by
 unfold vO
 have h1:(nB b).fdiv (2^4)=nB (b >>> 4):=by
  unfold nB
  rw[BitVec.toNat_ushiftRight,Nat.shiftRight_eq_div_pow,Int.fdiv_eq_ediv_of_nonneg _ (by decide)]
  omega
 have h2:fD .and .u32 (nB b) 15=nB (b &&& 15#32):=by
  rw[BQ]
  have:BitVec.ofInt 32 (nB b)=b:=xB b
  rw[this];rfl
 rw[h1,h2,mH,Uh]
 have:BitVec.ofInt 32 (nB (b >>> 4))=b >>> 4:=xB _
 rw[this]
 unfold TQ nB
 rw[Int.toNat_natCast]
theorem MC(x:Int)(c:Int):BL 8 (fD .xor .u32 x (IntKind.u32.wrap c))=vO (vO (fD .xor .u32 x (IntKind.u32.wrap c))):=by
 rw[mH,Bo,zy,zy]
theorem uZ(x:Int):0≤fD .and .u32 x 15∧fD .and .u32 x 15<16:=by
 rw[BQ]
 unfold nB
 have:(BitVec.ofInt 32 x &&& BitVec.ofInt 32 15).toNat<16:=by
  rw[BitVec.toNat_and]
  exact Nat.lt_of_le_of_lt Nat.and_le_right (by decide)
 omega
theorem Lp:∀r:Fin 16,(n9.map DV.v).drop r.val= .v (.int .u32 (uh.getD r.val 0))::(n9.map DV.v).drop (r.val+1)
 |⟨0,_⟩=>rfl
 |⟨1,_⟩=>rfl
 |⟨2,_⟩=>rfl
 |⟨3,_⟩=>rfl
 |⟨4,_⟩=>rfl
 |⟨5,_⟩=>rfl
 |⟨6,_⟩=>rfl
 |⟨7,_⟩=>rfl
 |⟨8,_⟩=>rfl
 |⟨9,_⟩=>rfl
 |⟨10,_⟩=>rfl
 |⟨11,_⟩=>rfl
 |⟨12,_⟩=>rfl
 |⟨13,_⟩=>rfl
 |⟨14,_⟩=>rfl
 |⟨15,_⟩=>rfl
 |⟨n+16,h⟩=>absurd h (by omega)
theorem PQ{z:Int}(h0:0≤z)(h1:z<16):(n9.map DV.v).drop z.toNat= .v (.int .u32 (uh.getD z.toNat 0))::(n9.map DV.v).drop (z.toNat+1):=Lp ⟨z.toNat,by omega⟩
theorem P4(x:Int)(h0:0≤x)(h1:x≤4294967295):fD .xor .u32 4294967295 x=4294967295-x:=by
 have hx:x=nB (BitVec.ofNat 32 x.toNat):=by
  unfold nB
  rw[BitVec.toNat_ofNat];omega
 rw[mH,hx]
 have e:BitVec.ofInt 32 (nB (BitVec.ofNat 32 x.toNat))=BitVec.ofNat 32 x.toNat:=xB _
 rw[e]
 have e2:(BitVec.ofInt 32 4294967295:BitVec 32)=BitVec.allOnes 32:=by decide
 rw[e2,BitVec.allOnes_xor]
 unfold nB
 rw[BitVec.toNat_not]
 have:=(BitVec.ofNat 32 x.toNat).isLt
 omega
theorem QV(l:List Int)(x:Int)(h0:0≤x)(h1:x≤4294967295):0≤uu l x∧uu l x≤4294967295:=by
 unfold uu
 induction l generalizing x with
 |nil=>exact⟨h0,h1⟩
 |cons a l ih=>
  rw[List.foldl_cons]
  refine ih _ ?_ ?_ <;>rw[mH,Bo] <;>unfold nB <;>have:=(Hq (Hq (BitVec.ofInt 32 x ^^^ BitVec.ofInt 32 (IntKind.u32.wrap a)))).isLt <;>omega
theorem onP(w0:W0)(hg:fF w0)(s:ByteArray){S:St}{b n c o:Nat}{ds:List DV}(hb:lk S.box b=some ds)(hs:(ds.drop o).take n=bY s)(hn:o+n≤ds.length)(h:s.size≤1048576):
 aa Tryz.prog w0 196 [.v (.int .u32 0),.v (.slice (some ⟨b,o,none⟩) n c)] S (fun d S'=>d= .v (.int .u32 (JC 0 s))∧S'=S):=by
 have hG:=Mu hg
 have hns:n=s.size:=by
  have:=congrArg List.length hs
  rw[List.length_take,List.length_drop,bg]at this
  omega
 have e0:fD .xor .u32 (if IntKind.u32.signed=true then -1 else IntKind.u32.max) 0=4294967295:=by decide
 refine aY [] mx Tryz.func196 rfl rfl (by kernel_rfl) ?_;(refine @ab _ ?_;refine aO @Tryz.ntmps196 @e0 ?_)
 refine aA [] n [5,10,11,12] (fun k=>[(5,.v (.int .u32 (uu ((nR s).take k) 4294967295))),(12,dI k)]) (fun _=>S) (fun _=>True) mx (by kernel_rfl) ?_ ?_
 ·(refine @ab _ ?_;refine au ?_)
  rfl
 ·intro k hk _
  have e1:IntKind.i64.wrap ((k:Int)+1)=((k+1:Nat):Int):=by rw[ba (by omega) (by omega)];omega
  have ek:(k:Int).toNat*1=k:=by omega
  by_cases hlt:k<n
  ·have hc:s.data.toList[k]? =some s.data.toList[k]:=List.getElem?_eq_getElem (by have:s.data.toList.length=s.size:=rfl;omega)
   generalize s.data.toList[k]=c at hc
   have hd:ds.drop (o+k*1)= .v (.int .u8 c.toNat)::ds.drop (o+k+1):=by
    rw[Nat.mul_one]
    have h1:(bY s)[k]? =some (.v (.int .u8 c.toNat)):=by unfold bY;rw[List.getElem?_map,hc];rfl
    rw[←hs,List.getElem?_take,if_pos hlt,List.getElem?_drop]at h1
    obtain⟨hl,he⟩:=List.getElem?_eq_some_iff.1 h1
    rw[List.drop_eq_getElem_cons hl,he]
   have hh:∀x,(n9.map DV.v).drop ((fD .and .u32 x 15).toNat*1)= .v (.int .u32 (uh.getD (fD .and .u32 x 15).toNat 0))::(n9.map DV.v).drop ((fD .and .u32 x 15).toNat+1):=fun x=>by
    rw[Nat.mul_one]
    exact PQ (uZ x).1 (uZ x).2
   have hh2:n9.length=16:=rfl
   have hcs:uu ((nR s).take (k+1)) 4294967295=vO (vO (fD .xor .u32 (uu ((nR s).take k) 4294967295) (IntKind.u32.wrap (c.toNat:Int)))):=by
    have hb':(nR s)[k]? =some (c.toNat:Int):=by unfold nR;rw[List.getElem?_map,hc];rfl
    have:(nR s).take (k+1)=(nR s).take k++[(c.toNat:Int)]:=by rw[List.take_add_one,hb'];rfl
    rw[this]
    unfold uu
    rw[List.foldl_append]
    exact MC _ _
   rw[hcs]
   have i3:∀x,(fD .and .u32 x 15).toNat*1≤16:=fun x=>by have:=uZ x;omega
   (refine @ab _ ?_;refine Co @hb @hG @ek @hd @hh @hh2 ?_)
   exact⟨fun q=>⟨q,(uZ _).1,(uZ _).2,i3 _,(uZ _).1,(uZ _).2,i3 _,q,rfl,e1⟩,fun q=>absurd hlt q⟩
  ·have hend:fD .xor .u32 (if IntKind.u32.signed=true then -1 else IntKind.u32.max) (uu ((nR s).take k) 4294967295)=JC 0 s:=by
    have hk2:(nR s).take k=nR s:=List.take_of_length_le (by rw[JD];omega)
    rw[hk2]
    have hc:=QV (nR s) 4294967295 (by decide) (by decide)
    have hif:(if IntKind.u32.signed=true then(-1:Int)else IntKind.u32.max)=4294967295:=by decide
    rw[hif,P4 _ hc.1 hc.2]
    unfold JC
    have e5:IntKind.u32.wrap (4294967295-0)=4294967295:=by decide
    rw[e5]
    have e:IntKind.u32.wrap (4294967295-uu (nR s) 4294967295)=(4294967295-uu (nR s) 4294967295)%4294967296:=rfl
    rw[e];omega
   (refine @ab _ ?_;refine fa @hb @hG @ek ?_)
   exact⟨fun q=>absurd q hlt,fun _=>hend⟩
theorem ofP(w0:W0)(hg:fF w0)(s:ByteArray){S:St}{b n c o:Nat}{ds:List DV}(hb:lk S.box b=some ds)(hs:(ds.drop o).take n=bY s)(hn:o+n≤ds.length)(h:s.size≤1048576):
 aa Tryz.prog w0 140 [.v (.slice (some ⟨b,o,none⟩) n c)] S (fun d S'=>d= .v (.int .u32 (JC 0 s))∧S'=S):=by
 refine aY [] mx Tryz.func140 rfl rfl (by kernel_rfl) ?_;(refine @ab _ ?_;refine ao @Tryz.ntmps140 ?_)
 refine aq (onP w0 hg s hb hs hn h) ?_
 (refine @ab _ ?_;exact aK)
theorem mT(a:Int)(l:List Int):strOfNums (a::l)=strOfNums [a]++strOfNums l:=by
 apply ByteArray.ext
 simp[strOfNums,ByteArray.data_append]
def z8:DV:= .v (.int .u8 0)
def Gk(kind:Int)(n k:Nat)(l:List ByteArray):List DV:=
 (List.replicate 4 z8++[.v (.int .u8 kind),.v (.int .u8 (IntKind.u8.wrap (n:Int)))]++bY (jv (l.take k) aZ aZ))++(List.replicate (122-db (l.take k)) z8++bY (cY (l.take k) aZ))
theorem AJ(l:List ByteArray):(bY (jv l aZ aZ)).length=l.length:=by rw[bg,vM,bC];omega
theorem tZ(l:List ByteArray):(bY (cY l aZ)).length+l.length=db l:=by
 have:=wv l aZ
 rw[bC]at this
 rw[bg];omega
theorem MA{kind:Int}{n k:Nat}{l:List ByteArray}(h:db l≤122):(Gk kind n k l).length=128:=by
 have h1:=AJ (l.take k)
 have h2:=tZ (l.take k)
 have h3:=jj l k
 unfold Gk
 simp only[List.length_append,List.length_replicate,List.length_cons,List.length_nil]
 omega
theorem Fx(s:ByteArray):(bY s).flatMap cd=bY s:=by
 unfold bY
 induction s.data.toList with
 |nil=>rfl
 |cons a m ih=>
  rw[List.map_cons,List.flatMap_cons,ih];rfl
theorem Rk(s:ByteArray):∀d,d∈bY s→eK d=true:=fun d hd=>by
 unfold bY at hd
 obtain⟨c,_,rfl⟩:=List.mem_map.1 hd
 rfl
theorem AY(x:Int):0≤IntKind.u8.wrap x∧IntKind.u8.wrap x≤255:=by
 have e:IntKind.u8.wrap x=x%256:=rfl
 rw[e]
 have:=Int.emod_nonneg x (by decide:(256:Int)≠0)
 have:=Int.emod_lt_of_pos x (by decide:(0:Int)<256)
 omega
theorem Qb{kind:Int}{n k:Nat}{l:List ByteArray}{c:ByteArray}(h:db l≤122)(hc:l[k]? =some c)(e:Nat)(he:e+(bY (cY (l.take k) aZ)).length+c.size=128):
 (cu (Gk kind n k l) e (bY c)).set (6+k) (.v (.int .u8 (IntKind.u8.wrap (e:Int))))=Gk kind n (k+1) l:=by
 have h1:=AJ (l.take k)
 have h2:=tZ (l.take k)
 have h3:=jj l (k+1)
 have h4:=vL hc
 have hk:k<l.length:=(List.getElem?_eq_some_iff.1 hc).1
 have htk:(l.take k).length=k:=by rw[List.length_take];omega
 have ht:l.take (k+1)=l.take k++[c]:=by rw[List.take_add_one,hc];rfl
 have hlen:=MA (kind:=kind) (n:=n) (k:=k) h
 have hcl:=bg c
 have hbk:bY (cY (l.take (k+1)) aZ)=bY c++bY (cY (l.take k) aZ):=by
  rw[ht,BE]
  show bY (c++cY (l.take k) aZ)=_
  rw[cP]
 have hbs:(bY (cY (l.take k) aZ)).length=(cY (l.take k) aZ).size:=bg _
 have hsl:bY (jv (l.take (k+1)) aZ aZ)=bY (jv (l.take k) aZ aZ)++[.v (.int .u8 (IntKind.u8.wrap (e:Int)))]:=by
  rw[ht,Mg]
  show bY (jv (l.take k) aZ aZ++strOfNums [IntKind.u8.wrap (IntKind.i64.wrap (128-(((c++cY (l.take k) aZ).size:Nat):Int)))])=_
  have hw:=AY (e:Int)
  have e1:IntKind.i64.wrap (128-(((c++cY (l.take k) aZ).size:Nat):Int))=e:=by
   rw[ByteArray.size_append,ba (by omega) (by omega)];omega
  rw[e1,cP,mV _ hw.1 hw.2]
 have hz:List.replicate (122-db (l.take k)) z8=z8::(List.replicate (122-db (l.take (k+1))) z8++List.replicate c.size z8):=by
  rw[List.replicate_append_replicate,←List.replicate_succ]
  congr 1;omega
 have hput:cu (Gk kind n k l) e (bY c)=(List.replicate 4 z8++[.v (.int .u8 kind),.v (.int .u8 (IntKind.u8.wrap (n:Int)))]++bY (jv (l.take k) aZ aZ))++(z8::(List.replicate (122-db (l.take (k+1))) z8++(bY c++bY (cY (l.take k) aZ)))):=by
  unfold cu Gk
  rw[hz]
  generalize hA:(List.replicate 4 z8++[DV.v (.int .u8 kind),.v (.int .u8 (IntKind.u8.wrap (n:Int)))]++bY (jv (l.take k) aZ aZ))=A
  have hAl:A.length=6+k:=by
   rw[←hA]
   simp only[List.length_append,List.length_replicate,List.length_cons,List.length_nil]
   omega
  generalize hB:bY (cY (l.take k) aZ)=B at*
  have e1:A++(z8::(List.replicate (122-db (l.take (k+1))) z8++List.replicate c.size z8)++B)=(A++(z8::List.replicate (122-db (l.take (k+1))) z8))++(List.replicate c.size z8++B):=by simp only[List.append_assoc,List.cons_append]
  have e2:A++(z8::(List.replicate (122-db (l.take (k+1))) z8++(bY c++B)))=(A++(z8::List.replicate (122-db (l.take (k+1))) z8))++(bY c++B):=by simp only[List.append_assoc,List.cons_append]
  have hPl:(A++(z8::List.replicate (122-db (l.take (k+1))) z8)).length=e:=by
   simp only[List.length_append,List.length_cons,List.length_replicate]
   omega
  rw[e1,e2]
  rw[List.take_left' hPl,List.append_assoc]
  congr 2
  rw[←hPl,List.drop_append,show(bY c).length=c.size from hcl,List.drop_of_length_le (by omega),List.nil_append]
  have hz0:List.drop (e+c.size-e) (List.replicate c.size z8++B)=B:=by
   rw[show e+c.size-e=(List.replicate c.size z8).length by simp,List.drop_left]
  rw[←hPl]at hz0
  exact hz0
 rw[hput]
 unfold Gk
 rw[hsl,hbk]
 generalize hA:(List.replicate 4 z8++[DV.v (.int .u8 kind),.v (.int .u8 (IntKind.u8.wrap (n:Int)))])=A
 have hAl:A.length=6:=by rw[←hA];rfl
 have hl6:(A++bY (jv (l.take k) aZ aZ)).length=6+k:=by rw[List.length_append,hAl,h1,htk]
 rw[List.set_append_right _ _ (by omega),hl6,Nat.sub_self]
 simp
theorem SG(kind:Int)(l:List ByteArray)(h:db l≤122)(hk0:0≤kind)(hk1:kind≤255):Gk kind l.length l.length l=List.replicate 4 z8++bY (fI kind l):=by
 have hz:∀m,bY (strOfNums (List.replicate m 0))=List.replicate m z8:=fun m=>by
  induction m with
  |zero=>rfl
  |succ m ih=>
   have e:strOfNums (List.replicate (m+1) 0)=strOfNums [0]++strOfNums (List.replicate m 0):=by
    rw[List.replicate_succ,mT]
   rw[e,cP,ih,mV 0 (by decide) (by decide)];rfl
 have hw:=AY (l.length:Int)
 unfold Gk fI
 rw[List.take_of_length_le (Nat.le_refl _),cP,cP,cP,hz,mT,cP,mV _ hk0 hk1,mV _ hw.1 hw.2]
 simp
theorem EL(w0:W0)(hg:fF w0)(kind:Int)(l:List ByteArray)(S:St)(hk:kind≠0)(hk0:0≤kind)(hk1:kind≤255)(h:db l≤122):aa Tryz.prog w0 82 [dY kind,.sl 1 false (l.map fC)] S (fun d S'=>d= .bN [fC (gz kind l),dI 0]∧S'=S):=by
 have hll:=xX l
 refine aY [] mx Tryz.func82 rfl rfl (by kernel_rfl) ?_;(refine @ab _ ?_;refine ao @Tryz.ntmps82 ?_)
 refine⟨fun h0=>absurd h0 hk,fun _=>aq (K8 w0 l _ (by omega) (by omega)) ?_⟩
 (refine @ab _ ?_;refine au ?_)
 refine⟨fun h0=>by omega,fun _ b=>?_⟩
 refine aA [] l.length [6,7,23,24,25] (fun k=>[(7,dI ((128-(cY (l.take k) aZ).size:Nat):Int)),(25,dI k)]) (fun k=>⟨(b.n,Gk kind l.length k l)::S.box,S.acc⟩) (fun _=>True) mx (by kernel_rfl) ?_ ?_
 ·(refine @ab _ ?_;refine au ?_)
  exact⟨rfl,.refl _⟩
 ·intro k hk' _
  have e1:IntKind.i64.wrap ((k:Int)+1)=((k+1:Nat):Int):=by rw[ba (by omega) (by omega)];omega
  have h1:=tZ (l.take k)
  have hbs:=bg (cY (l.take k) aZ)
  have htk:(l.take k).length=k:=by rw[List.length_take];omega
  have h3:=jj l k
  have hpl:=MA (kind:=kind) (n:=l.length) (k:=k) h
  have e6:IntKind.i64.wrap (6+(k:Int))=((6+k:Nat):Int):=by rw[ba (by omega) (by omega)];omega
  (refine @ab _ ?_;refine au ?_)
  refine⟨fun hlt=>⟨hlt,fun c hc=>?_⟩,fun hge=>?_⟩
  ·have h4:=vL hc
   have h5:=jj l (k+1)
   have hcl:=bg c
   have ht:l.take (k+1)=l.take k++[c]:=by rw[List.take_add_one,hc];rfl
   have hb2:(cY (l.take (k+1)) aZ).size=(cY (l.take k) aZ).size+c.size:=by
    rw[ht,BE]
    show(c++cY (l.take k) aZ).size=_
    rw[ByteArray.size_append];omega
   have e7:IntKind.i64.wrap (((128-(cY (l.take k) aZ).size:Nat):Int)-(c.size:Int))=((128-(cY (l.take (k+1)) aZ).size:Nat):Int):=by rw[ba (by omega) (by omega)];omega
   have hE:(128-(cY (l.take (k+1)) aZ).size)+(bY (cY (l.take k) aZ)).length+c.size=128:=by omega
   have hst:=Qb (kind:=kind) (n:=l.length) h hc _ hE
   rw[hcl,e7]
   generalize 128-(cY (l.take (k+1)) aZ).size=E at*
   have hput:cu (Gk kind l.length k l) (if 128=(E:Int).toNat then 0 else(E:Int).toNat*1) ((bY c).flatMap cd)=cu (Gk kind l.length k l) E (bY c):=by
    rw[Fx,Int.toNat_natCast,Nat.mul_one]
    split
    ·have hc0:bY c=[]:=List.eq_nil_of_length_eq_zero (by omega)
     rw[hc0]
     simp[cu]
    ·rfl
   have hpl2:(cu (Gk kind l.length k l) E (bY c)).length=128:=by
    unfold cu
    simp only[List.length_append,List.length_take,List.length_drop]
    omega
   rw[hput,e6,hpl2,hpl,show((6+k:Nat):Int).toNat*1=6+k by omega,hst]
   refine⟨by omega,by omega,?_,Rk c,by omega,by omega,by omega,by omega,hlt,⟨rfl,e1⟩,.refl _⟩
   split <;>omega
  ·have hkl:k=l.length:=by omega
   rw[hkl,SG kind l h hk0 hk1]
   have hbl:=wJ kind h
   have hbd:(List.drop 4 (List.replicate 4 z8++bY (fI kind l))).take 124=bY (fI kind l):=by
    have e:List.drop 4 (List.replicate 4 z8++bY (fI kind l))=bY (fI kind l):=List.drop_left' rfl
    rw[e]
    exact List.take_of_length_le (by rw[bg];omega)
   refine aT (ofP w0 hg (fI kind l) (b:=b.n) (S:=⟨(b.n,List.replicate 4 z8++bY (fI kind l))::S.box,S.acc⟩) (ds:=List.replicate 4 z8++bY (fI kind l)) (by simp[lk]) hbd (by simp[bg];omega) (by omega)) ?_
   (refine @ab _ ?_;refine au ?_)
   have hcr:0≤IntKind.u64.wrap (JC 0 (fI kind l))∧IntKind.u64.wrap (JC 0 (fI kind l))<18446744073709551616:=by
    have e:IntKind.u64.wrap (JC 0 (fI kind l))=JC 0 (fI kind l)%18446744073709551616:=rfl
    rw[e]
    exact⟨Int.emod_nonneg _ (by decide),Int.emod_lt_of_pos _ (by decide)⟩
   refine aT (tn w0 _ 4 _ (by decide) (by decide) hcr.1 hcr.2) ?_
   have hnl:(bY (bF 4 (IntKind.u64.wrap (JC 0 (fI kind l))))).length=4:=by rw[bg,aC]
   have hbl2:(bY (fI kind l)).length=124:=by rw[bg,hbl]
   have hput:cu (z8::z8::z8::z8::bY (fI kind l)) 0 ((bY (bF 4 (IntKind.u64.wrap (JC 0 (fI kind l))))).flatMap cd)=bY (gz kind l):=by
    rw[Fx]
    unfold gz cu
    rw[cP,List.take_zero,List.nil_append,Nat.zero_add,hnl]
    rfl
   (refine @ab _ ?_;refine fa @hnl @hbl2 @hput ?_)
   have hpk:(bY (gz kind l)).length=128:=by rw[bg,jf kind h]
   refine⟨Rk _,aq (IK w0 (gz kind l) (b:=b.n) (o:=0) (n:=128) (c:=128) (ds:=bY (gz kind l)) (by simp[lk]) ?_ (by omega) (by have:=jf kind h;omega)) ?_⟩
   ·rw[List.drop_zero,List.take_of_length_le (by omega)]
   ·(refine @ab _ ?_;exact aK)
theorem XR{P:Program}{w0:W0}{S0:St}{fr:List DV}{S:St}{K:DV→St→Prop}(r:Operand)(m:String)(a:Array Operand)(ts:Array TypeId):Y.vE P w0 S0 (.call ⟨.invoke r m,a,ts⟩) fr S K=aJ P w0 (.call ⟨.invoke r m,a,ts⟩) fr S K:=rfl
attribute [go_sem ↓] XR
theorem Gb:r8 Tryz.prog 376 "jalousie/node.may" =some 294:=by kernel_rfl
theorem Ih:r8 Tryz.prog 376 "jalousie/node.put" =some 295:=by kernel_rfl
theorem zb:r8 Tryz.prog 376 "jalousie/node.least" =some 293:=by kernel_rfl
theorem Il:r8 Tryz.prog 377 "jalousie/node.may" =some 301:=by kernel_rfl
theorem GL:r8 Tryz.prog 377 "jalousie/node.put" =some 302:=by kernel_rfl
theorem AO:r8 Tryz.prog 377 "jalousie/node.least" =some 300:=by kernel_rfl
attribute [go_sem] Gb Ih zb Il GL AO
theorem NG(w0:W0)(b:Bool)(l:List E8)(S:St):aa Tryz.prog w0 261 [.agg [dB b,.sl 5 false (l.map vv)]] S (fun d S'=>d= .v (.int .u8 (if b then 1 else 2))∧S'=S):=by
 cases b with
 |true=>
  refine aY [] mx Tryz.func261 rfl rfl (by kernel_rfl) ?_;(refine @ab _ ?_;exact mf @Tryz.ntmps261)
 |false=>
  refine aY [] mx Tryz.func261 rfl rfl (by kernel_rfl) ?_;(refine @ab _ ?_;exact mf @Tryz.ntmps261)
theorem sw(w0:W0)(S:St):aa Tryz.prog w0 269 [] S (fun d S'=>d= .sl 1 false [.v .nilIface,.jQ 376 (.agg []),.jQ 377 (.agg [])]∧S'=S):=by
 refine aY [] mx Tryz.func269 rfl rfl (by kernel_rfl) ?_;(refine @ab _ ?_;exact mf @Tryz.ntmps269)
theorem XP(w0:W0)(s:ByteArray)(S:St):aa Tryz.prog w0 297 [dS s] S (fun d S'=>d=dB (decide (s.size≠0)&&decide (s.size≤16))∧S'=S):=by
 refine aY [] mx Tryz.func297 rfl rfl (by kernel_rfl) ?_;(refine @ab _ ?_;refine ao @Tryz.ntmps297 ?_)
 refine⟨fun h=>?_,fun h=>?_⟩
 ·have:¬s.size=0:=fun e=>by
   rw[cR.2 (show s=(⟨#[]⟩:ByteArray)from ByteArray.ext (by have:s.data.size=0:=e;exact Array.eq_empty_of_size_eq_zero this))]at h
   cases h
  rw[decide_eq_true this,Bool.true_and]
  exact decide_eq_decide.2 (by omega)
 ·have:=cR.1 h
  subst this;rfl
theorem Rv(w0:W0)(n:Int)(S:St):aa Tryz.prog w0 298 [dI n] S (fun d S'=>d=dB (decide (2≤n)&&decide (n≤999))∧S'=S):=by
 refine aY [] mx Tryz.func298 rfl rfl (by kernel_rfl) ?_;(refine @ab _ ?_;refine ao @Tryz.ntmps298 ?_)
 refine⟨fun h=>?_,fun h=>?_⟩
 ·rw[decide_eq_true (show 2≤n from h),Bool.true_and]
 ·rw[decide_eq_false (show¬2≤n from h),Bool.false_and]
theorem Oa(w0:W0)(S:St):aa Tryz.prog w0 293 [.agg []] S (fun d S'=>d=dI 1∧S'=S):=by
 refine aY [] mx Tryz.func293 rfl rfl (by kernel_rfl) ?_;(refine @ab _ ?_;exact mf @Tryz.ntmps293)
theorem PY(w0:W0)(S:St):aa Tryz.prog w0 300 [.agg []] S (fun d S'=>d=dI 2∧S'=S):=by
 refine aY [] mx Tryz.func300 rfl rfl (by kernel_rfl) ?_;(refine @ab _ ?_;exact mf @Tryz.ntmps300)
@[go_sem] def dV8 (e:E8):DV:= .agg [dS e.data,dB e.IN,dI e.size,dI e.ak]
def sf(b:Bool)(e:E8):ByteArray:=if b then(if e.IN then((⟨#[1]⟩:ByteArray)++bF 2 (IntKind.u64.wrap e.size))++bF 2 (IntKind.u64.wrap e.ak)else(⟨#[0]⟩:ByteArray)++e.data)else bF 2 (IntKind.u64.wrap e.ak)
theorem Lm(w0:W0)(e:E8)(S:St)(h:NJ true e):aa Tryz.prog w0 295 [.agg [],dV8 e] S (fun d S'=>d=fC (sf true e)∧S'=S):=by
 have h2:=h.2
 simp only[if_true]at h2
 unfold sf
 simp only[if_true]
 have e1:(⟨#[1]⟩:ByteArray)=strOfNums [1]:=rfl
 have e0:(⟨#[0]⟩:ByteArray)=strOfNums [0]:=rfl
 have b1:=mV 1 (by decide) (by decide)
 have b0:=mV 0 (by decide) (by decide)
 have hm8:maxLen=9223372036854775807:=rfl
 cases hf:e.IN with
 |true=>
  rw[if_pos hf]at h2
  have w1:IntKind.u64.wrap e.size=e.size:=ja (by omega) (by omega)
  have w2:IntKind.u64.wrap e.ak=e.ak:=ja (by omega) (by omega)
  have l1:(bY (bF 2 e.size)).length=2:=by rw[bg,aC]
  have l2:(bY (bF 2 e.ak)).length=2:=by rw[bg,aC]
  rw[if_pos rfl,w1,w2,e1]
  refine aY [2] mx Tryz.func295 rfl rfl (by kernel_rfl) ?_;(refine @ab _ ?_;refine aO @Tryz.ntmps295 @hf ?_)
  intro c1 c2
  refine Y.mn [4,8] [] [0,1,5,2,3,6,4,7,8,9] mx (by kernel_rfl) ?_
  (refine @ab _ ?_;refine au ?_)
  refine Y.uO (fun T _=>TS w0 e.size T (by omega) (by omega)) ?_
  (refine @ab _ ?_;refine ao @l1 ?_)
  refine⟨by omega,fun b=>Y.uO (fun T _=>TS w0 e.ak T (by omega) (by omega)) ?_⟩
  (refine @ab _ ?_;refine aO @l1 @l2 ?_)
  rw[cP,cP,b1]
  exact⟨by omega,.refl _⟩
 |false=>
  rw[if_neg (by rw[hf];simp)]at h2
  have hb:=bg e.data
  have e9:e.data.data.toList.length=e.data.size:=rfl
  rw[if_neg (by simp),e0]
  refine aY [2] mx Tryz.func295 rfl rfl (by kernel_rfl) ?_;(refine @ab _ ?_;refine aO @Tryz.ntmps295 @hf ?_)
  intro c1 c2
  rw[e9,cP,b0]
  exact⟨by omega,by omega,fun b=> .refl _⟩
theorem D1(w0:W0)(e:E8)(S:St)(h:NJ false e):aa Tryz.prog w0 302 [.agg [],dV8 e] S (fun d S'=>d=fC (sf false e)∧S'=S):=by
 have h2:=h.2
 simp only[Bool.false_eq_true,if_false]at h2
 have w2:IntKind.u64.wrap e.ak=e.ak:=ja (by omega) (by omega)
 unfold sf
 rw[if_neg (by simp),w2]
 refine aY [] mx Tryz.func302 rfl rfl (by kernel_rfl) ?_;(refine @ab _ ?_;refine ao @Tryz.ntmps302 ?_)
 intro c1 c2
 refine aq (TS w0 e.ak _ (by omega) (by omega)) ?_
 (refine @ab _ ?_;exact aK)
theorem Ma(w0:W0)(i:Int)(e:E8)(S:St)(h:NJ true e)(hk:e.key≠aZ):aa Tryz.prog w0 294 [.agg [],dI i,vv e] S (fun d S'=>d=dB true∧S'=S):=by
 have h1:=h.1
 have h2:=h.2
 simp only[if_true]at h2
 have hks:e.key.size≠0:=fun q=>hk (ByteArray.ext (Array.eq_empty_of_size_eq_zero q))
 have hkey:=fun S=>XP w0 e.key S
 rw[decide_eq_true hks,decide_eq_true h1]at hkey
 cases hf:e.IN with
 |true=>
  rw[if_pos hf]at h2
  have hp:=fun S=>Rv w0 e.ak S
  rw[decide_eq_true h2.2.2.2.1,decide_eq_true h2.2.2.2.2]at hp
  have hd:fh e.data {data:= #[]}=true:=cR.2 h2.1
  refine aY [] mx Tryz.func294 rfl rfl (by kernel_rfl) ?_;(refine @ab _ ?_;refine aO @Tryz.ntmps294 @hf ?_)
  intro c1 c2 c3
  refine aq (hkey _) ?_
  (refine @ab _ ?_;refine ao @hd ?_)
  refine⟨fun _=>⟨fun _=>aq (hp _) ?_,fun q=>absurd h2.2.2.1 q⟩,fun q=>absurd h2.2.1 q⟩
  (refine @ab _ ?_;exact aK)
 |false=>
  rw[if_neg (by rw[hf];simp)]at h2
  refine aY [] mx Tryz.func294 rfl rfl (by kernel_rfl) ?_;(refine @ab _ ?_;refine aO @Tryz.ntmps294 @hf ?_)
  intro c1 c2 c3
  refine aq (hkey _) ?_
  (refine @ab _ ?_;refine au ?_)
  exact⟨fun _=>⟨fun _=>h2.2.2,fun q=>q h2.2.1⟩,fun q=>by omega⟩
theorem CW(w0:W0)(i:Nat)(e:E8)(S:St)(h:NJ false e)(hk:e.key=aZ↔i=0):aa Tryz.prog w0 301 [.agg [],dI i,vv e] S (fun d S'=>d=dB true∧S'=S):=by
 have h1:=h.1
 have h2:=h.2
 simp only[Bool.false_eq_true,if_false]at h2
 have hp:=fun S=>Rv w0 e.ak S
 have hkey:=fun S=>XP w0 e.key S
 have hfin:((decide (2≤e.ak)&&decide (e.ak≤999))=true→(decide (e.data.data.toList=ByteArray.empty.data.toList)&&!e.IN&&decide (e.size=0))=true)∧((decide (2≤e.ak)&&decide (e.ak≤999))=false→False):=by
  rw[decide_eq_true h2.2.2.2.1,decide_eq_true h2.2.2.2.2,h2.1,h2.2.1,h2.2.2.1]
  exact⟨fun _=>by decide,fun q=>by cases q⟩
 rcases Nat.eq_zero_or_pos i with z|z
 ·have hkn:=hk.2 z
  have hd:fh e.key {data:= #[]}=true:=cR.2 hkn
  have zi:((i:Int)=0)=True:=eq_true (by omega)
  refine aY [] mx Tryz.func301 rfl rfl (by kernel_rfl) ?_;(refine @ab _ ?_;refine fa @Tryz.ntmps301 @zi @hd ?_)
  intro c1 c2
  refine aq (hp _) ?_
  (refine @ab _ ?_;refine au ?_)
  exact hfin
 ·have hks:¬e.key.size=0:=fun q=>absurd (hk.1 (ByteArray.ext (Array.eq_empty_of_size_eq_zero q))) (by omega)
  have hkk:(decide (¬e.key.size=0)&&decide (e.key.size≤16))=true:=by rw[decide_eq_true hks,decide_eq_true h1];rfl
  have zi:((i:Int)=0)=False:=eq_false (by omega)
  have zj:((i:Int)>0)=True:=eq_true (by omega)
  refine aY [] mx Tryz.func301 rfl rfl (by kernel_rfl) ?_;(refine @ab _ ?_;refine fa @Tryz.ntmps301 @zi @zj ?_)
  intro c1 c2
  refine aq (hkey _) ?_
  (refine @ab _ ?_;refine ao @hkk ?_)
  refine aq (hp _) ?_
  (refine @ab _ ?_;refine au ?_)
  exact hfin
theorem RO(w0:W0)(s:ByteArray)(S:St)(h:s.size≤255):aa Tryz.prog w0 270 [dS s] S (fun d S'=>∃r:FN S.acc,d= .acc r.n (l9 s).size∧S'=⟨S.box,(r.n,.tl 1 (bY (l9 s)))::S.acc⟩):=by
 have e0:(if(255:Int)<(s.size:Int)then 255 else(s.size:Int))=s.size:=if_neg (by omega)
 have e1:s.extract 0 (s.size:Int).toNat=s:=by rw[Int.toNat_natCast];exact ByteArray.extract_zero_size
 have e2:s.data.toList.length=s.size:=rfl
 have hm8:maxLen=9223372036854775807:=rfl
 have hts:=jF s
 have e3:bY (l9 s)= .v (.int .u8 (IntKind.u8.wrap (s.size:Int)))::bY s:=by
  have hw:IntKind.u64.wrap (s.size:Int)=s.size:=ja (by omega) (by omega)
  have h8:IntKind.u8.wrap (s.size:Int)=s.size:=by
   have e:IntKind.u8.wrap (s.size:Int)=(s.size:Int)%256:=rfl
   rw[e];omega
  unfold l9
  rw[hw,cP,bF,kJ,cP,h8,mV _ (by omega) (by omega)]
  rfl
 refine nt [] mx Tryz.func270 rfl rfl (by kernel_rfl) ?_;(refine @ab _ ?_;refine ao @Tryz.ntmps270 ?_)
 rw[e0,e1,e2,e3]
 refine⟨by omega,by omega,by omega,by omega,fun b=>⟨b,?_,?_⟩⟩
 ·rw[hts,Nat.add_comm]
 ·rfl
theorem JI(b:Bool)(e:E8):eJ b e=l9 e.key++sf b e:=rfl
theorem xd(b:Bool)(e:E8):(sf b e).size=if b then(if e.IN then 5 else 1+e.data.size)else 2:=by
 have h:=oR b e
 rw[JI,ByteArray.size_append,jF]at h
 omega
theorem L4(w0:W0)(b:Bool)(l:List E8)(S:St)(hl:l.length≤1048576)(hk:∀e,e∈l→NJ b e):aa Tryz.prog w0 262 [.agg [dB b,.sl 5 false (l.map vv)]] S (fun d S'=>d= .sl 1 false ((l.map (eJ b)).map fC)∧S'=S):=by
 have hkd:=fun S=>NG w0 b l S
 cases b with
 |true=>
  refine aY [6] mx Tryz.func262 rfl rfl (by kernel_rfl) ?_;(refine @ab _ ?_;refine ao @Tryz.ntmps262 ?_)
  intro b1
  refine aT (sw w0 _) ?_
  (refine @ab _ ?_;refine au ?_)
  refine aT (hkd _) ?_
  (refine @ab _ ?_;refine au ?_)
  refine j3 4 1 rfl (by omega) fun lp=>?_
  (refine @ab _ ?_;refine au ?_)
  refine aA [6] l.length [3,4,13,14,15] (fun k=>[(4,.acc lp.n k),(15,dI k)]) (fun k=>⟨(b1.n,[dB true,.sl 5 false (l.map vv)])::S.box,(lp.n,.arr 1 (((l.take k).map (eJ true)).map fC))::S.acc⟩) (fun _=>True) mx (by kernel_rfl) ?_ ?_
  ·(refine @ab _ ?_;exact aK)
  ·intro k hk' _
   have hml:(l.take k).length=k:=by rw[List.length_take];omega
   have e1:IntKind.i64.wrap ((k:Int)+1)=((k+1:Nat):Int):=by rw[ba (by omega) (by omega)];omega
   (refine @ab _ ?_;refine ao @hml ?_)
   refine⟨fun hlt=>⟨hlt,fun a ha b2=>?_⟩,fun hge=>?_⟩
   ·have hok:=hk a (List.mem_of_getElem? ha)
    have hk1:=hok.1
    refine Y.mn [3,8,9] [10] [0,1,4,5,2,6,3,7,8,9,10,11] mx (by kernel_rfl) ?_
    (refine @ab _ ?_;refine au ?_)
    refine bB (RO w0 a.key _ (by omega)) ?_
    rintro _ _ ⟨r,rfl,rfl⟩
    (refine @ab _ ?_;refine au ?_)
    refine aq (Lm w0 a _ hok) ?_
    have hvs:=xd true a
    have hts:=jF a.key
    have l1:=bg (l9 a.key)
    have l2:=bg (sf true a)
    have hm8:maxLen=9223372036854775807:=rfl
    have hda:a.data.size≤16∨a.data.size=0:=by
     have h2:=hok.2
     simp only[if_true]at h2
     by_cases q:a.IN=true
     ·rw[if_pos q]at h2;right;rw[h2.1];rfl
     ·rw[if_neg q]at h2;left;exact h2.1
    have hsz:(sf true a).size≤17:=by
     rw[hvs]
     simp only[if_true]
     split <;>omega
    (refine @ab _ ?_;refine fa @l1 @l2 @hml ?_)
    have hrow:((l.take (k+1)).map (eJ true)).map fC=((l.take k).map (eJ true)).map fC++[.sl 1 false (bY (l9 a.key)++bY (sf true a))]:=by
     rw[List.take_add_one,ha,Option.toList_some,List.map_append,List.map_append,←cP]
     rfl
    rw[hrow]
    exact⟨by omega,by omega,by omega,by omega,hlt,e1,.bw (.nZ (.refl _))⟩
   ·rw[List.take_of_length_le (by omega)]
    exact .refl _
 |false=>
  refine aY [6] mx Tryz.func262 rfl rfl (by kernel_rfl) ?_;(refine @ab _ ?_;refine ao @Tryz.ntmps262 ?_)
  intro b1
  refine aT (sw w0 _) ?_
  (refine @ab _ ?_;refine au ?_)
  refine aT (hkd _) ?_
  (refine @ab _ ?_;refine au ?_)
  refine j3 4 1 rfl (by omega) fun lp=>?_
  (refine @ab _ ?_;refine au ?_)
  refine aA [6] l.length [3,4,13,14,15] (fun k=>[(4,.acc lp.n k),(15,dI k)]) (fun k=>⟨(b1.n,[dB false,.sl 5 false (l.map vv)])::S.box,(lp.n,.arr 1 (((l.take k).map (eJ false)).map fC))::S.acc⟩) (fun _=>True) mx (by kernel_rfl) ?_ ?_
  ·(refine @ab _ ?_;exact aK)
  ·intro k hk' _
   have hml:(l.take k).length=k:=by rw[List.length_take];omega
   have e1:IntKind.i64.wrap ((k:Int)+1)=((k+1:Nat):Int):=by rw[ba (by omega) (by omega)];omega
   (refine @ab _ ?_;refine ao @hml ?_)
   refine⟨fun hlt=>⟨hlt,fun a ha b2=>?_⟩,fun hge=>?_⟩
   ·have hok:=hk a (List.mem_of_getElem? ha)
    have hk1:=hok.1
    refine Y.mn [3,8,9] [10] [0,1,4,5,2,6,3,7,8,9,10,11] mx (by kernel_rfl) ?_
    (refine @ab _ ?_;refine au ?_)
    refine bB (RO w0 a.key _ (by omega)) ?_
    rintro _ _ ⟨r,rfl,rfl⟩
    (refine @ab _ ?_;refine au ?_)
    refine aq (D1 w0 a _ hok) ?_
    have hvs:=xd false a
    have hts:=jF a.key
    have l1:=bg (l9 a.key)
    have l2:=bg (sf false a)
    have hm8:maxLen=9223372036854775807:=rfl
    have hsz:(sf false a).size≤17:=by
     rw[hvs]
     simp
    (refine @ab _ ?_;refine fa @l1 @l2 @hml ?_)
    have hrow:((l.take (k+1)).map (eJ false)).map fC=((l.take k).map (eJ false)).map fC++[.sl 1 false (bY (l9 a.key)++bY (sf false a))]:=by
     rw[List.take_add_one,ha,Option.toList_some,List.map_append,List.map_append,←cP]
     rfl
    rw[hrow]
    exact⟨by omega,by omega,by omega,by omega,hlt,e1,.bw (.nZ (.refl _))⟩
   ·rw[List.take_of_length_le (by omega)]
    exact .refl _
theorem N0(w0:W0)(b:Bool)(l:List E8)(S:St)(hl:l.length≤1048576)(hk:∀e,e∈l→NJ b e)(hr:l.Pairwise fun x y=>cI x.key y.key=true)(h0:∀(i:Nat) e,l[i]? =some e→(e.key=aZ↔i=0∧b=false))(hs:db (l.map (eJ b))≤122)(h1:1<l.length∨(b=true∧l.length=1)):
 aa Tryz.prog w0 260 [.agg [dB b,.sl 5 false (l.map vv)]] S (fun d S'=>d=dB true∧S'=S):=by
 have hkd:=fun S=>NG w0 b l S
 have hcl:=fun S=>L4 w0 b l S hl hk
 cases b with
 |true=>
  refine aY [] mx Tryz.func260 rfl rfl (by kernel_rfl) ?_;(refine @ab _ ?_;refine ao @Tryz.ntmps260 ?_)
  intro b1
  refine aT (sw w0 _) ?_
  (refine @ab _ ?_;refine au ?_)
  refine aT (hkd _) ?_
  (refine @ab _ ?_;refine au ?_)
  refine aA [] l.length [1,3,12,13,14] (fun k=>[(14,dI k)]) (fun k=>⟨(b1.n,[dB true,.sl 5 false (l.map vv)])::S.box,S.acc⟩) (fun _=>True) mx (by kernel_rfl) ?_ ?_
  ·(refine @ab _ ?_;exact aK)
  ·intro k hk' _
   have e1:IntKind.i64.wrap ((k:Int)+1)=((k+1:Nat):Int):=by rw[ba (by omega) (by omega)];omega
   (refine @ab _ ?_;refine au ?_)
   refine⟨fun hlt=>⟨hlt,fun a ha b2=>?_⟩,fun hge=>?_⟩
   ·have hok:=hk a (List.mem_of_getElem? ha)
    have hkn:a.key≠aZ:=fun e=>(by have:=((h0 k a ha).1 e).2;cases this)
    refine aT (Ma w0 k a _ hok hkn) ?_
    rcases Nat.eq_zero_or_pos k with z0|z0
    ·have z2:((k:Int)>0)=False:=eq_false (by omega)
     (refine @ab _ ?_;refine ao @z2 ?_)
     exact⟨hlt,e1⟩
    ·have z2:((k:Int)>0)=True:=eq_true (by omega)
     have z3:IntKind.i64.wrap ((k:Int)-1)=((k-1:Nat):Int):=by rw[ba (by omega) (by omega)];omega
     obtain⟨c0,hc0⟩:∃c0,l[k-1]? =some c0:=⟨_,List.getElem?_eq_getElem (by omega)⟩
     have z4:mq a.key c0.key=false:=s6.2 (by obtain⟨u1,rfl⟩:=List.getElem?_eq_some_iff.1 hc0;obtain⟨u2,rfl⟩:=List.getElem?_eq_some_iff.1 ha;exact List.pairwise_iff_getElem.1 hr _ _ u1 u2 (by omega))
     (refine @ab _ ?_;refine aO @z2 @z3 ?_)
     refine⟨by omega,fun c1 hc1=>?_⟩
     cases bq hc0 hc1
     (refine @ab _ ?_;refine ao @z4 ?_)
     exact⟨hlt,e1⟩
   ·refine aT (Oa w0 _) ?_
    have hpos:((l.length:Int)≥1)=True:=eq_true (by
     rcases h1 with q|⟨_,q⟩ <;>omega)
    (refine @ab _ ?_;refine ao @hpos ?_)
    refine aT (hcl _) ?_
    (refine @ab _ ?_;refine au ?_)
    refine aT (K8 w0 (l.map (eJ true)) _ (by omega) (by rw[List.length_map];exact hl)) ?_
    have hle:decide ((db (l.map (eJ true)):Int)≤122)=true:=decide_eq_true (by omega)
    (refine @ab _ ?_;exact mf @hle)
 |false=>
  refine aY [] mx Tryz.func260 rfl rfl (by kernel_rfl) ?_;(refine @ab _ ?_;refine ao @Tryz.ntmps260 ?_)
  intro b1
  refine aT (sw w0 _) ?_
  (refine @ab _ ?_;refine au ?_)
  refine aT (hkd _) ?_
  (refine @ab _ ?_;refine au ?_)
  refine aA [] l.length [1,3,12,13,14] (fun k=>[(14,dI k)]) (fun k=>⟨(b1.n,[dB false,.sl 5 false (l.map vv)])::S.box,S.acc⟩) (fun _=>True) mx (by kernel_rfl) ?_ ?_
  ·(refine @ab _ ?_;exact aK)
  ·intro k hk' _
   have e1:IntKind.i64.wrap ((k:Int)+1)=((k+1:Nat):Int):=by rw[ba (by omega) (by omega)];omega
   (refine @ab _ ?_;refine au ?_)
   refine⟨fun hlt=>⟨hlt,fun a ha b2=>?_⟩,fun hge=>?_⟩
   ·have hok:=hk a (List.mem_of_getElem? ha)
    have hkn:a.key=aZ↔k=0:=⟨fun e=>((h0 k a ha).1 e).1,fun e=>(h0 k a ha).2 ⟨e,rfl⟩⟩
    refine aT (CW w0 k a _ hok hkn) ?_
    rcases Nat.eq_zero_or_pos k with z0|z0
    ·have z2:((k:Int)>0)=False:=eq_false (by omega)
     (refine @ab _ ?_;refine ao @z2 ?_)
     exact⟨hlt,e1⟩
    ·have z2:((k:Int)>0)=True:=eq_true (by omega)
     have z3:IntKind.i64.wrap ((k:Int)-1)=((k-1:Nat):Int):=by rw[ba (by omega) (by omega)];omega
     obtain⟨c0,hc0⟩:∃c0,l[k-1]? =some c0:=⟨_,List.getElem?_eq_getElem (by omega)⟩
     have z4:mq a.key c0.key=false:=s6.2 (by obtain⟨u1,rfl⟩:=List.getElem?_eq_some_iff.1 hc0;obtain⟨u2,rfl⟩:=List.getElem?_eq_some_iff.1 ha;exact List.pairwise_iff_getElem.1 hr _ _ u1 u2 (by omega))
     (refine @ab _ ?_;refine aO @z2 @z3 ?_)
     refine⟨by omega,fun c1 hc1=>?_⟩
     cases bq hc0 hc1
     (refine @ab _ ?_;refine ao @z4 ?_)
     exact⟨hlt,e1⟩
   ·refine aT (PY w0 _) ?_
    have hpos:((l.length:Int)≥2)=True:=eq_true (by
     rcases h1 with q|⟨q,_⟩
     ·omega
     ·cases q)
    (refine @ab _ ?_;refine ao @hpos ?_)
    refine aT (hcl _) ?_
    (refine @ab _ ?_;refine au ?_)
    refine aT (K8 w0 (l.map (eJ false)) _ (by omega) (by rw[List.length_map];exact hl)) ?_
    have hle:decide ((db (l.map (eJ false)):Int)≤122)=true:=decide_eq_true (by omega)
    (refine @ab _ ?_;exact mf @hle)
theorem RM(w0:W0)(hg:fF w0)(b:Bool)(l:List E8)(S:St)(hl:l.length≤1048576)(hk:∀e,e∈l→NJ b e)(hr:l.Pairwise fun x y=>cI x.key y.key=true)(h0:∀(i:Nat) e,l[i]? =some e→(e.key=aZ↔i=0∧b=false))(hs:db (l.map (eJ b))≤122)(h1:1<l.length∨(b=true∧l.length=1)):
 aa Tryz.prog w0 252 [.agg [dB b,.sl 5 false (l.map vv)]] S (fun d S'=>d= .bN [fC (gz (if b then 1 else 2) (l.map (eJ b))),dI 0]∧S'=S):=by
 have hkd:=fun S=>NG w0 b l S
 have hcl:=fun S=>L4 w0 b l S hl hk
 have hch:=fun S=>N0 w0 b l S hl hk hr h0 hs h1
 have hpk:=fun S=>EL w0 hg (if b then 1 else 2) (l.map (eJ b)) S (by cases b <;>decide) (by cases b <;>decide) (by cases b <;>decide) hs
 generalize (if b then(1:Int)else 2)=kd at*
 refine aY [] mx Tryz.func252 rfl rfl (by kernel_rfl) ?_;(refine @ab _ ?_;refine ao @Tryz.ntmps252 ?_)
 intro b1
 refine aq (hch _) ?_
 (refine @ab _ ?_;refine au ?_)
 refine aT (hkd _) ?_
 (refine @ab _ ?_;refine au ?_)
 refine aT (hcl _) ?_
 (refine @ab _ ?_;refine au ?_)
 refine aT (hpk _) ?_
 (refine @ab _ ?_;exact aK)
end Go.Proofs.YtpjenciplibdnaaGreatDoor
namespace Go.Proofs.YtpjenciplibdnaaGreatDoor
open Aml Go
section
variable (S:St) (l:Nat) (K:DV→St→Prop)
theorem Ud:eK (.mp l)=true:=rfl
theorem VA:cd (.mp l)=[.mp l]:=rfl
theorem Si:shr S (.mp l) K=K (.mp l) S:=rfl
end
attribute [go_sem] Ud VA
attribute [go_sem ↓] Si
@[go_sem] def BY (b:Nat):DV:= .v (.pointer (some ⟨b,0,none⟩))
def k9(a:Int):Value:= .int .i64 a
def Seen(es:List (Value×DV×Nat))(pre:List Int):Prop:=∀x,iQ es (k9 x)=if x∈pre then some (dI 1)else none
theorem Zm(w0:W0){S:St}{bp la m c:Nat}{pre:List Int}{es:List (Value×DV×Nat)}(hb:lk S.box bp=some [.acc la pre.length,.mp m])(ha:lk S.acc la=some (.arr 1 (pre.map dI)))(hm:lk S.acc m=some (.xo (.mp (.int .i64) es c)))(hs:Seen es pre)(hl:pre.length≤1000)
 (x:Int) (h1:2≤x) (h2:x≤999) (hx:x∉pre) (hne:¬la=m):
 aa Tryz.prog w0 266 [BY bp,dI x] S (fun d S'=>d=dB true∧S'=⟨up S.box bp [.acc la (pre++[x]).length,.mp m],up (up S.acc la (.arr 1 ((pre++[x]).map dI))) m (.xo (.mp (.int .i64) (jS es c (k9 x) (dI 1)) (rp es c (k9 x))))⟩):=by
 have hg:iQ es (.int .i64 x)=none:=by have:=hs x;rw[if_neg hx]at this;exact this
 have f1:(x<2)=False:=eq_false (by omega)
 have f2:(x>999)=False:=eq_false (by omega)
 have hm8:maxLen=9223372036854775807:=rfl
 have ez:IntKind.i64.wrap (0+1)=1:=by decide
 have hmu:∀v,lk (up S.acc la v) m=some (.xo (.mp (.int .i64) es c)):=fun v=>by rw[aL hne];exact hm
 refine nt [] mx Tryz.func266 rfl rfl (by kernel_rfl) ?_;simp(maxDischargeDepth:=12) (maxSteps:=1000000) -implicitDefEqProofs only[Tryz.ntmps266,go_sem,Nat.reduceAdd,Nat.reduceSub,Nat.reduceMul,Nat.reduceLeDiff,Nat.reduceEqDiff,Nat.reduceGT,Nat.reduceBEq,reduceCtorEq,↓reduceIte,Int.reduceToNat,Int.reduceLE,Int.reduceLT,Int.reduceNe,Int.reduceEq,f1,f2,hb,hm,hg,ha,hmu,ez]
 have hmap:(pre++[x]).map dI=pre.map dI++[.v (.int .i64 x)]:=by simp[dI]
 refine⟨fun q=>absurd q (by decide),fun _=>⟨by omega,by omega,?_⟩⟩
 rw[hmap]
 rfl
theorem Kk{es:List (Value×DV×Nat)}{pre:List Int}(h:Seen es pre)(c:Nat)(x:Int):Seen (jS es c (k9 x) (dI 1)) (pre++[x]):=fun y=>by
 by_cases q:y=x
 ·subst q
  rw[kv,if_pos (by simp)]
 ·rw[rQ _ _ (k:=k9 x) (k':=k9 y) (fun e=>q (by unfold k9 at e;cases e;rfl)),h]
  simp[q]
structure RT(S:St)(bp la m:Nat)(pre:List Int):Prop where
 b:lk S.box bp=some [.acc la pre.length,.mp m]
 a:lk S.acc la=some (.arr 1 (pre.map dI))
 m:∃es c,lk S.acc m=some (.xo (.mp (.int .i64) es c))∧Seen es pre
structure IL(S S':St)(bp la m:Nat):Prop where
 b:∀c x,c≠bp→lk S.box c=some x→lk S'.box c=some x
 a:∀c x,c≠la→c≠m→lk S.acc c=some x→lk S'.acc c=some x
theorem YN(w0:W0){S:St}{bp la m:Nat}{pre:List Int}(h:RT S bp la m pre)(hl:pre.length≤1000)(x:Int)(h1:2≤x)(h2:x≤999)(hx:x∉pre)(hne:¬la=m):
 aa Tryz.prog w0 266 [BY bp,dI x] S (fun d S'=>d=dB true∧RT S' bp la m (pre++[x])∧IL S S' bp la m):=by
 obtain⟨es,c,hm,hs⟩:=h.m
 refine(Zm w0 h.b h.a hm hs hl x h1 h2 hx hne).mono ?_
 rintro d S' ⟨rfl,rfl⟩
 refine⟨rfl,⟨?_,?_,jS es c (k9 x) (dI 1),rp es c (k9 x),?_,Kk hs c x⟩,fun c x hc hx=>?_,fun c x hc hc2 hx=>?_⟩
 ·show lk (up S.box bp _) bp=_
  rw[ax,h.b];rfl
 ·show lk (up (up S.acc la _) m _) la=_
  rw[aL (fun e=>hne e.symm),ax,h.a];rfl
 ·show lk (up (up S.acc la _) m _) m=_
  rw[ax,aL hne,hm];rfl
 ·show lk (up S.box bp _) c=_
  rw[aL (fun e=>hc e.symm)];exact hx
 ·show lk (up (up S.acc la _) m _) c=_
  rw[aL (fun e=>hc2 e.symm),aL (fun e=>hc e.symm)];exact hx
theorem WJ(w0:W0){S:St}{b6 bp la m:Nat}{pre:List Int}(h6:lk S.box b6=some [BY bp])(h:RT S bp la m pre)(hl:pre.length≤1000)(x:Int)(h1:2≤x)(h2:x≤999)(hx:x∉pre)(hne:¬la=m):
 aa Tryz.prog w0 265 [dI x,BY b6] S (fun d S'=>d=dB false∧RT S' bp la m (pre++[x])∧IL S S' bp la m):=by
 refine nt [] mx Tryz.func265 rfl rfl (by kernel_rfl) ?_;simp only[Tryz.ntmps265,List.length_cons,List.length_nil,Nat.reduceAdd,Nat.reduceSub,List.reduceReplicate,List.cons_append,List.nil_append];(refine @ab _ ?_;refine aO @Tryz.ntmps265 @h6 ?_)
 refine bB (YN w0 h hl x h1 h2 hx hne) ?_
 rintro _ S' ⟨rfl,hp,hf⟩
 (refine @ab _ ?_;refine au ?_)
 exact⟨hp,hf⟩
theorem IL.refl(S:St)(bp la m:Nat):IL S S bp la m:=⟨fun _ _ _ h=>h,fun _ _ _ _ h=>h⟩
theorem IL.trans{S T U:St}{bp la m:Nat}(h:IL S T bp la m)(k:IL T U bp la m):IL S U bp la m:=⟨fun c x hc hx=>k.b c x hc (h.b c x hc hx),fun c x hc hc2 hx=>k.a c x hc hc2 (h.a c x hc hc2 hx)⟩
theorem QR(w0:W0){S:St}{b6 bp la m:Nat}(at_:List Int)(h6:lk S.box b6=some [BY bp])(h:RT S bp la m [])(hl:at_.length≤1000)(hr:∀x,x∈at_→2≤x∧x≤999)(hd:at_.Nodup)(hne:¬la=m)(hb6:b6≠bp):
 aa Tryz.prog w0 229 [dL at_,.v (.func (.func 265) #[] #[.pointer (some ⟨b6,0,none⟩)])] S (fun d S'=>d=dI (-1)∧RT S' bp la m at_∧IL S S' bp la m):=by
 refine nt [] mx Tryz.func229 rfl rfl (by kernel_rfl) ?_;(refine @ab _ ?_;refine ao @Tryz.ntmps229 ?_)
 refine iH [] [0,1,7,8] (fun s:Nat×St=>[(8,dI s.1)]) (fun s=>s.2) (fun s=>s.1≤at_.length∧RT s.2 bp la m (at_.take s.1)∧IL S s.2 bp la m) (fun s=>at_.length-s.1) (0,S) mx (by kernel_rfl) ?_ ?_
 ·refine⟨⟨by simp,h,IL.refl _ _ _ _⟩,?_,?_⟩
  ·(refine @ab _ ?_;exact aK)
  ·exact .refl _
 ·rintro⟨k,T⟩ ⟨hk,hT,hF⟩
  simp only at hk hT hF
  have e1:IntKind.i64.wrap ((k:Int)+1)=((k+1:Nat):Int):=by rw[ba (by omega) (by omega)];omega
  (refine @ab _ ?_;refine au ?_)
  refine⟨fun hlt=>⟨hlt,fun x hx=>?_⟩,fun hge=>?_⟩
  ·have ht:at_.take (k+1)=at_.take k++[x]:=by rw[List.take_add_one,hx];rfl
   have hm:=List.mem_of_getElem? hx
   have hno:x∉at_.take k:=fun q=>by
    have:=hd.sublist (List.take_sublist (k+1) at_)
    rw[ht,List.nodup_append]at this
    exact this.2.2 x q x (by simp) rfl
   refine bB (WJ w0 (hF.b b6 _ hb6 h6) hT (by rw[List.length_take];omega) x (hr x hm).1 (hr x hm).2 hno hne) ?_
   rintro _ T2 ⟨rfl,hT2,hF2⟩
   (refine @ab _ ?_;refine au ?_)
   exact⟨(k+1,T2),⟨hlt,ht▸hT2,hF.trans hF2⟩,by show at_.length-(k+1)<at_.length-k;omega,e1,.refl _⟩
  ·have hk2:at_.take k=at_:=List.take_of_length_le (by omega)
   rw[hk2]at hT
   exact⟨hT,hF⟩
theorem C2(w0:W0){S:St}{b6 bp la m:Nat}(at_:List Int)(h6:lk S.box b6=some [BY bp])(h:RT S bp la m [])(hl:at_.length≤1000)(hr:∀x,x∈at_→2≤x∧x≤999)(hd:at_.Nodup)(hne:¬la=m)(hb6:b6≠bp):
 aa Tryz.prog w0 264 [dL at_,.v (.func (.func 265) #[] #[.pointer (some ⟨b6,0,none⟩)])] S (fun d S'=>d=dB false∧IL S S' bp la m):=by
 refine nt [] mx Tryz.func264 rfl rfl (by kernel_rfl) ?_;(refine @ab _ ?_;refine ao @Tryz.ntmps264 ?_)
 refine bB (QR w0 at_ h6 h hl hr hd hne hb6) ?_
 rintro _ T ⟨rfl,_,hF⟩
 (refine @ab _ ?_;refine au ?_)
 exact⟨rfl,hF⟩
end Go.Proofs.YtpjenciplibdnaaGreatDoor
namespace Go.Proofs.YtpjenciplibdnaaGreatDoor
open Aml Go
theorem E4(w0:W0)(l:List Int)(S:St)(h:l.length≤1048576):aa Tryz.prog w0 227 [dL l] S (fun d S'=>∃r:FN S.acc,d= .acc r.n l.length∧S'=⟨S.box,(r.n,.arr 1 (l.map dI))::S.acc⟩):=by
 have hm8:maxLen=9223372036854775807:=rfl
 cases l with
 |nil=>
  refine ia (K':=fun d S'=>(d= .sl 0 true []∧S'=S)∨∃r:FN S.acc,d= .acc r.n 0∧S'=⟨S.box,(r.n,.arr 1 [])::S.acc⟩) ?_ 1 (by omega) ?_
  ·refine nt [] mx Tryz.func227 rfl rfl (by kernel_rfl) ?_;(refine @ab _ ?_;refine ao @Tryz.ntmps227 ?_)
   exact⟨by omega,fun r=>⟨r,rfl,rfl⟩⟩
  ·rintro d S' (⟨rfl,rfl⟩|h)
   ·exact .inr ⟨⟨0,rfl⟩,fun l hl=>⟨⟨l,hl⟩,rfl,rfl⟩⟩
   ·exact .inl h
 |cons a t=>
  simp only[List.length_cons]at h
  refine nt [] mx Tryz.func227 rfl rfl (by kernel_rfl) ?_;(refine @ab _ ?_;refine ao @Tryz.ntmps227 ?_)
  exact⟨by omega,by omega,fun r=>⟨r,rfl,rfl⟩⟩
theorem UB(w0:W0)(v:ByteArray)(S:St):aa Tryz.prog w0 267 [fC v,dI 119] S (fun d S'=>∃(b:FN S.box) (c:FN ((b.n,[fC v])::S.box)),d= .v (.func (.func 273) #[] #[.pointer (some ⟨b.n,0,none⟩),.pointer (some ⟨c.n,0,none⟩)])∧S'=⟨(c.n,[dI 119])::(b.n,[fC v])::S.box,S.acc⟩):=by
 refine nt [] mx Tryz.func267 rfl rfl (by kernel_rfl) ?_;(refine @ab _ ?_;refine ao @Tryz.ntmps267 ?_)
 exact fun b c=>⟨b,c,rfl,rfl⟩
def ZT(v:ByteArray)(k:Nat):DV:= .sl 1 true (bY (v.extract (119*k) (119*k+iD v.size k)))
theorem Um(w0:W0)(l b c:Nat)(v:ByteArray)(n:Nat)(X:List Nat→St)(hn:119*n<v.size+119∧v.size≤119*n)(hv:v.size≤1048576)(hb:∀pre,lk (X pre).box b=some [fC v])(hc:∀pre,lk (X pre).box c=some [dI 119])
 (hy:YK Tryz.prog w0 l X (fun x=>[ZT v (x-1)]) (Vr n)):∀T,Has (X []) T→aa Tryz.prog w0 273 [.v (.func (.yield l) #[] #[]),.v (.pointer (some ⟨b,0,none⟩)),.v (.pointer (some ⟨c,0,none⟩))] T (fun _ T'=>Has (X (Vr n)) T'):=by
 intro T hT
 have t0:lk T.box b=some [fC v]:=hT.box _ _ (hb _)
 have t1:lk T.box c=some [dI 119]:=hT.box _ _ (hc _)
 have hs:(bY v).length=v.size:=bg v
 refine vp [] mx Tryz.func273 rfl rfl (by kernel_rfl) ?_;simp only[Tryz.ntmps273,List.length_cons,List.length_nil,Nat.reduceAdd,Nat.reduceSub,List.reduceReplicate,List.cons_append,List.nil_append];(refine @ab _ ?_;refine fa @Tryz.ntmps273 @t0 @t1 ?_)
 refine iH [] [0,1,2,4] (fun s:St×Nat=>[(4,dI (119*s.2:Nat))]) (fun s=>s.1) (fun s=>s.2≤n∧Has (X (Vr s.2)) s.1) (fun s=>n-s.2) (T,0) mx (by kernel_rfl) ?_ ?_
 ·(refine @ab _ ?_;refine au ?_)
  exact⟨Nat.zero_le _,hT⟩
 ·rintro⟨T,k⟩ ⟨hk,hT'⟩
  simp only at hk hT'
  have t0:lk T.box b=some [fC v]:=hT'.box _ _ (hb _)
  have t1:lk T.box c=some [dI 119]:=hT'.box _ _ (hc _)
  (refine @ab _ ?_;refine fa @t0 @t1 @hs ?_)
  have ec:(((119*k:Nat):Int)+if((v.size-119*k:Nat):Int)<119 then((v.size-119*k:Nat):Int)else 119)=((119*k+iD v.size k:Nat):Int):=by
   unfold iD
   split <;>omega
  have hp:iD v.size k≤119∧(119*k≤v.size→119*k+iD v.size k≤v.size):=by unfold iD;omega
  rw[ec,ba (by omega) (by omega),Int.toNat_natCast]
  refine⟨fun hlt=>⟨by omega,by omega,by have:=hp.2 (by omega);omega,?_⟩,fun hge=>?_⟩
  ·have ee:((bY v).take (119*k+iD v.size k)).drop (119*k)=bY (v.extract (119*k) (119*k+iD v.size k)):=by
    unfold bY
    rw[ByteArray.data_extract,Array.toList_extract,List.extract_eq_take_drop,List.map_take,List.map_drop,List.drop_take]
   rw[ee]
   refine Lo (hy (Vr k) (k+1) T (by rw[←pP];exact Mb (by omega)) hT') ?_
   rintro d T2 ⟨rfl,hT2,hK⟩
   have t2:lk T2.box c=some [dI 119]:=hT2.box _ _ (hc _)
   have e3:IntKind.i64.wrap (((119*k:Nat):Int)+119)=((119*(k+1):Nat):Int):=by rw[ba (by omega) (by omega)];omega
   (refine @ab _ ?_;refine ao @t2 ?_)
   exact⟨(T2,k+1),⟨by omega,by show Has (X (Vr (k+1))) T2;rw[pP];exact hT2⟩,by show n-(k+1)<n-k;omega,e3,.refl _⟩
  ·have:n=k:=by omega
   rw[this]
   refine⟨_,T,.refl _,.refl _,?_⟩
   exact hT'
theorem Gp{P:Program}{w0:W0}{f:FuncId}{args:List DV}{S:St}{K:DV→Prop}(h:aa P w0 f args S fun d T=>K d∧Has S T):aa P w0 f args S fun d S'=>K d∧S'=S:=by
 intro g vs w h1 h2
 refine(h g vs w h1 h2).mono ?_
 rintro e w' ⟨r,g',d,T,q1,q2,q3,q4,hk,hs⟩
 exact⟨r,g',d,S,q1,q2,q3.has hs h1.nb h1.na,q4,hk,rfl⟩
theorem ft{α:Type}{l:List (Nat×α)}(b:FN l){c:Nat}{x:α}(h:lk l c=some x):b.n≠c:=fun e=>by rw[←e,jy b]at h;cases h
theorem rU{α:Type}{l:List (Nat×α)}(b:FN l){c:Nat}{x:α}(v:α)(h:lk l c=some x):lk ((b.n,v)::l) c=some x:=by simp only[lk];rw[if_neg (ft b h)];exact h
theorem ov{α:Type}{l:List (Nat×α)}{b c:Nat}{v:α}(h:b≠c):lk ((b,v)::l) c=lk l c:=by simp only[lk];rw[if_neg h]
theorem MU{P:Program}{w0:W0}(S0:St)(gs ns ord:List Nat){id:Nat}{l:List Oper}{fr:List DV}{S:St}{Q:Exit→List DV→St→Prop}(hm:P.follows .mixedOrders=true)(hB:Y.Vu l gs ns ord=true)(h:Y.yG P w0 S0 gs ns l.toArray (fun fr S=>jx fr fun fr=>Q .normal fr S) ord fr S):fW P w0 (.region id l.toArray true) fr S Q:=by
 simp only[Y.Vu,Bool.and_eq_true,beq_iff_eq]at hB
 refine Y.qX hm hB.1.2 hB.2 (Y.jI (fun i o ho=>?_) ord h)
 have:l[i]? =some o:=by simpa using ho
 exact List.all_eq_true.1 hB.1.1 o (List.mem_of_getElem? this)
theorem mj{b:Nat}{x:List DV}{U:St}(h:lk U.box b=some x):Has ⟨[(b,x)],[]⟩ U:=by
 constructor
 ·intro c y hc
  simp only[lk]at hc
  split at hc
  ·rename_i e;subst e;rw[h];exact hc
  ·cases hc
 ·intro c y hc
  simp only[lk]at hc
  cases hc
theorem Ze{X X' T T':St}{b c l:Nat}(hX:∀d x,lk X'.box d=some x→d≠b→d≠c→lk X.box d=some x)(hA:∀d x,lk X'.acc d=some x→d≠l→lk X.acc d=some x)(h:Has X T)
 (hb:∀x,lk X'.box b=some x→lk T'.box b=some x) (hc:∀x,lk X'.box c=some x→lk T'.box c=some x) (hl:∀x,lk X'.acc l=some x→lk T'.acc l=some x)
 (hT:∀d,d≠b→d≠c→lk T'.box d=lk T.box d) (hU:∀d,d≠l→lk T'.acc d=lk T.acc d):Has X' T':=⟨fun d x hx=>by
 by_cases e1:d=b
 ·subst e1;exact hb x hx
 by_cases e2:d=c
 ·subst e2;exact hc x hx
 rw[hT d e1 e2];exact h.box d x (hX d x hx e1 e2),fun d x hx=>by
 by_cases e1:d=l
 ·subst e1;exact hl x hx
 rw[hU d e1];exact h.acc d x (hA d x hx e1)⟩
theorem kp3{X T T':St}{b c l:Nat}(hb:lk X.box b≠none)(hc:lk X.box c≠none)(hl:lk X.acc l≠none)(hT:∀d,d≠b→d≠c→lk T'.box d=lk T.box d)(hU:∀d,d≠l→lk T'.acc d=lk T.acc d):Kp X T T':=⟨fun d x hd hx=>by
 rw[hT d (fun e=>hb (e▸hd)) (fun e=>hc (e▸hd))];exact hx,fun d x hd hx=>by
 rw[hU d (fun e=>hl (e▸hd))];exact hx⟩
def rv(at_:List Int):List Int:=at_.drop 1++[0]
theorem Wu(w0:W0)(hg:fF w0)(v:ByteArray)(at_:List Int)(S:St)(hv:v.size≤400)(hn:need (v.size:Int)=at_.length)(h0:at_≠[])(hr:∀x,x∈at_→2≤x∧x≤999)(hd:at_.Nodup):
 aa Tryz.prog w0 259 [dS v,dL at_] S (fun d S'=>d= .bN [.sl 1 false ((bu v at_).map fC),dI 0]∧Has S S'):=by
 have hpos:=List.length_pos_iff.2 h0
 have hneed:16<v.size∧119*(at_.length-1)<v.size∧v.size≤119*at_.length∧at_.length≤4:=by
  unfold need at hn
  split at hn
  ·omega
  ·omega
 have hcl:(bu v at_).length=at_.length:=by unfold bu;rw[List.length_map,List.length_range]
 refine nt [2,6,11,12] mx Tryz.func259 rfl rfl (by kernel_rfl) ?_;(refine @ab _ ?_;refine ao @Tryz.ntmps259 ?_)
 intro b1 b2 m b3 b6
 refine eg b3.n 0 1 (by omega) (ds:=[.sl 0 true [],.mp m.n]) (by(refine @ab _ ?_;exact aK)) rfl fun la=>?_
 refine fQ [6,11,12] [] mx (by kernel_rfl) ?_
 (refine @ab _ ?_;refine au ?_)
 refine⟨fun h=>absurd h (by omega),fun _=>?_⟩
 refine aq (zc w0 _ _) ?_
 (refine @ab _ ?_;refine ao @hn ?_)
 have hne:¬la.n=m.n:=by(refine @ab _ ?_;exact aK)
 refine bB (C2 w0 (b6:=b6.n) (bp:=b3.n) (la:=la.n) (m:=m.n) at_ (by(refine @ab _ ?_;exact aK)) ⟨by(refine @ab _ ?_;exact aK),by(refine @ab _ ?_;exact aK),[],0,by(refine @ab _ ?_;exact aK),fun x=>rfl⟩ (by omega) hr hd hne (by(refine @ab _ ?_;exact aK))) ?_
 rintro _ T ⟨rfl,hF⟩
 have hST:Has S T:=⟨fun c x hx=>by
  have h1:=rU b1 [.sl 0 true []] hx
  have h2:=rU b2 [dI 0] h1
  have h3:=rU b3 [.acc la.n 0,.mp m.n] h2
  have h4:=(ov (v:=[BY b3.n]) (ft b6 (rU b3 [.sl 0 true [],.mp m.n] h2))).trans h3
  exact hF.b c x (fun e=>ft b3 h2 e.symm) h4,fun c x hx=>by
  have h1:=rU m (.xo (.mp (.int .i64) [] 0)) hx
  have h2:=rU la (.arr 1 []) h1
  exact hF.a c x (fun e=>ft la h1 e.symm) (fun e=>ft m hx e.symm) h2⟩
 have tb1:lk T.box b1.n=some [.sl 0 true []]:=hF.b _ _ (by(refine @ab _ ?_;exact aK)) (by(refine @ab _ ?_;exact aK))
 have tb2:lk T.box b2.n=some [dI 0]:=hF.b _ _ (by(refine @ab _ ?_;exact aK)) (by(refine @ab _ ?_;exact aK))
 clear hF
 (refine @ab _ ?_;refine au ?_)
 refine⟨by omega,?_⟩
 refine bB (E4 w0 (at_.drop 1) _ (by rw[List.length_drop];omega)) ?_
 rintro _ _ ⟨r,rfl,rfl⟩
 have hdl:(at_.drop 1).length=at_.length-1:=List.length_drop ..
 have hm8:maxLen=9223372036854775807:=rfl
 (refine @ab _ ?_;refine au ?_)
 refine⟨by omega,by omega,fun b7 b8=>?_⟩
 refine eg b8.n 0 1 (by omega) (ds:=[.sl 0 true []]) (by(refine @ab _ ?_;exact aK)) rfl fun lo=>?_
 (refine @ab _ ?_;refine au ?_)
 have hnl:(rv at_).length=at_.length:=by unfold rv;simp;omega
 refine Lt b7.n 0 (l:=r.n) (s:=1) (xs:=(rv at_).map dI) (ds:=[.acc r.n (at_.length-1+1)]) (by simp(maxDischargeDepth:=12) (maxSteps:=1000000) -implicitDefEqProofs only[go_sem,Nat.reduceAdd,Nat.reduceSub,Nat.reduceMul,Nat.reduceLeDiff,Nat.reduceEqDiff,Nat.reduceGT,Nat.reduceBEq,reduceCtorEq,↓reduceIte,Int.reduceToNat,Int.reduceLE,Int.reduceLT,Int.reduceNe,Int.reduceEq]) (by rw[List.length_map,hnl];simp;omega) (by unfold rv;simp(maxDischargeDepth:=12) (maxSteps:=1000000) -implicitDefEqProofs only[go_sem,Nat.reduceAdd,Nat.reduceSub,Nat.reduceMul,Nat.reduceLeDiff,Nat.reduceEqDiff,Nat.reduceGT,Nat.reduceBEq,reduceCtorEq,↓reduceIte,Int.reduceToNat,Int.reduceLE,Int.reduceLT,Int.reduceNe,Int.reduceEq,List.map_append]) ?_
 (refine @ab _ ?_;refine au ?_)
 refine fQ [11,12] [] mx (by kernel_rfl) ?_
 (refine @ab _ ?_;refine au ?_)
 have hsv:=bg v
 unfold bY at hsv
 refine⟨by omega,bB (UB w0 v _) ?_⟩
 rintro _ _ ⟨bv,bn,rfl,rfl⟩
 (refine @ab _ ?_;refine au ?_)
 have hU:∀k,k<at_.length→(rv at_).drop k=(at_[k+1]?).getD 0::(rv at_).drop (k+1):=fun k hk=>by
  rw[List.drop_eq_getElem_cons (by omega)]
  congr 1
  unfold rv
  rw[List.getElem_append]
  split
  ·rename_i h;rw[List.getElem?_eq_getElem (by omega),Option.getD_some,List.getElem_drop]
   congr 1;omega
  ·rename_i h;rw[List.getElem?_eq_none (by omega),Option.getD_none];simp
 have n1:¬bv.n=b8.n:=ft bv (x:=[.acc lo.n 0]) (by simp[lk])
 have n6:¬b8.n=b7.n:=ft b8 (x:=[.acc r.n (at_.length-1+1)]) (by simp[lk])
 have n2:¬bv.n=b7.n:=ft bv (x:=[.sl 1 false ((rv at_).map dI)]) (by simp[lk,n6])
 have n3:¬bn.n=bv.n:=ft bn (x:=[fC v]) (by simp[lk])
 have n4:¬bn.n=b8.n:=ft bn (x:=[.acc lo.n 0]) (by simp[lk,n1])
 have n5:¬bn.n=b7.n:=ft bn (x:=[.sl 1 false ((rv at_).map dI)]) (by simp[lk,n6,n2])
 have hy9:∀i:Nat,0≤(at_[i]?).getD 0∧(at_[i]?).getD 0≤999:=fun i=>by
  cases q:at_[i]? with
  |none=>exact⟨by decide,by decide⟩
  |some x=>have:=hr x (List.mem_of_getElem? q);exact⟨by show 0≤x;omega,this.2⟩
 refine qv [11] (fun pre:List Nat=>⟨(bn.n,[dI 119])::(bv.n,[fC v])::(b8.n,[.acc lo.n pre.length])::(b7.n,[.sl 1 false (((rv at_).drop pre.length).map dI)])::T.box,(lo.n,.arr 1 (((bu v at_).take pre.length).map fC))::(r.n,.tl 1 ((rv at_).map dI))::T.acc⟩) (fun x:Nat=>[ZT v (x-1)]) (Vr at_.length) mx (by kernel_rfl) rfl rfl rfl (fun _=>rfl) (fun _=>rfl) (fun _=>rfl) ?_ ?_ ?_
 ·intro ly w1 hy U hU
  exact Um w1 ly bv.n bn.n v at_.length _ ⟨by omega,by omega⟩ (by omega) (fun _=>by simp[lk,n1,n2,n3,n4,n5,n6]) (fun _=>by simp[lk,n1,n2,n3,n4,n5,n6]) hy U hU
 ·intro pre x U hp hU2
  obtain⟨rfl,hlt⟩:=RK hp
  have t7:lk U.box b7.n=some [.sl 1 false (((rv at_).drop pre.length).map dI)]:=hU2.box _ _ (by simp[lk,n1,n2,n3,n4,n5,n6])
  have t8:lk U.box b8.n=some [.acc lo.n pre.length]:=hU2.box _ _ (by simp[lk,n1,n2,n3,n4,n5,n6])
  have tl:lk U.acc lo.n=some (.arr 1 (((bu v at_).take pre.length).map fC)):=hU2.acc _ _ (by(refine @ab _ ?_;exact aK))
  rw[hU _ hlt]at t7
  simp only[jo]
  (refine @ab _ ?_;refine fa @t7 @t8 @tl ?_)
  have hy0:=hy9 (pre.length+1)
  have hc0:om v at_ pre.length=bF 2 (IntKind.u64.wrap ((at_[pre.length+1]?).getD 0))++v.extract (119*pre.length) (119*pre.length+iD v.size pre.length):=rfl
  have hcs:=rO (v:=v) (at_:=at_) (i:=pre.length) (by omega)
  have hpl:iD v.size pre.length≤119:=by unfold iD;omega
  have hpk:=fun S=>EL w0 hg 3 [om v at_ pre.length] S (by decide) (by decide) (by decide) (by simp only[db,List.map_cons,List.map_nil,List.sum_cons,List.sum_nil];omega)
  have htk:(bu v at_).take (pre.length+1)=(bu v at_).take pre.length++[gz 3 [om v at_ pre.length]]:=by
   rw[List.take_add_one];unfold bu;rw[List.getElem?_map,List.getElem?_range hlt];rfl
  have hes:(v.extract (119*pre.length) (119*pre.length+iD v.size pre.length)).size≤119:=by rw[ByteArray.size_extract];omega
  have hew:IntKind.u64.wrap ((at_[pre.length+1]?).getD 0)=(at_[pre.length+1]?).getD 0:=ja (by omega) (by omega)
  generalize gz 3 [om v at_ pre.length]=PK at*
  rw[hew]at hc0 ⊢
  refine⟨by omega,aq (tn w0 _ 2 _ (by decide) (by decide) hy0.1 (by omega)) ?_⟩
  (refine @ab _ ?_;refine au ?_)
  refine aq (PI w0 (bF 2 ((at_[pre.length+1]?).getD 0)) (v.extract (119*pre.length) (119*pre.length+iD v.size pre.length)) _ (by rw[aC];omega)) ?_ (.cons ((Wk.full _ _ _).trans (Wk.sl (.cons (.refl _) (.cons (Wk.full _ _ _) .nil)))) .nil)
  rw[←hc0]
  (refine @ab _ ?_;refine au ?_)
  refine aq (hpk _) ?_ (.cons (.refl _) (.cons (Wk.full _ _ _) .nil))
  (refine @ab _ ?_;refine au ?_)
  rw[List.map_cons]at t7
  generalize dI ((at_[pre.length+1]?).getD 0)=y at t7
  refine MU ⟨[(b7.n,[.sl 1 false (y::((rv at_).drop (pre.length+1)).map dI)])],[]⟩ [0,3,6] [7] [1,2,4,5,0,3,6,7] mx (by kernel_rfl) ?_
  have em:min pre.length (bu v at_).length=pre.length:=by omega
  have et:((rv at_).drop (pre.length+1)).take ((rv at_).length-(pre.length+1))=(rv at_).drop (pre.length+1):=List.take_of_length_le (by rw[List.length_drop];omega)
  have hT:∀(u w:List DV) d,d≠b8.n→d≠b7.n→lk (up (up U.box b8.n u) b7.n w) d=lk U.box d:=fun u w d q1 q2=>by rw[aL (fun e=>q2 e.symm),aL (fun e=>q1 e.symm)]
  have hA:∀(u:Ob) d,d≠lo.n→lk (up U.acc lo.n u) d=lk U.acc d:=fun u d q=>aL (fun e=>q e.symm) ..
  have n6':¬b7.n=b8.n:=fun e=>n6 e.symm
  have hfin:Has ⟨(bn.n,[dI 119])::(bv.n,[fC v])::(b8.n,[.acc lo.n (pre.length+1)])::(b7.n,[.sl 1 false (((rv at_).drop (pre.length+1)).map dI)])::T.box,(lo.n,.arr 1 (((bu v at_).take (pre.length+1)).map fC))::(r.n,.tl 1 ((rv at_).map dI))::T.acc⟩ ⟨up (up U.box b8.n [.acc lo.n (pre.length+1)]) b7.n [.sl 1 false (((rv at_).drop (pre.length+1)).map dI)],up U.acc lo.n (.arr 1 (((bu v at_).take pre.length).map fC++[fC PK]))⟩:=by
   refine Ze (b:=b8.n) (c:=b7.n) (l:=lo.n) (fun d x hx q1 q2=>?_) (fun d x hx q1=>?_) hU2 (fun x hx=>?_) (fun x hx=>?_) (fun x hx=>?_) (hT _ _) (hA _)
   ·simpa[lk,q1.symm,q2.symm]using hx
   ·simpa[lk,q1.symm]using hx
   ·show lk (up (up U.box b8.n _) b7.n _) b8.n=_
    rw[aL n6',ax,t8]
    simpa[lk,n1,n4]using hx
   ·show lk (up (up U.box b8.n _) b7.n _) b7.n=_
    rw[ax,aL n6,t7]
    simpa[lk,n2,n5,n6]using hx
   ·show lk (up U.acc lo.n _) lo.n=_
    rw[ax,tl]
    rw[htk,List.map_append]at hx
    simpa[lk]using hx
  have hkp:=kp3 (X:=⟨(bn.n,[dI 119])::(bv.n,[fC v])::(b8.n,[.acc lo.n pre.length])::(b7.n,[.sl 1 false (((rv at_).drop pre.length).map dI)])::T.box,(lo.n,.arr 1 (((bu v at_).take pre.length).map fC))::(r.n,.tl 1 ((rv at_).map dI))::T.acc⟩) (T:=U) (T':=⟨up (up U.box b8.n [.acc lo.n (pre.length+1)]) b7.n [.sl 1 false (((rv at_).drop (pre.length+1)).map dI)],up U.acc lo.n (.arr 1 (((bu v at_).take pre.length).map fC++[fC PK]))⟩) (b:=b8.n) (c:=b7.n) (l:=lo.n) (by simp[lk,n1,n4]) (by simp[lk,n2,n5,n6]) (by simp[lk]) (hT _ _) (hA _)
  (refine @ab _ ?_;refine fa @t8 @tl @t7 ?_)
  rw[em,et]
  exact⟨mj t7,by omega,mj t7,rfl,by omega,by omega,mj t7,mj (by show lk (up U.box b8.n _) b7.n=_;rw[aL n6];exact t7),hfin,hkp⟩
 ·rw[DJ,List.take_of_length_le (by omega)]
  have hbs:∀(c:Nat) x,lk T.box c=some x→b7.n≠c∧b8.n≠c∧bv.n≠c∧bn.n≠c:=fun c x hx=>by
   have m7:=ft b7 hx
   have m8:=ft b8 (rU b7 [.acc r.n (at_.length-1+1)] hx)
   have mv:=ft bv (c:=c) (x:=x) (by simp[lk,m7,m8,hx])
   exact⟨m7,m8,mv,ft bn (c:=c) (x:=x) (by simp[lk,m7,m8,mv,hx])⟩
  have u1:lk ((bn.n,[dI 119])::(bv.n,[fC v])::(b8.n,[.acc lo.n at_.length])::(b7.n,[.sl 1 false (((rv at_).drop at_.length).map dI)])::T.box) b8.n=some [.acc lo.n at_.length]:=by simp[lk,n1,n4]
  have u2:∀c x,lk T.box c=some x→lk ((bn.n,[dI 119])::(bv.n,[fC v])::(b8.n,[.acc lo.n at_.length])::(b7.n,[.sl 1 false (((rv at_).drop at_.length).map dI)])::T.box) c=some x:=fun c x hx=>by
   obtain⟨q1,q2,q3,q4⟩:=hbs c x hx
   simp[lk,q1,q2,q3,q4,hx]
  generalize ((bn.n,[dI 119])::(bv.n,[fC v])::(b8.n,[.acc lo.n at_.length])::(b7.n,[.sl 1 false (((rv at_).drop at_.length).map dI)])::T.box)=B at*
  have v1:=u2 _ _ tb1
  have v2:=u2 _ _ tb2
  have n12:¬b2.n=b1.n:=ft b2 (x:=[.sl 0 true []]) (by simp[lk])
  refine Lt b8.n 0 (l:=lo.n) (s:=1) (xs:=(bu v at_).map fC) (ds:=[.acc lo.n at_.length]) u1 (by rw[List.length_map,hcl];rfl) (by simp[lk]) ?_
  have e0:[DV.acc lo.n at_.length].set 0 (.sl 1 false ((bu v at_).map fC))=[.sl 1 false ((bu v at_).map fC)]:=rfl
  rw[e0]
  have hA2:∀c x,lk T.acc c=some x→lk (up ((lo.n,.arr 1 ((bu v at_).map fC))::(r.n,.tl 1 ((rv at_).map dI))::T.acc) lo.n (.tl 1 ((bu v at_).map fC))) c=some x:=fun c x hx=>by
   have q1:=ft r hx
   have q2:=ft lo (c:=c) (x:=x) (by simp[lk,q1,hx])
   rw[aL q2]
   simp[lk,q1,q2,hx]
  have m1:=(hbs _ _ tb1).2.1
  have m2:=(hbs _ _ tb2).2.1
  have w1:lk (up B b8.n [.sl 1 false ((bu v at_).map fC)]) b1.n=some [.sl 0 true []]:=by rw[aL m1];exact v1
  have w2:lk (up B b8.n [.sl 1 false ((bu v at_).map fC)]) b2.n=some [dI 0]:=by rw[aL m2];exact v2
  have w8:lk (up B b8.n [.sl 1 false ((bu v at_).map fC)]) b8.n=some [.sl 1 false ((bu v at_).map fC)]:=by rw[ax,u1];rfl
  have u3:∀c x,lk S.box c=some x→lk (up B b8.n [.sl 1 false ((bu v at_).map fC)]) c=some x:=fun c x hx=>by
   have q:=hST.box c x hx
   rw[aL (hbs c x q).2.1]
   exact u2 c x q
  refine fQ [] [] mx (by kernel_rfl) ?_
  simp only[]
  generalize up B b8.n [.sl 1 false ((bu v at_).map fC)]=B2 at*
  generalize up ((lo.n,.arr 1 ((bu v at_).map fC))::(r.n,.tl 1 ((rv at_).map dI))::T.acc) lo.n (.tl 1 ((bu v at_).map fC))=A2 at*
  have hH:∀u w,Has S ⟨up (up B2 b1.n u) b2.n w,A2⟩:=fun u w=>⟨fun c x hx=>by
   show lk (up (up B2 b1.n u) b2.n w) c=_
   rw[aL (ft b2 (rU b1 _ hx)),aL (ft b1 hx)]
   exact u3 c x hx,fun c x hx=>hA2 c x (hST.acc c x hx)⟩
  (refine @ab _ ?_;refine AW @w8 @w1 @w2 @n12 ?_)
  exact hH _ _
theorem We(w0:W0)(hg:fF w0)(v:ByteArray)(at_:List Int)(S:St)(hv:v.size≤400)(hn:need (v.size:Int)=at_.length)(h0:at_≠[])(hr:∀x,x∈at_→2≤x∧x≤999)(hd:at_.Nodup):
 aa Tryz.prog w0 259 [dS v,dL at_] S (fun d S'=>d= .bN [.sl 1 false ((bu v at_).map fC),dI 0]∧S'=S):=
 Gp (K:=fun d=>d= .bN [.sl 1 false ((bu v at_).map fC),dI 0]) (Wu w0 hg v at_ S hv hn h0 hr hd)
@[go_sem] def nS (w:Int×ByteArray):DV:= .agg [dI w.1,fC w.2]
def gq(S:St)(bs lw:Nat)(left:List Int)(ws:List (Int×ByteArray)):St:=⟨up S.box bs [.acc lw ws.length,.sl 1 false (left.map dI)],up S.acc lw (.arr 2 (ws.map nS))⟩
structure mc(S:St)(bs lw:Nat)(left:List Int)(ws:List (Int×ByteArray)):Prop where
 box:lk S.box bs=some [.acc lw ws.length,.sl 1 false (left.map dI)]
 acc:lk S.acc lw=some (.arr 2 (ws.map nS))
theorem pq{S:St}{bs lw:Nat}{left:List Int}{ws:List (Int×ByteArray)}(h:mc S bs lw left ws):gq S bs lw left ws=S:=by
 unfold gq
 rw[dt h.box,dt h.acc]
theorem Jc(w0:W0)(bs lw:Nat)(left:List Int)(ws:List (Int×ByteArray))(n:Nat)(S:St)(h:mc S bs lw left ws)(hn:n≤left.length)(hl:left.length≤1048576):
 aa Tryz.prog w0 251 [.v (.pointer (some ⟨bs,0,none⟩)),dI n] S (fun d S'=>d=dL (left.take n)∧S'=gq S bs lw (left.drop n) ws):=by
 have hb:=h.box
 have ha:=h.acc
 refine vp [] mx Tryz.func251 rfl rfl (by kernel_rfl) ?_;(refine @ab _ ?_;refine fa @Tryz.ntmps251 @hb @ha ?_)
 refine⟨hn,hn,⟨_,_,Wk.full _ _ _,.refl _,rfl,?_⟩⟩
 unfold gq
 rw[dt ha]
theorem Ta(w0:W0)(hg:fF w0)(bs lw:Nat)(d:ByteArray)(ps:List Int)(q:LS)(S:St)(h:mc S bs lw q.1 q.2)(hd:d.size≤400)(hp:ps.length≤1048576)(hq:q.1.length≤65536)(hw:q.2.length≤65536)(hn:need (d.size:Int)≤q.1.length∨ps≠[])(hr:∀x,x∈q.1→2≤x∧x≤999)(hu:q.1.Nodup):
 aa Tryz.prog w0 250 [.v (.pointer (some ⟨bs,0,none⟩)),.agg [dS d,dL ps]] S (fun e S'=>e= .agg [dS d,dL (eY d ps q).1]∧S'=gq S bs lw (eY d ps q).2.1 (eY d ps q).2.2):=by
 obtain⟨left,ws⟩:=q
 simp only at h hq hw hn hr hu
 have hb:=h.box
 have ha:=h.acc
 have q1:need (d.size:Int)=0→eY d ps (left,ws)=(ps,(left,ws)):=fun e=>by unfold eY;rw[if_pos (.inl e)]
 have q2:ps≠[]→eY d ps (left,ws)=(ps,(left,ws)):=fun e=>by unfold eY;rw[if_pos (.inr e)]
 have q3:need (d.size:Int)≠0→ps=[]→eY d ps (left,ws)=(left.take (need (d.size:Int)),(left.drop (need (d.size:Int)),ws++(left.take (need (d.size:Int))).zip (bu d (left.take (need (d.size:Int)))))):=fun e f=>by unfold eY;rw[if_neg (by simp[e,f])]
 generalize eY d ps (left,ws)=R at*
 refine vp [5,9] mx Tryz.func250 rfl rfl (by kernel_rfl) ?_;(refine @ab _ ?_;refine ao @Tryz.ntmps250 ?_)
 intro b b1
 refine aq (zc w0 _ _) ?_
 (refine @ab _ ?_;refine au ?_)
 refine⟨fun hz=>?_,fun hz=>⟨fun hp0=>?_,fun hp0=>?_⟩⟩
 ·rw[q1 (by omega)]
  refine⟨_,_,.refl _,?_,rfl,rfl⟩
  rw[pq h]
  exact⟨(List.sublist_cons_self _ _).trans (List.sublist_cons_self _ _),List.Sublist.refl _⟩
 ·rw[q2 fun e=>by rw[e]at hp0;simp at hp0]
  refine⟨_,_,.refl _,?_,rfl,rfl⟩
  rw[pq h]
  exact⟨(List.sublist_cons_self _ _).trans (List.sublist_cons_self _ _),List.Sublist.refl _⟩
 ·have hps:ps=[]:=List.eq_nil_of_length_eq_zero (by omega)
  have hne:need (d.size:Int)≤left.length:=hn.resolve_right fun e=>e hps
  rw[q3 (by omega) hps]
  have hI:mc (⟨(b1.n,[dS ByteArray.empty,.sl 0 true []])::(b.n,[dS d,.sl 1 false (ps.map dI)])::S.box,S.acc⟩:St) bs lw left ws:=⟨by(refine @ab _ ?_;exact mf @hb),ha⟩
  refine bB (Jc w0 bs lw left ws (need (d.size:Int)) _ hI hne (by omega)) ?_
  rintro e S' ⟨rfl,rfl⟩
  have hTl:(left.take (need (d.size:Int))).length=need (d.size:Int):=by rw[List.length_take];omega
  have hT0:left.take (need (d.size:Int))≠[]:=fun e=>by rw[e]at hTl;simp at hTl;omega
  have hTr:∀x,x∈left.take (need (d.size:Int))→2≤x∧x≤999:=fun x hx=>hr x (List.mem_of_mem_take hx)
  have hTu:(left.take (need (d.size:Int))).Nodup:=hu.sublist (List.take_sublist _ _)
  have hput:=fun S=>We w0 hg d (left.take (need (d.size:Int))) S hd hTl.symm hT0 hTr hTu
  have hcl:(bu d (left.take (need (d.size:Int)))).length=(left.take (need (d.size:Int))).length:=by unfold bu;rw[List.length_map,List.length_range]
  have hnl:=sE (d.size:Int)
  simp(maxDischargeDepth:=12) (maxSteps:=1000000) -implicitDefEqProofs only[go_sem,Nat.reduceAdd,Nat.reduceSub,Nat.reduceMul,Nat.reduceLeDiff,Nat.reduceEqDiff,Nat.reduceGT,Nat.reduceBEq,reduceCtorEq,↓reduceIte,Int.reduceToNat,Int.reduceLE,Int.reduceLT,Int.reduceNe,Int.reduceEq,gq,hb]
  generalize left.take (need (d.size:Int))=T at*
  generalize left.drop (need (d.size:Int))=L at*
  generalize need (d.size:Int)=nd at*
  generalize hC:bu d T=Ch at*
  refine fQ [9] [] mx (by kernel_rfl) ?_
  (refine @ab _ ?_;refine ao @hb ?_)
  refine aq (hput _) ?_
  (refine @ab _ ?_;refine ao @hb ?_)
  refine aA [9] T.length [0,3,4,35,36,37] (fun k=>[(37,dI k)]) (fun k=>⟨(b1.n,[dS ByteArray.empty,.sl 0 true []])::(b.n,[dS d,.sl 1 false (T.map dI)])::up S.box bs [.acc lw (ws.length+k),.sl 1 false (L.map dI)],up S.acc lw (.arr 2 ((ws++(T.zip Ch).take k).map nS))⟩) (fun _=>True) mx (by kernel_rfl) ?_ ?_
  ·(refine @ab _ ?_;refine au ?_)
   exact .refl _
  ·intro k hk' _
   (refine @ab _ ?_;refine ao @hb ?_)
   refine⟨fun hlt=>?_,fun hge=>?_⟩
   ·refine⟨by omega,fun c hc=>?_⟩
    refine Y.mn [] [13,16] [0,1,2,3,5,7,10,4,6,8,9,11,12,13,14,15,16] mx (by kernel_rfl) ?_
    have hm8:maxLen=9223372036854775807:=rfl
    have hzl:((T.zip Ch).take k).length=k:=by rw[List.length_take,List.length_zip];omega
    have hwl:(ws++(T.zip Ch).take k).length=ws.length+k:=by rw[List.length_append,hzl]
    have e:lk (up S.box bs [.acc lw (ws.length+k),.sl 1 false (L.map dI)]) bs=some [.acc lw (ws.length+k),.sl 1 false (L.map dI)]:=by rw[ax,hb];rfl
    have e2:lk (up S.acc lw (.arr 2 ((ws++(T.zip Ch).take k).map nS))) lw=some (.arr 2 ((ws++(T.zip Ch).take k).map nS)):=by rw[ax,ha];rfl
    have em:min k (T.zip Ch).length=k:=by rw[List.length_zip];omega
    (refine @ab _ ?_;refine fa @hb @e @e2 ?_)
    rw[em]
    refine⟨by omega,fun x hx=>⟨rfl,by omega,by omega,by omega,by rw[ba (by omega) (by omega)];rfl,?_⟩⟩
    have hzk:(T.zip Ch)[k]? =some (x,c):=List.getElem?_zip_eq_some.2 ⟨hx,hc⟩
    have hz1:(T.zip Ch).take (k+1)=(T.zip Ch).take k++[(x,c)]:=by rw[List.take_add_one,hzk];rfl
    rw[hz1,←List.append_assoc,List.map_append]
    exact .refl _
   ·have hkl:k=T.length:=by omega
    have hzt:(T.zip Ch).take k=T.zip Ch:=List.take_of_length_le (by rw[List.length_zip];omega)
    rw[hzt]
    refine⟨_,_,.refl _,?_,rfl,rfl⟩
    have hwl:(ws++T.zip Ch).length=ws.length+k:=by rw[List.length_append,List.length_zip];omega
    unfold gq
    rw[hwl]
    exact⟨(List.sublist_cons_self _ _).trans (List.sublist_cons_self _ _),List.Sublist.refl _⟩
theorem vo{d:Nat}{n:N}{q:LS}(hg:Good d n)(hla:k7 n)(hs:(ae n).sum≤122)(h2:n.leaf=true∨2≤n.l.length)(hf:dg n≤q.1.length)(hr:∀x,x∈q.1→2≤x∧x≤999)(hp:∀p,p∈bX n→2≤p∧p≤999)(h0:¬(n.ak≠0∨(n.leaf=true∧n.l=[]))):XF n.leaf (ah n.leaf n.l q).1:=by
 have hn:=aw hg
 have hz:∀p,p∈q.1→p≠0:=fun p hp=>by have:=hr p hp;omega
 have hlen:=cf n.leaf n.l q
 have e1:=eo n q
 have e2:=Ce n q
 rw[if_neg h0]at e2
 have hne:n.l≠[]:=fun e=>by
  cases d with
  |zero=>exact h0 (.inr ⟨hg.1,e⟩)
  |succ d=>exact hg.2.1 e
 have:=QH (pr q hg) (tr hn hla hf hz) (Qt hn hf hz hp hr) (by rw[nE];exact hs) (by rw[e2];intro e;rw[e]at hlen;exact hne (List.eq_nil_of_length_eq_zero hlen.symm)) (by rw[e1,e2,hlen];exact h2)
 rw[e1,e2]at this
 exact this
theorem AS(w0:W0)(n:N)(S:St)(hn:n.leaf=false→∀c,c∈n.l→∃k,c.kid=[k])(hl:n.l.length≤1048576):
 aa Tryz.prog w0 253 [eT n] S (fun d S'=>d= .sl 5 false ((n.l.map (dX n.leaf)).map vv)∧S'=S):=by
 have hm8:maxLen=9223372036854775807:=rfl
 cases hlf:n.leaf with
 |true=>
  rw[bT hlf]
  refine aY [2,10] mx Tryz.func253 rfl rfl (by kernel_rfl) ?_;(refine @ab _ ?_;refine ao @Tryz.ntmps253 ?_)
  intro b1
  refine j3 3 5 rfl (by omega) fun lp=>?_
  refine fQ [10] [] mx (by kernel_rfl) ?_
  (refine @ab _ ?_;refine au ?_)
  refine aA [10] n.l.length [1,3,8,9,10] (fun k=>[(3,.acc lp.n k),(10,dI k)]) (fun k=>⟨(b1.n,[dI n.ak,dB true,.sl 1 false (n.l.map fun c=>dS c.key),.sl 2 false (n.l.map fM),.sl 5 false []])::S.box,(lp.n,.arr 5 (((n.l.take k).map (dX true)).map vv))::S.acc⟩) (fun _=>True) mx (by kernel_rfl) ?_ ?_
  ·(refine @ab _ ?_;exact aK)
  ·intro k hk' _
   have hml:(n.l.take k).length=k:=by rw[List.length_take];omega
   have e1:IntKind.i64.wrap ((k:Int)+1)=((k+1:Nat):Int):=by rw[ba (by omega) (by omega)];omega
   (refine @ab _ ?_;refine aO @hml @e1 ?_)
   refine⟨fun hlt=>⟨hlt,fun a ha b2=>⟨hlt,fun a2 ha2=>?_⟩⟩,fun hge=>?_⟩
   ·cases bq ha ha2
    have htk:((n.l.take (k+1)).map (dX true)).map vv=((n.l.take k).map (dX true)).map vv++[vv (dX true a)]:=by
     rw[List.take_add_one,ha,Option.toList_some,List.map_append,List.map_append];rfl
    rw[htk]
    refine⟨fun hp=>?_,fun hp=>⟨hlt,fun a3 ha3=>?_⟩⟩
    ·obtain⟨x,r,hx⟩:∃x r,a.ai=x::r:=by
      cases q:a.ai with
      |nil=>rw[q]at hp;simp at hp
      |cons x r=>exact⟨x,r,rfl⟩
     have he:dX true a=⟨a.key,aZ,true,a.data.size,x⟩:=by unfold dX;rw[if_pos rfl,if_neg (by rw[hx];simp),hx];rfl
     rw[he]
     refine Y.mn [] [] [0,2,7,9,1,3,4,5,6,8,10,11,12,13,14,15,16,17] mx (by kernel_rfl) ?_
     have em:min k n.l.length=k:=by omega
     (refine @ab _ ?_;refine aO @hml @em ?_)
     refine⟨hlt,fun c1 h1=>⟨hlt,fun c2 h2=>?_⟩⟩
     cases bq ha h1
     cases bq ha h2
     refine⟨by omega,fun y hy=>?_⟩
     rw[hx]at hy
     cases hy
     exact⟨by omega,by omega,hlt,e1,.bw (.refl _)⟩
    ·cases bq ha ha3
     have he:dX true a=⟨a.key,a.data,false,0,0⟩:=by unfold dX;rw[if_pos rfl,if_pos (List.eq_nil_of_length_eq_zero (by omega))]
     rw[he]
     exact⟨by omega,by omega,hlt,.bw (.refl _)⟩
   ·rw[List.take_of_length_le (by omega)]
    exact .refl _
 |false=>
  rw[eF hlf (hn hlf)]
  unfold yZ
  refine aY [2] mx Tryz.func253 rfl rfl (by kernel_rfl) ?_;(refine @ab _ ?_;refine ao @Tryz.ntmps253 ?_)
  intro b1
  refine j3 3 5 rfl (by omega) fun lp=>?_
  refine fQ [] [] mx (by kernel_rfl) ?_
  (refine @ab _ ?_;refine au ?_)
  refine aA [] n.l.length [1,3,8,9,10] (fun k=>[(3,.acc lp.n k),(10,dI k)]) (fun k=>⟨(b1.n,[dI n.ak,dB false,.sl 1 false (n.l.map fun c=>dS c.key),.sl 2 false [],.sl 5 false (dK n.l)])::S.box,(lp.n,.arr 5 (((n.l.take k).map (dX false)).map vv))::S.acc⟩) (fun _=>True) mx (by kernel_rfl) ?_ ?_
  ·(refine @ab _ ?_;exact aK)
  ·intro k hk' _
   have hml:(n.l.take k).length=k:=by rw[List.length_take];omega
   have e1:IntKind.i64.wrap ((k:Int)+1)=((k+1:Nat):Int):=by rw[ba (by omega) (by omega)];omega
   (refine @ab _ ?_;refine aO @hml @e1 ?_)
   refine⟨fun hlt=>⟨hlt,fun a ha b2=>⟨hlt,fun a2 ha2=>?_⟩⟩,fun hge=>?_⟩
   ·cases bq ha ha2
    have htk:((n.l.take (k+1)).map (dX false)).map vv=((n.l.take k).map (dX false)).map vv++[vv (dX false a)]:=by
     rw[List.take_add_one,ha,Option.toList_some,List.map_append,List.map_append];rfl
    rw[htk]
    have he:dX false a=⟨a.key,aZ,false,0,(ay a).ak⟩:=by unfold dX;rfl
    rw[he]
    exact⟨by omega,by omega,hlt,.bw (.refl _)⟩
   ·rw[List.take_of_length_le (by omega)]
    exact .refl _
theorem lO{P:Program}{w0:W0}{f:FuncId}{args:List DV}{S X:St}{r:DV}(h1:aa P w0 f args S (fun d S'=>oz S' d fun d S''=>Wk d r∧Aml.Sub X S'')):aa P w0 f args S (fun d S'=>d=r∧S'=X):=by
 intro g vs w k1 k2
 refine(h1 g vs w k1 k2).mono ?_
 rintro e w' ⟨v,g',d,S',q1,q2,q3,q4,q5⟩
 obtain⟨g2,d',S2,p1,p2,p3,p4,p5⟩:=sG q3 q4 q5
 exact⟨v,g2,r,X,q1,q2.trans p1,p2.forget p5.box p5.acc,p4 _ _ p3,rfl,rfl⟩
def mA(b:Bool)(l:List C)(q:LS)(k:Nat):List C:=(ah b (l.take k) q).1++l.drop k
theorem zP(b:Bool)(l:List C)(q:LS){k:Nat}(h:k≤l.length):(mA b l q k).length=l.length:=by
 unfold mA
 rw[List.length_append,cf,List.length_take,List.length_drop]
 omega
theorem wB(b:Bool)(l:List C)(q:LS):mA b l q 0=l:=by unfold mA;simp[ah]
theorem BD(b:Bool)(l:List C)(q:LS):mA b l q l.length=(ah b l q).1:=by unfold mA;simp
theorem zZ{b:Bool}{l:List C}{q:LS}{k:Nat}{c:C}(h:l[k]? =some c):(mA b l q k)[k]? =some c:=by
 have hk:=(List.getElem?_eq_some_iff.1 h).1
 unfold mA
 rw[List.getElem?_append_right (by rw[cf,List.length_take];omega),cf,List.length_take,Nat.min_eq_left (by omega),Nat.sub_self,List.getElem?_drop]
 exact h
theorem Ac{b:Bool}{l:List C}{q:LS}{k:Nat}{c:C}(h:l[k]? =some c):(mA b l q k).set k (eX b c (ah b (l.take k) q).2).1=mA b l q (k+1):=by
 have hk:=(List.getElem?_eq_some_iff.1 h).1
 unfold mA
 rw[List.set_append_right _ _ (by rw[cf,List.length_take];omega),cf,List.length_take,Nat.min_eq_left (by omega),Nat.sub_self,oI h]
 rw[List.drop_eq_getElem_cons hk,show l[k]=c from Option.some.inj ((List.getElem?_eq_getElem hk).symm.trans h)]
 simp
theorem S9(w0:W0)(hg:fF w0)(bs lw:Nat)(l:List C)(q:LS)(S:St)(h:mc S bs lw q.1 q.2)(hl:l.length≤1048576)
 (hv:∀k c,l[k]? =some c→∀S,mc S bs lw (ah true (l.take k) q).2.1 (ah true (l.take k) q).2.2→aa Tryz.prog w0 250 [.v (.pointer (some ⟨bs,0,none⟩)),.agg [dS c.data,dL c.ai]] S (fun e S'=>e= .agg [dS c.data,dL (eY c.data c.ai (ah true (l.take k) q).2).1]∧S'=gq S bs lw (ah true (l.take (k+1)) q).2.1 (ah true (l.take (k+1)) q).2.2)):
 aa Tryz.prog w0 249 [dR 2 (l.map fM),.v (.func (.func 250) #[.pointer (some ⟨bs,0,none⟩)] #[])] S (fun d S'=>∃b:FN S.acc,d= .acc b.n l.length∧S'=⟨(gq S bs lw (ah true l q).2.1 (ah true l q).2.2).box,(b.n,.arr 2 ((ah true l q).1.map fM))::(gq S bs lw (ah true l q).2.1 (ah true l q).2.2).acc⟩):=by
 refine vp [] mx Tryz.func249 rfl rfl (by kernel_rfl) ?_;(refine @ab _ ?_;refine ao @Tryz.ntmps249 ?_)
 refine bB (xl w0 (l.map fM) _ (by rw[List.length_map];exact hl)) ?_
 rintro _ _ ⟨lc,rfl,rfl⟩
 (refine @ab _ ?_;refine au ?_)
 refine aA [] l.length [1,5,10,11,12] (fun k=>[(12,dI k)]) (fun k=>⟨up S.box bs [.acc lw (ah true (l.take k) q).2.2.length,.sl 1 false ((ah true (l.take k) q).2.1.map dI)],(lc.n,.arr 2 ((mA true l q k).map fM))::up S.acc lw (.arr 2 ((ah true (l.take k) q).2.2.map nS))⟩) (fun _=>True) mx (by kernel_rfl) ?_ ?_
 ·have h1:=dt h.box
  have h2:=dt h.acc
  have h3:(ah true (l.take 0) q)=([],q):=by simp[ah]
  rw[h3]
  (refine @ab _ ?_;exact XA @h1 @h2 @wB)
 ·intro k hk _
  have hml:=zP true l q hk
  have hb:=h.box
  have ha:=h.acc
  (refine @ab _ ?_;refine ao @hml ?_)
  refine⟨fun hlt=>⟨hlt,hlt,fun c hc b2=>?_⟩,fun hge=>?_⟩
  ·have hk1:∃c0,l[k]? =some c0:=⟨_,List.getElem?_eq_getElem hlt⟩
   obtain⟨c0,hc0⟩:=hk1
   cases bq (zZ (b:=true) (q:=q) hc0) hc
   have hs:=Ac (b:=true) (q:=q) hc0
   rw[cg]at hs
   have e1:lk (up S.box bs [.acc lw (ah true (l.take k) q).2.2.length,.sl 1 false ((ah true (l.take k) q).2.1.map dI)]) bs=some [.acc lw (ah true (l.take k) q).2.2.length,.sl 1 false ((ah true (l.take k) q).2.1.map dI)]:=by rw[ax,hb];rfl
   have e2:lk (up S.acc lw (.arr 2 ((ah true (l.take k) q).2.2.map nS))) lw=some (.arr 2 ((ah true (l.take k) q).2.2.map nS)):=by rw[ax,ha];rfl
   refine bB (hv k c hc0 _ ⟨by(refine @ab _ ?_;exact re @hb @e1),by(refine @ab _ ?_;exact re @ha @e2)⟩) ?_
   rintro _ _ ⟨rfl,rfl⟩
   simp(maxDischargeDepth:=12) (maxSteps:=1000000) -implicitDefEqProofs only[go_sem,Nat.reduceAdd,Nat.reduceSub,Nat.reduceMul,Nat.reduceLeDiff,Nat.reduceEqDiff,Nat.reduceGT,Nat.reduceBEq,reduceCtorEq,↓reduceIte,Int.reduceToNat,Int.reduceLE,Int.reduceLT,Int.reduceNe,Int.reduceEq,gq,hb,ha,rK,hml]
   have dn:((mA true l q k).map fM).set k (.agg [dS c.data,dL (eY c.data c.ai (ah true (l.take k) q).2).1])=(mA true l q (k+1)).map fM:=by
    rw[←hs,List.map_set];rfl
   rw[←dn]
   exact⟨hlt,hlt,fun _ _=>⟨hlt,aW k (by omega),.bw (.refl _)⟩⟩
  ·have:k=l.length:=by omega
   subst this
   rw[BD,List.take_length]
   exact⟨_,_,.refl _,.refl _,lc,rfl,rfl⟩
theorem VG(w0:W0)(hg:fF w0)(bs lw:Nat)(l:List C)(q:LS)(S:St)(h:mc S bs lw q.1 q.2)(hl:l.length≤1048576)
 (hv:∀k c,l[k]? =some c→∀S,mc S bs lw (ah true (l.take k) q).2.1 (ah true (l.take k) q).2.2→aa Tryz.prog w0 250 [.v (.pointer (some ⟨bs,0,none⟩)),.agg [dS c.data,dL c.ai]] S (fun e S'=>e= .agg [dS c.data,dL (eY c.data c.ai (ah true (l.take k) q).2).1]∧S'=gq S bs lw (ah true (l.take (k+1)) q).2.1 (ah true (l.take (k+1)) q).2.2)):
 aa Tryz.prog w0 249 [dR 2 (l.map fM),.v (.func (.func 250) #[.pointer (some ⟨bs,0,none⟩)] #[])] S (fun d S'=>d=dR 2 ((ah true l q).1.map fM)∧S'=gq S bs lw (ah true l q).2.1 (ah true l q).2.2):=by
 refine lO (aa.mono (S9 w0 hg bs lw l q S h hl hv) ?_)
 rintro d S' ⟨b,rfl,rfl⟩
 have:=cf true l q
 (refine @ab _ ?_;exact mf @this)
theorem TT(w0:W0)(hg:fF w0)(bs lw:Nat)(l:List C)(q:LS)(S:St)(h:mc S bs lw q.1 q.2)(hl:l.length≤1048576)(hk1:∀c,c∈l→∃k,c.kid=[k])
 (hv:∀k c,l[k]? =some c→∀S,mc S bs lw (ah false (l.take k) q).2.1 (ah false (l.take k) q).2.2→aa Tryz.prog w0 228 [.v (.pointer (some ⟨bs,0,none⟩)),eT (ay c)] S (fun e S'=>e=eT (bA (ay c) (ah false (l.take k) q).2).1∧S'=gq S bs lw (ah false (l.take (k+1)) q).2.1 (ah false (l.take (k+1)) q).2.2)):
 aa Tryz.prog w0 248 [dR 5 (dK l),.v (.func (.func 228) #[.pointer (some ⟨bs,0,none⟩)] #[])] S (fun d S'=>∃b:FN S.acc,d= .acc b.n l.length∧S'=⟨(gq S bs lw (ah false l q).2.1 (ah false l q).2.2).box,(b.n,.arr 5 (dK (ah false l q).1))::(gq S bs lw (ah false l q).2.1 (ah false l q).2.2).acc⟩):=by
 refine vp [] mx Tryz.func248 rfl rfl (by kernel_rfl) ?_;(refine @ab _ ?_;refine ao @Tryz.ntmps248 ?_)
 refine bB (yQ w0 (dK l) _ (by rw[iP];exact hl)) ?_
 rintro _ _ ⟨lc,rfl,rfl⟩
 (refine @ab _ ?_;refine au ?_)
 refine aA [] l.length [1,5,10,11,12] (fun k=>[(12,dI k)]) (fun k=>⟨up S.box bs [.acc lw (ah false (l.take k) q).2.2.length,.sl 1 false ((ah false (l.take k) q).2.1.map dI)],(lc.n,.arr 5 (dK (mA false l q k)))::up S.acc lw (.arr 2 ((ah false (l.take k) q).2.2.map nS))⟩) (fun _=>True) mx (by kernel_rfl) ?_ ?_
 ·have h1:=dt h.box
  have h2:=dt h.acc
  have h3:(ah false (l.take 0) q)=([],q):=by simp[ah]
  rw[h3]
  (refine @ab _ ?_;exact XA @h1 @h2 @wB)
 ·intro k hk _
  have hml:=zP false l q hk
  have hb:=h.box
  have ha:=h.acc
  (refine @ab _ ?_;refine ao @hml ?_)
  refine⟨fun hlt=>⟨hlt,hlt,fun c hc b2=>?_⟩,fun hge=>?_⟩
  ·obtain⟨c0,hc0⟩:∃c0,l[k]? =some c0:=⟨_,List.getElem?_eq_getElem hlt⟩
   cases bq (zZ (b:=false) (q:=q) hc0) hc
   have hs:=Ac (b:=false) (q:=q) hc0
   have e1:lk (up S.box bs [.acc lw (ah false (l.take k) q).2.2.length,.sl 1 false ((ah false (l.take k) q).2.1.map dI)]) bs=some [.acc lw (ah false (l.take k) q).2.2.length,.sl 1 false ((ah false (l.take k) q).2.1.map dI)]:=by rw[ax,hb];rfl
   have e2:lk (up S.acc lw (.arr 2 ((ah false (l.take k) q).2.2.map nS))) lw=some (.arr 2 ((ah false (l.take k) q).2.2.map nS)):=by rw[ax,ha];rfl
   refine bB (hv k c hc0 _ ⟨by(refine @ab _ ?_;exact re @hb @e1),by(refine @ab _ ?_;exact re @ha @e2)⟩) ?_
   rintro _ _ ⟨rfl,rfl⟩
   have dn:(dK (mA false l q k)).set k (eT (bA (ay c) (ah false (l.take k) q).2).1)=dK (mA false l q (k+1)):=by
    obtain⟨kid,hkid⟩:=hk1 c (List.mem_of_getElem? hc0)
    rw[←hs,df hkid,bl hkid]
    unfold dK
    rw[List.map_set]
    congr 1
    rw[bl rfl,j6]
   rw[←dn]
   simp(maxDischargeDepth:=12) (maxSteps:=1000000) -implicitDefEqProofs only[go_sem,Nat.reduceAdd,Nat.reduceSub,Nat.reduceMul,Nat.reduceLeDiff,Nat.reduceEqDiff,Nat.reduceGT,Nat.reduceBEq,reduceCtorEq,↓reduceIte,Int.reduceToNat,Int.reduceLE,Int.reduceLT,Int.reduceNe,Int.reduceEq,gq,hb,ha,rK,hml]
   exact⟨hlt,hlt,fun _ _=>⟨hlt,aW k (by omega)⟩⟩
  ·have:k=l.length:=by omega
   subst this
   rw[BD,List.take_length]
   exact⟨_,_,.refl _,.refl _,lc,rfl,rfl⟩
theorem Xq(w0:W0)(hg:fF w0)(bs lw:Nat)(l:List C)(q:LS)(S:St)(h:mc S bs lw q.1 q.2)(hl:l.length≤1048576)(hk1:∀c,c∈l→∃k,c.kid=[k])
 (hv:∀k c,l[k]? =some c→∀S,mc S bs lw (ah false (l.take k) q).2.1 (ah false (l.take k) q).2.2→aa Tryz.prog w0 228 [.v (.pointer (some ⟨bs,0,none⟩)),eT (ay c)] S (fun e S'=>e=eT (bA (ay c) (ah false (l.take k) q).2).1∧S'=gq S bs lw (ah false (l.take (k+1)) q).2.1 (ah false (l.take (k+1)) q).2.2)):
 aa Tryz.prog w0 248 [dR 5 (dK l),.v (.func (.func 228) #[.pointer (some ⟨bs,0,none⟩)] #[])] S (fun d S'=>d=dR 5 (dK (ah false l q).1)∧S'=gq S bs lw (ah false l q).2.1 (ah false l q).2.2):=by
 refine lO (aa.mono (TT w0 hg bs lw l q S h hl hk1 hv) ?_)
 rintro d S' ⟨b,rfl,rfl⟩
 have:=cf false l q
 (refine @ab _ ?_;exact mf @this)
theorem TG(w0:W0)(bs lw:Nat)(left:List Int)(ws:List (Int×ByteArray))(S:St)(h:mc S bs lw left ws):aa Tryz.prog w0 249 [dR 2 [],.v (.func (.func 250) #[.pointer (some ⟨bs,0,none⟩)] #[])] S (fun d S'=>d=dR 2 []∧S'=S):=by
 refine lO (aa.mono (K:=fun d S'=>∃b:FN S.acc,d= .acc b.n 0∧S'=⟨S.box,(b.n,.arr 2 [])::S.acc⟩) ?_ ?_)
 ·refine vp [] mx Tryz.func249 rfl rfl (by kernel_rfl) ?_;(refine @ab _ ?_;refine ao @Tryz.ntmps249 ?_)
  refine bB (xl w0 [] _ (by decide)) ?_
  rintro _ _ ⟨lc,rfl,rfl⟩
  (refine @ab _ ?_;refine au ?_)
  refine aA [] 0 [1,5,10,11,12] (fun k=>[(12,dI k)]) (fun k=>⟨S.box,(lc.n,.arr 2 [])::S.acc⟩) (fun _=>True) mx (by kernel_rfl) ?_ ?_
  ·(refine @ab _ ?_;exact aK)
  ·intro k hk _
   (refine @ab _ ?_;refine au ?_)
   exact⟨fun h=>by omega,fun _=>⟨_,_,.refl _,.refl _,lc,rfl,rfl⟩⟩
 ·rintro d S' ⟨b,rfl,rfl⟩
  (refine @ab _ ?_;exact aK)
theorem UP(w0:W0)(bs lw:Nat)(left:List Int)(ws:List (Int×ByteArray))(S:St)(h:mc S bs lw left ws):aa Tryz.prog w0 248 [dR 5 [],.v (.func (.func 228) #[.pointer (some ⟨bs,0,none⟩)] #[])] S (fun d S'=>d=dR 5 []∧S'=S):=by
 refine lO (aa.mono (K:=fun d S'=>∃b:FN S.acc,d= .acc b.n 0∧S'=⟨S.box,(b.n,.arr 5 [])::S.acc⟩) ?_ ?_)
 ·refine vp [] mx Tryz.func248 rfl rfl (by kernel_rfl) ?_;(refine @ab _ ?_;refine ao @Tryz.ntmps248 ?_)
  refine bB (yQ w0 [] _ (by decide)) ?_
  rintro _ _ ⟨lc,rfl,rfl⟩
  (refine @ab _ ?_;refine au ?_)
  refine aA [] 0 [1,5,10,11,12] (fun k=>[(12,dI k)]) (fun k=>⟨S.box,(lc.n,.arr 5 [])::S.acc⟩) (fun _=>True) mx (by kernel_rfl) ?_ ?_
  ·(refine @ab _ ?_;exact aK)
  ·intro k hk _
   (refine @ab _ ?_;refine au ?_)
   exact⟨fun h=>by omega,fun _=>⟨_,_,.refl _,.refl _,lc,rfl,rfl⟩⟩
 ·rintro d S' ⟨b,rfl,rfl⟩
  (refine @ab _ ?_;exact aK)
theorem qT(b:Bool):∀(l:List C) (q:LS),((ah b l q).1.map fun c=>dS c.key)=l.map fun c=>dS c.key
 |[],_=>rfl
 |c::l,q=>by
  simp only[ah,List.map_cons,qT b l,(gM b c q).1]
theorem Zo(w0:W0)(hgl:fF w0)(bs lw:Nat):∀(d:Nat) (n:N) (q:LS) (S:St),Good d n→k7 n→mc S bs lw q.1 q.2→bd n≤131072→(ae n).sum≤122→(n.leaf=true∨2≤n.l.length)→dg n≤q.1.length→q.1.length≤1024→q.1.Nodup→(∀x,x∈q.1→2≤x∧x≤999)→(∀p,p∈bX n→2≤p∧p≤999)→q.2.length+dg n≤65536→
 aa Tryz.prog w0 228 [.v (.pointer (some ⟨bs,0,none⟩)),eT n] S (fun e S'=>e=eT (bA n q).1∧S'=gq S bs lw (bA n q).2.1 (bA n q).2.2):=by
 intro d
 induction d with
 |zero=>
  intro n q S hg hla hI ht hs h2 hf hq hu hr hp hw
  have hn:=aw hg
  have hlf:=hg.1
  have hlen:=bj n
  have hq1:=vo (q:=q) hg hla hs h2 hf hr hp
  have hq2:=dF n q
  have hq3:=eQ hn
  have hlC:=qY hn
  have hwC:=Fz hn
  obtain⟨left,ws⟩:=q
  simp only at hI hf hu hr hw hq
  have hb:=hI.box
  have ha:=hI.acc
  rw[hlf]at hq1 hq2 hq3 hlC hwC
  generalize bA n (left,ws)=R at*
  rw[bT hlf]
  refine vp [3,6] mx Tryz.func228 rfl rfl (by kernel_rfl) ?_;(refine @ab _ ?_;refine ao @Tryz.ntmps228 ?_)
  intro b b1
  have fin1:n.ak≠0∨(true=true∧n.l=[])→R=(n,(left,ws)):=fun e=>by rw[hq2,if_pos e]
  refine⟨fun h0=>?_,fun h0=>⟨fun h1=>?_,fun h1=>?_⟩⟩
  ·rw[fin1 (.inl h0)]
   refine⟨_,_,.refl _,?_,(bT hlf).symm,rfl⟩
   rw[pq hI]
   exact⟨(List.sublist_cons_self _ _).trans (List.sublist_cons_self _ _),List.Sublist.refl _⟩
  ·rw[fin1 (.inr ⟨rfl,List.eq_nil_of_length_eq_zero (by omega)⟩)]
   refine⟨_,_,.refl _,?_,(bT hlf).symm,rfl⟩
   rw[pq hI]
   exact⟨(List.sublist_cons_self _ _).trans (List.sublist_cons_self _ _),List.Sublist.refl _⟩
  ·have h0:n.ak=0:=Classical.not_not.1 h0
   have h00:¬(n.ak≠0∨true=true∧n.l=[]):=fun e=>e.elim (fun e=>e h0) fun e=>h1 (by rw[e.2];rfl)
   rw[if_neg h00]at hq2
   rw[if_neg (fun e=>h00 (.inl e)),if_neg (fun e=>h00 (.inr e))]at hq3
   replace hq1:=hq1 h00
   refine MU ⟨[(b.n,[dI n.ak,dB true,.sl 1 false (n.l.map fun c=>dS c.key),.sl 2 false (n.l.map fM),.sl 5 false []])],[]⟩ [4,9] [11,13] [0,2,3,5,7,8,1,6,4,10,9,11,12,13] mx (by kernel_rfl) ?_
   (refine @ab _ ?_;refine au ?_)
   have hone:∀k c,n.l[k]? =some c→∀S,mc S bs lw (ah true (n.l.take k) (left,ws)).2.1 (ah true (n.l.take k) (left,ws)).2.2→aa Tryz.prog w0 250 [.v (.pointer (some ⟨bs,0,none⟩)),.agg [dS c.data,dL c.ai]] S (fun e S'=>e= .agg [dS c.data,dL (eY c.data c.ai (ah true (n.l.take k) (left,ws)).2).1]∧S'=gq S bs lw (ah true (n.l.take (k+1)) (left,ws)).2.1 (ah true (n.l.take (k+1)) (left,ws)).2.2):=fun k c hc T hT=>by
    have hdk:=fc (q:=(left,ws)) fun c hc=>hlC c (List.mem_of_mem_take (i:=k) hc)
    have hwk:=kL (q:=(left,ws)) fun c hc=>hwC c (List.mem_of_mem_take (i:=k) hc)
    have htk:=iA true n.l k
    have hcm:=List.mem_of_getElem? hc
    have htk1:=iA true n.l (k+1)
    have hsu:=ni (b:=true) hc
    have hcn:=hn.2 c hcm
    have hrc:jP true c=if c.ai=[]then need (c.data.size:Int)else 0:=rfl
    rw[oI hc,cg]
    generalize ah true (n.l.take k) (left,ws)=Pk at*
    obtain⟨Lk,lf,wk⟩:=Pk
    simp only at hdk hwk hT
    have hlfl:lf.length=left.length-gQ true (n.l.take k):=by rw[hdk,List.length_drop]
    exact Ta w0 hgl bs lw c.data c.ai (lf,wk) _ hT hcn.1.2.1 (by have:=hcn.1.2.2;omega) (by show lf.length≤_;omega) (by show wk.length≤_;omega) (by
     by_cases e:c.ai=[]
     ·rw[if_pos e]at hrc
      exact .inl (by show _≤lf.length;omega)
     ·exact .inr e) (fun x hx=>hr x (by rw[hdk]at hx;exact List.mem_of_mem_drop hx)) (by show lf.Nodup;rw[hdk];exact hu.sublist (List.drop_sublist _ _))
   refine⟨mj (by(refine @ab _ ?_;exact aK)),mj (by(refine @ab _ ?_;exact aK)),bB (UP w0 bs lw left ws _ ⟨by(refine @ab _ ?_;exact mf @hb),ha⟩) ?_⟩
   rintro _ _ ⟨rfl,rfl⟩
   (refine @ab _ ?_;refine au ?_)
   have heach:=fun S h=>VG w0 hgl bs lw n.l (left,ws) S h (by omega) hone
   have hlk:(ah true n.l (left,ws)).1.length=n.l.length:=cf _ _ _
   have hdk:=fc (q:=(left,ws)) hlC
   have hwk:=kL (q:=(left,ws)) hwC
   have hkeys:(n.l.map fun c=>dS c.key)=(ah true n.l (left,ws)).1.map fun c=>dS c.key:=(qT true n.l (left,ws)).symm
   generalize ah true n.l (left,ws)=Pk at*
   obtain⟨Lk,lf,wk⟩:=Pk
   simp only at hlk hdk hwk hq1 hq2 heach hkeys
   have hlfl:lf.length=left.length-gQ true n.l:=by rw[hdk,List.length_drop]
   refine⟨mj (by(refine @ab _ ?_;exact aK)),bB (heach _ ⟨by(refine @ab _ ?_;exact mf @hb),ha⟩) ?_⟩
   rintro _ _ ⟨rfl,rfl⟩
   cases lf with
   |nil=>simp only[List.length_nil]at hlfl;omega
   |cons p lr=>
    simp only[List.headD_cons,List.tail_cons]at hq2
    subst hq2
    have e1:lk (up S.box bs [.acc lw wk.length,.sl 1 false ((p::lr).map dI)]) bs=some [.acc lw wk.length,.sl 1 false ((p::lr).map dI)]:=by rw[ax,hb];rfl
    have e2:lk (up S.acc lw (.arr 2 (wk.map nS))) lw=some (.arr 2 (wk.map nS)):=by rw[ax,ha];rfl
    have e3:lk (up S.box bs [.acc lw wk.length,.sl 1 false (lr.map dI)]) bs=some [.acc lw wk.length,.sl 1 false (lr.map dI)]:=by rw[ax,hb];rfl
    simp(maxDischargeDepth:=12) (maxSteps:=1000000) -implicitDefEqProofs only[go_sem,Nat.reduceAdd,Nat.reduceSub,Nat.reduceMul,Nat.reduceLeDiff,Nat.reduceEqDiff,Nat.reduceGT,Nat.reduceBEq,reduceCtorEq,↓reduceIte,Int.reduceToNat,Int.reduceLE,Int.reduceLT,Int.reduceNe,Int.reduceEq,gq,hb,ha]
    refine⟨mj (by(refine @ab _ ?_;exact aK)),bB (Jc w0 bs lw (p::lr) wk 1 _ ⟨by(refine @ab _ ?_;exact re @hb @e1),by(refine @ab _ ?_;exact re @ha @e2)⟩ (by simp) (by omega)) ?_⟩
    rintro _ _ ⟨rfl,rfl⟩
    simp(maxDischargeDepth:=12) (maxSteps:=1000000) -implicitDefEqProofs only[go_sem,Nat.reduceAdd,Nat.reduceSub,Nat.reduceMul,Nat.reduceLeDiff,Nat.reduceEqDiff,Nat.reduceGT,Nat.reduceBEq,reduceCtorEq,↓reduceIte,Int.reduceToNat,Int.reduceLE,Int.reduceLT,Int.reduceNe,Int.reduceEq,gq,hb,ha,hlk,List.take_succ_cons,List.take_zero,List.drop_succ_cons,List.drop_zero,List.length_cons,List.length_nil,List.getElem?_cons_zero]
    have hent:∀S,aa Tryz.prog w0 253 [.agg [dI p,dB true,.sl 1 false (n.l.map fun c=>dS c.key),.sl 2 false (Lk.map fM),.sl 5 false []]] S (fun d S'=>d= .sl 5 false ((Lk.map (dX true)).map vv)∧S'=S):=fun S=>by
     rw[hkeys]
     have:=AS w0 (.mk p true Lk) S (fun e=>by cases e) (by show Lk.length≤_;omega)
     rw[bT rfl]at this
     exact this
    have hput:=fun S=>RM w0 hgl true (Lk.map (dX true)) S (by rw[List.length_map];omega) hq1.ok hq1.bW hq1.first hq1.fits hq1.many
    refine aT (hent _) ?_
    (refine @ab _ ?_;refine au ?_)
    refine aT (hput _) ?_
    (refine @ab _ ?_;refine au ?_)
    refine Y.mn [] [10,13] [0,1,2,3,5,7,4,6,8,9,10,11,12,13] mx (by kernel_rfl) ?_
    (refine @ab _ ?_;refine fa @e3 @hb @ha ?_)
    have hm8:maxLen=9223372036854775807:=rfl
    refine⟨by omega,by omega,_,_,.refl _,?_,?_,rfl⟩
    ·have e5:(wk++[(p,Fo true Lk)]).length=wk.length+1:=List.length_append
     unfold gq
     rw[e5,List.map_append]
     exact⟨(List.sublist_cons_self _ _).trans (List.sublist_cons_self _ _),List.Sublist.refl _⟩
    ·show DV.agg [dI p,dB true,.sl 1 false (n.l.map fun c=>dS c.key),.sl 2 false (Lk.map fM),.sl 5 false []]=_
     rw[hkeys]
     exact(bT (n:= .mk p true Lk) rfl).symm
 |succ d ih=>
  intro n q S hg hla hI ht hs h2 hf hq hu hr hp hw
  have hn:=aw hg
  have hlf:=hg.1
  have hlen:=bj n
  have hq1:=vo (q:=q) hg hla hs h2 hf hr hp
  have hq2:=dF n q
  have hq3:=eQ hn
  have hlC:=qY hn
  have hwC:=Fz hn
  obtain⟨left,ws⟩:=q
  simp only at hI hf hu hr hw hq
  have hb:=hI.box
  have ha:=hI.acc
  rw[hlf]at hq1 hq2 hq3 hlC hwC
  generalize bA n (left,ws)=R at*
  have hkid:=fun c hc=>(hn.2.2 c hc).2.imp fun k h=>h.1
  rw[eF hlf hkid]
  unfold yZ
  refine vp [3,6] mx Tryz.func228 rfl rfl (by kernel_rfl) ?_;(refine @ab _ ?_;refine ao @Tryz.ntmps228 ?_)
  intro b b1
  have fin1:n.ak≠0∨(false=true∧n.l=[])→R=(n,(left,ws)):=fun e=>by rw[hq2,if_pos e]
  refine⟨fun h0=>?_,fun h0=>?_⟩
  ·rw[fin1 (.inl h0)]
   refine⟨_,_,.refl _,?_,(eF hlf hkid).symm,rfl⟩
   rw[pq hI]
   exact⟨(List.sublist_cons_self _ _).trans (List.sublist_cons_self _ _),List.Sublist.refl _⟩
  ·have h0:n.ak=0:=Classical.not_not.1 h0
   have h00:¬(n.ak≠0∨false=true∧n.l=[]):=fun e=>e.elim (fun e=>e h0) fun e=>by cases e.1
   rw[if_neg h00]at hq2
   rw[if_neg (fun e=>h00 (.inl e)),if_neg (fun e=>h00 (.inr e))]at hq3
   replace hq1:=hq1 h00
   refine MU ⟨[(b.n,[dI n.ak,dB false,.sl 1 false (n.l.map fun c=>dS c.key),.sl 2 false [],.sl 5 false (dK n.l)])],[]⟩ [4,9] [11,13] [0,2,3,5,7,8,1,6,4,10,9,11,12,13] mx (by kernel_rfl) ?_
   (refine @ab _ ?_;refine au ?_)
   have hone:∀k c,n.l[k]? =some c→∀S,mc S bs lw (ah false (n.l.take k) (left,ws)).2.1 (ah false (n.l.take k) (left,ws)).2.2→aa Tryz.prog w0 228 [.v (.pointer (some ⟨bs,0,none⟩)),eT (ay c)] S (fun e S'=>e=eT (bA (ay c) (ah false (n.l.take k) (left,ws)).2).1∧S'=gq S bs lw (ah false (n.l.take (k+1)) (left,ws)).2.1 (ah false (n.l.take (k+1)) (left,ws)).2.2):=fun k c hc T hT=>by
    have hdk:=fc (q:=(left,ws)) fun c hc=>hlC c (List.mem_of_mem_take (i:=k) hc)
    have hwk:=kL (q:=(left,ws)) fun c hc=>hwC c (List.mem_of_mem_take (i:=k) hc)
    have htk:=iA false n.l k
    have hcm:=List.mem_of_getElem? hc
    have htk1:=iA false n.l (k+1)
    have hsu:=ni (b:=false) hc
    obtain⟨hsh,_,kid,hkid,hkg,hkf⟩:=hg.2.2.cell c hcm
    have hnd:=aw hkg
    have htk2:=dH hcm hkid
    have hrc:jP false c=dg kid:=by rw[←bl hkid];rfl
    rw[oI hc,df hkid,bl hkid]
    generalize ah false (n.l.take k) (left,ws)=Pk at*
    obtain⟨Lk,lf,wk⟩:=Pk
    simp only at hdk hwk hT
    have hlfl:lf.length=left.length-gQ false (n.l.take k):=by rw[hdk,List.length_drop]
    have hal:∀p,p∈bX kid→p∈bX n:=fun p hp=>by
     rw[fg n,hlf]
     exact List.mem_append_right _ (List.mem_flatMap.2 ⟨c,hcm,by rw[fy hkid];exact List.mem_append_right _ hp⟩)
    have hkl2:kid.leaf=true∨2≤kid.l.length:=by
     cases d with
     |zero=>exact .inl hkg.1
     |succ d=>
      refine .inr ?_
      have h30:=hkf.1
      have hsz:=gY hkg
      unfold ae at h30 hsz
      match hm:kid.l with
      |[]=>rw[hm]at h30;simp at h30
      |[x]=>
       rw[hm]at h30 hsz
       have:=hsz _ (List.mem_map_of_mem List.mem_cons_self)
       simp only[List.map_cons,List.map_nil,List.sum_cons,List.sum_nil]at h30 this
       rw[if_neg (by omega)]at this
       omega
      |x::y::r=>simp
    exact ih kid (lf,wk) _ hkg (by
     cases hla with|mk _ _ _ h3=>exact h3 hlf c hcm kid hkid) hT (by omega) hkf.2 hkl2 (by show _≤lf.length;omega) (by show lf.length≤_;omega) (by show lf.Nodup;rw[hdk];exact hu.sublist (List.drop_sublist _ _)) (fun x hx=>hr x (by rw[hdk]at hx;exact List.mem_of_mem_drop hx)) (fun p hp'=>hp p (hal p hp')) (by show wk.length+_≤_;omega)
   have heach:=fun S h=>Xq w0 hgl bs lw n.l (left,ws) S h (by omega) hkid hone
   have hlk:(ah false n.l (left,ws)).1.length=n.l.length:=cf _ _ _
   have hdk:=fc (q:=(left,ws)) hlC
   have hwk:=kL (q:=(left,ws)) hwC
   have hkeys:(n.l.map fun c=>dS c.key)=(ah false n.l (left,ws)).1.map fun c=>dS c.key:=(qT false n.l (left,ws)).symm
   have hkL:∀c,c∈(ah false n.l (left,ws)).1→∃k,c.kid=[k]:=fun x hx=>by
    obtain⟨c,q',hc,rfl⟩:=ie hx
    obtain⟨k,hk⟩:=hkid c hc
    rw[df hk]
    exact⟨_,rfl⟩
   generalize ah false n.l (left,ws)=Pk at*
   obtain⟨Lk,lf,wk⟩:=Pk
   simp only at hlk hdk hwk hq1 hq2 heach hkeys hkL
   have hlfl:lf.length=left.length-gQ false n.l:=by rw[hdk,List.length_drop]
   refine⟨mj (by(refine @ab _ ?_;exact aK)),mj (by(refine @ab _ ?_;exact aK)),bB (heach _ ⟨by(refine @ab _ ?_;exact mf @hb),ha⟩) ?_⟩
   rintro _ _ ⟨rfl,rfl⟩
   simp(maxDischargeDepth:=12) (maxSteps:=1000000) -implicitDefEqProofs only[go_sem,Nat.reduceAdd,Nat.reduceSub,Nat.reduceMul,Nat.reduceLeDiff,Nat.reduceEqDiff,Nat.reduceGT,Nat.reduceBEq,reduceCtorEq,↓reduceIte,Int.reduceToNat,Int.reduceLE,Int.reduceLT,Int.reduceNe,Int.reduceEq,gq,hb,ha]
   have e0:lk (up S.box bs [.acc lw wk.length,.sl 1 false (lf.map dI)]) bs=some [.acc lw wk.length,.sl 1 false (lf.map dI)]:=by rw[ax,hb];rfl
   have e00:lk (up S.acc lw (.arr 2 (wk.map nS))) lw=some (.arr 2 (wk.map nS)):=by rw[ax,ha];rfl
   refine⟨mj (by(refine @ab _ ?_;exact aK)),bB (TG w0 bs lw lf wk _ ⟨by(refine @ab _ ?_;exact re @hb @e0),by(refine @ab _ ?_;exact re @ha @e00)⟩) ?_⟩
   rintro _ _ ⟨rfl,rfl⟩
   cases lf with
   |nil=>simp only[List.length_nil]at hlfl;omega
   |cons p lr=>
    simp only[List.headD_cons,List.tail_cons]at hq2
    subst hq2
    have e1:lk (up S.box bs [.acc lw wk.length,.sl 1 false ((p::lr).map dI)]) bs=some [.acc lw wk.length,.sl 1 false ((p::lr).map dI)]:=by rw[ax,hb];rfl
    have e2:lk (up S.acc lw (.arr 2 (wk.map nS))) lw=some (.arr 2 (wk.map nS)):=by rw[ax,ha];rfl
    have e3:lk (up S.box bs [.acc lw wk.length,.sl 1 false (lr.map dI)]) bs=some [.acc lw wk.length,.sl 1 false (lr.map dI)]:=by rw[ax,hb];rfl
    simp(maxDischargeDepth:=12) (maxSteps:=1000000) -implicitDefEqProofs only[go_sem,Nat.reduceAdd,Nat.reduceSub,Nat.reduceMul,Nat.reduceLeDiff,Nat.reduceEqDiff,Nat.reduceGT,Nat.reduceBEq,reduceCtorEq,↓reduceIte,Int.reduceToNat,Int.reduceLE,Int.reduceLT,Int.reduceNe,Int.reduceEq,gq,hb,ha]
    refine⟨mj (by(refine @ab _ ?_;exact aK)),bB (Jc w0 bs lw (p::lr) wk 1 _ ⟨by(refine @ab _ ?_;exact re @hb @e1),by(refine @ab _ ?_;exact re @ha @e2)⟩ (by simp) (by omega)) ?_⟩
    rintro _ _ ⟨rfl,rfl⟩
    simp(maxDischargeDepth:=12) (maxSteps:=1000000) -implicitDefEqProofs only[go_sem,Nat.reduceAdd,Nat.reduceSub,Nat.reduceMul,Nat.reduceLeDiff,Nat.reduceEqDiff,Nat.reduceGT,Nat.reduceBEq,reduceCtorEq,↓reduceIte,Int.reduceToNat,Int.reduceLE,Int.reduceLT,Int.reduceNe,Int.reduceEq,gq,hb,ha,hlk,List.take_succ_cons,List.take_zero,List.drop_succ_cons,List.drop_zero,List.length_cons,List.length_nil,List.getElem?_cons_zero]
    have hent:∀S,aa Tryz.prog w0 253 [.agg [dI p,dB false,.sl 1 false (n.l.map fun c=>dS c.key),.sl 2 false [],.sl 5 false (dK Lk)]] S (fun d S'=>d= .sl 5 false ((Lk.map (dX false)).map vv)∧S'=S):=fun S=>by
     rw[hkeys]
     have:=AS w0 (.mk p false Lk) S (fun _=>hkL) (by show Lk.length≤_;omega)
     rw[eF (n:= .mk p false Lk) rfl hkL]at this;unfold yZ at this
     exact this
    have hput:=fun S=>RM w0 hgl false (Lk.map (dX false)) S (by rw[List.length_map];omega) hq1.ok hq1.bW hq1.first hq1.fits hq1.many
    refine aT (hent _) ?_
    (refine @ab _ ?_;refine au ?_)
    refine aT (hput _) ?_
    (refine @ab _ ?_;refine au ?_)
    refine Y.mn [] [10,13] [0,1,2,3,5,7,4,6,8,9,10,11,12,13] mx (by kernel_rfl) ?_
    (refine @ab _ ?_;refine fa @e3 @hb @ha ?_)
    have hm8:maxLen=9223372036854775807:=rfl
    refine⟨by omega,by omega,_,_,.refl _,?_,?_,rfl⟩
    ·have e5:(wk++[(p,Fo false Lk)]).length=wk.length+1:=List.length_append
     unfold gq
     rw[e5,List.map_append]
     exact⟨(List.sublist_cons_self _ _).trans (List.sublist_cons_self _ _),List.Sublist.refl _⟩
    ·show DV.agg [dI p,dB false,.sl 1 false (n.l.map fun c=>dS c.key),.sl 2 false [],.sl 5 false (dK Lk)]=_
     rw[hkeys]
     exact(eF (n:= .mk p false Lk) rfl hkL).symm
end Go.Proofs.YtpjenciplibdnaaGreatDoor
namespace Go.Proofs.YtpjenciplibdnaaGreatDoor
open Aml Go
open Aml Go
end Go.Proofs.YtpjenciplibdnaaGreatDoor
namespace Go.Proofs.YtpjenciplibdnaaGreatDoor
open Aml Go
structure SM(n:N)(at_:List Int):Prop where
 tl:TL n
 kC:bd n≤131072
 dep:∀d,Nd d n→d≤100000
 len:at_.length≤1024
 fr:dg n≤at_.length
 nd:(at_++bX n).Nodup
 qh:∀p,p∈at_++bX n→2≤p∧p≤999
theorem TX(w0:W0):∀(d:Nat) (n:N) (lo hi:ByteArray) (r:Bool) (S:St),Good d n→bd n≤131072→d≤100000→(ae n).sum≤122→(r=true∨30≤(ae n).sum)→n.l≠[]→(n.leaf=true∨2≤n.l.length)→(∀x,x∈de n→mq lo x.key=true)→(hi≠aZ→∀x,x∈de n→cI x.key hi=true)→
 aa Tryz.prog w0 258 [eT n,.agg [dS lo,dS hi],dB r] S (fun e S'=>e=dI d∧S'=S):=by
 intro d
 induction d with
 |zero=>
  intro n lo hi r S hg ht hd hsum hr hne h2 hlo hhi
  have hn:=aw hg
  have hlen:=bj n
  have hlf:=hg.1
  have hsm:=tw hn
  have hfk:=ri hg hlo hhi
  rw[hlf]at hfk
  have hfit:=fun S=>WT w0 n lo hi S hlf hfk (MR hg) (by omega)
  have hsz:=fun S=>qn w0 n S hsm (by omega)
  have hbd:=k8 n hsm (by omega)
  have hpos:=List.length_pos_iff.2 hne
  rw[bT hlf]at*
  refine aY [] mx Tryz.func258 rfl rfl (by kernel_rfl) ?_;(refine @ab _ ?_;refine ao @Tryz.ntmps258 ?_)
  intro b b1
  refine aq (hfit _) ?_
  (refine @ab _ ?_;refine au ?_)
  refine⟨fun h=>absurd h (by omega),fun _=>aq (hsz _) ?_⟩
  (refine @ab _ ?_;refine au ?_)
  refine aq (KA w0 _ _ hbd) ?_
  (refine @ab _ ?_;refine au ?_)
  have hlow:r=false→Dp (ae n)=false:=fun e=>decide_eq_false (by rcases hr with h|h;· rw[e]at h;cases h
                                                                ·omega)
  refine⟨fun h=>absurd h (by omega),fun _=>⟨fun hrf=>aq (hsz _) ?_,fun hrt=>?_⟩⟩
  ·(refine @ab _ ?_;refine au ?_)
   refine aq (Tz w0 _ _ hbd) ?_
   rw[hlow hrf]
   (refine @ab _ ?_;refine au ?_)
   refine aA [] 0 [3,4,8,42,43,44] (fun k=>[(8,dI 0),(44,dI k)]) (fun k=>⟨(b1.n,[dS lo,dS hi])::(b.n,[dI n.ak,dB true,.sl 1 false (n.l.map fun c=>dS c.key),.sl 2 false (n.l.map fM),.sl 5 false []])::S.box,S.acc⟩) (fun _=>True) mx (by kernel_rfl) ?_ ?_
   ·(refine @ab _ ?_;exact aK)
   ·intro k hk' _
    (refine @ab _ ?_;exact aK)
  ·refine aA [] 0 [3,4,8,42,43,44] (fun k=>[(8,dI 0),(44,dI k)]) (fun k=>⟨(b1.n,[dS lo,dS hi])::(b.n,[dI n.ak,dB true,.sl 1 false (n.l.map fun c=>dS c.key),.sl 2 false (n.l.map fM),.sl 5 false []])::S.box,S.acc⟩) (fun _=>True) mx (by kernel_rfl) ?_ ?_
   ·(refine @ab _ ?_;exact aK)
   ·intro k hk' _
    (refine @ab _ ?_;exact aK)
 |succ d ih=>
  intro n lo hi r S hg ht hd hsum hr hne h2 hlo hhi
  have hn:=aw hg
  have hlen:=bj n
  have hlf:=hg.1
  have hsm:=tw hn
  have hfk:=ri hg hlo hhi
  have hone:=iN hn hlf
  rw[hlf]at hfk
  have hfit:=fun S=>XK w0 n lo hi S hlf hfk hone (by omega)
  have hsz:=fun S=>qn w0 n S hsm (by omega)
  have hbd:=k8 n hsm (by omega)
  have hpos:=h2.resolve_left (by rw[hlf];simp)
  have hkn:=nH hn
  have hres:eT n= .agg [dI n.ak,dB false,.sl 1 false (n.l.map fun c=>dS c.key),.sl 2 false [],.sl 5 false ((n.l.map ay).map dT)]:=by
   show DV.agg _=_
   rw[hkn,hlf];rfl
  rw[hres]at hfit hsz ⊢
  clear hres
  have hlow:r=false→Dp (ae n)=false:=fun e=>decide_eq_false (by rcases hr with h|h;· rw[e]at h;cases h
                                                                ·omega)
  have hB:=hg.2.2
  have hkid:∀(k:Nat) c,n.l[k]? =some c→∀lo' hi',(if k=0 then lo'=lo else lo'=c.key)→(match n.l[k+1]? with
   |some c'=>hi'=c'.key
   |none=>hi'=hi)→∀T,aa Tryz.prog w0 258 [eT (ay c),.agg [dS lo',dS hi'],dB false] T (fun e S'=>e=dI d∧S'=T):=by
   intro k c hc lo' hi' hl' hh' T
   have hcm:=List.mem_of_getElem? hc
   obtain⟨s1,s2,kd,hkid,hkg,hkf⟩:=hB.cell c hcm
   rw[bl hkid]
   have htk:=dH hcm hkid
   have hin:∀x,x∈de kd→x∈de n:=fun x hx=>by rw[ca,hlf];exact List.mem_flatMap.2 ⟨c,hcm,by rw[bc hkid];exact hx⟩
   refine ih kd lo' hi' false T hkg (by omega) (by omega) hkf.2 (.inr hkf.1) (pc hkf) (uN hkg hkf) (fun x hx=>?_) fun hne' x hx=>?_
   ·split at hl'
    ·rw[hl'];exact hlo x (hin x hx)
    ·rw[hl'];exact s2 x (by rw[bc hkid];exact hx)
   ·split at hh'
    ·rename_i c' hc'
     obtain⟨q1,rfl⟩:=List.getElem?_eq_some_iff.1 hc
     obtain⟨q2,rfl⟩:=List.getElem?_eq_some_iff.1 hc'
     rw[hh']
     exact(List.pairwise_iff_getElem.1 hB.pw k (k+1) q1 q2 (by omega)).2 x (by rw[bc hkid];exact hx)
    ·rw[hh']at hne' ⊢;exact hhi hne' x (hin x hx)
  refine aY [] mx Tryz.func258 rfl rfl (by kernel_rfl) ?_;(refine @ab _ ?_;refine ao @Tryz.ntmps258 ?_)
  intro b b1
  refine aq (hfit _) ?_
  (refine @ab _ ?_;refine au ?_)
  refine⟨fun h=>absurd h (by omega),fun _=>aq (hsz _) ?_⟩
  (refine @ab _ ?_;refine au ?_)
  refine aq (KA w0 _ _ hbd) ?_
  (refine @ab _ ?_;refine au ?_)
  refine⟨fun h=>absurd h (by omega),fun _=>⟨fun hrf=>aq (hsz _) ?_,fun hrt=>?_⟩⟩
  ·(refine @ab _ ?_;refine au ?_)
   refine aq (Tz w0 _ _ hbd) ?_
   rw[hlow hrf]
   (refine @ab _ ?_;refine au ?_)
   refine aA [] n.l.length [3,4,8,42,43,44] (fun k=>[(8,dI (if k=0 then 0 else(d+1:Nat))),(44,dI k)]) (fun k=>⟨(b1.n,[dS lo,dS hi])::(b.n,[dI n.ak,dB false,.sl 1 false (n.l.map fun c=>dS c.key),.sl 2 false [],.sl 5 false ((n.l.map ay).map dT)])::S.box,S.acc⟩) (fun _=>True) mx (by kernel_rfl) ?_ ?_
   ·(refine @ab _ ?_;exact aK)
   ·intro k hk' _
    (refine @ab _ ?_;refine au ?_)
    refine⟨fun hlt=>⟨hlt,fun c hc b2 b3=>?_⟩,fun hge=>?_⟩
    ·have e1:IntKind.i64.wrap ((d:Int)+1)=((d+1:Nat):Int):=by rw[ba (by omega) (by omega)];omega
     have e2:IntKind.i64.wrap ((k:Int)+1)=((k+1:Nat):Int):=aW k (by omega)
     have hk2:∀lo',(if k=0 then lo'=lo else lo'=c.key)→¬((k+1:Nat):Int)<n.l.length→∀T,aa Tryz.prog w0 258 [eT (ay c),.agg [dS lo',dS hi],dB false] T (fun e S'=>e=dI d∧S'=T):=fun lo' h1 h2 T=>hkid k c hc lo' hi h1 (by rw[List.getElem?_eq_none (by omega)]) T
     have hk1:∀lo' a,(if k=0 then lo'=lo else lo'=c.key)→n.l[k+1]? =some a→∀T,aa Tryz.prog w0 258 [eT (ay c),.agg [dS lo',dS a.key],dB false] T (fun e S'=>e=dI d∧S'=T):=fun lo' a h1 h2 T=>hkid k c hc lo' a.key h1 (by rw[h2]) T
     rw[e2]
     refine⟨fun hp=>⟨hlt,fun a ha=>?_⟩,fun hz=>?_⟩
     ·cases bq hc ha
      have hl0:(if k=0 then c.key=lo else c.key=c.key):=by rw[if_neg (by omega)]
      have hf:(if k=0 then(0:Int)else((d+1:Nat):Int))=((d+1:Nat):Int):=if_neg (by omega)
      have hf2:(if k+1=0 then(0:Int)else((d+1:Nat):Int))=((d+1:Nat):Int):=if_neg (by omega)
      have z2:((k:Int)>0)=True:=eq_true hp
      refine⟨fun h1=>⟨by omega,h1,fun a ha=>aq (hk1 c.key a hl0 ha _) ?_⟩,fun h1=>aq (hk2 c.key hl0 h1 _) ?_⟩
      ·(refine @ab _ ?_;refine Co @e1 @e2 @z2 @hf @hf2 @hlt ?_)
       exact fun h=>absurd h (by omega)
      ·(refine @ab _ ?_;refine Co @e1 @e2 @z2 @hf @hf2 @hlt ?_)
       exact fun h=>absurd h (by omega)
     ·have hl0:(if k=0 then lo=lo else lo=c.key):=by rw[if_pos (by omega)]
      have z2:((k:Int)>0)=False:=eq_false hz
      have hf2:(if k+1=0 then(0:Int)else((d+1:Nat):Int))=((d+1:Nat):Int):=if_neg (by omega)
      refine⟨fun h1=>⟨by omega,h1,fun a ha=>aq (hk1 lo a hl0 ha _) ?_⟩,fun h1=>aq (hk2 lo hl0 h1 _) ?_⟩
      ·(refine @ab _ ?_;refine Bg @e1 @e2 @z2 @hf2 @hlt ?_)
       exact fun h=>absurd h (by omega)
      ·(refine @ab _ ?_;refine Bg @e1 @e2 @z2 @hf2 @hlt ?_)
       exact fun h=>absurd h (by omega)
    ·exact if_neg (by omega)
  ·refine aA [] n.l.length [3,4,8,42,43,44] (fun k=>[(8,dI (if k=0 then 0 else(d+1:Nat))),(44,dI k)]) (fun k=>⟨(b1.n,[dS lo,dS hi])::(b.n,[dI n.ak,dB false,.sl 1 false (n.l.map fun c=>dS c.key),.sl 2 false [],.sl 5 false ((n.l.map ay).map dT)])::S.box,S.acc⟩) (fun _=>True) mx (by kernel_rfl) ?_ ?_
   ·(refine @ab _ ?_;exact aK)
   ·intro k hk' _
    (refine @ab _ ?_;refine au ?_)
    refine⟨fun hlt=>⟨hlt,fun c hc b2 b3=>?_⟩,fun hge=>?_⟩
    ·have e1:IntKind.i64.wrap ((d:Int)+1)=((d+1:Nat):Int):=by rw[ba (by omega) (by omega)];omega
     have e2:IntKind.i64.wrap ((k:Int)+1)=((k+1:Nat):Int):=aW k (by omega)
     have hk2:∀lo',(if k=0 then lo'=lo else lo'=c.key)→¬((k+1:Nat):Int)<n.l.length→∀T,aa Tryz.prog w0 258 [eT (ay c),.agg [dS lo',dS hi],dB false] T (fun e S'=>e=dI d∧S'=T):=fun lo' h1 h2 T=>hkid k c hc lo' hi h1 (by rw[List.getElem?_eq_none (by omega)]) T
     have hk1:∀lo' a,(if k=0 then lo'=lo else lo'=c.key)→n.l[k+1]? =some a→∀T,aa Tryz.prog w0 258 [eT (ay c),.agg [dS lo',dS a.key],dB false] T (fun e S'=>e=dI d∧S'=T):=fun lo' a h1 h2 T=>hkid k c hc lo' a.key h1 (by rw[h2]) T
     rw[e2]
     refine⟨fun hp=>⟨hlt,fun a ha=>?_⟩,fun hz=>?_⟩
     ·cases bq hc ha
      have hl0:(if k=0 then c.key=lo else c.key=c.key):=by rw[if_neg (by omega)]
      have hf:(if k=0 then(0:Int)else((d+1:Nat):Int))=((d+1:Nat):Int):=if_neg (by omega)
      have hf2:(if k+1=0 then(0:Int)else((d+1:Nat):Int))=((d+1:Nat):Int):=if_neg (by omega)
      have z2:((k:Int)>0)=True:=eq_true hp
      refine⟨fun h1=>⟨by omega,h1,fun a ha=>aq (hk1 c.key a hl0 ha _) ?_⟩,fun h1=>aq (hk2 c.key hl0 h1 _) ?_⟩
      ·(refine @ab _ ?_;refine Co @e1 @e2 @z2 @hf @hf2 @hlt ?_)
       exact fun h=>absurd h (by omega)
      ·(refine @ab _ ?_;refine Co @e1 @e2 @z2 @hf @hf2 @hlt ?_)
       exact fun h=>absurd h (by omega)
     ·have hl0:(if k=0 then lo=lo else lo=c.key):=by rw[if_pos (by omega)]
      have z2:((k:Int)>0)=False:=eq_false hz
      have hf2:(if k+1=0 then(0:Int)else((d+1:Nat):Int))=((d+1:Nat):Int):=if_neg (by omega)
      refine⟨fun h1=>⟨by omega,h1,fun a ha=>aq (hk1 lo a hl0 ha _) ?_⟩,fun h1=>aq (hk2 lo hl0 h1 _) ?_⟩
      ·(refine @ab _ ?_;refine Bg @e1 @e2 @z2 @hf2 @hlt ?_)
       exact fun h=>absurd h (by omega)
      ·(refine @ab _ ?_;refine Bg @e1 @e2 @z2 @hf2 @hlt ?_)
       exact fun h=>absurd h (by omega)
    ·exact if_neg (by omega)
theorem Uu(w0:W0)(n:N)(S:St)(h:gV n)(hz:PZ n)(ht:∀d,Nd d n→bd n≤131072∧d≤100000):aa Tryz.prog w0 247 [eT n] S (fun e S'=>e=dB true∧S'=S):=by
 obtain⟨d,hg,hsum,h2⟩:=h
 have hn:=aw hg
 obtain⟨ht1,ht2⟩:=ht d hn
 have hdep:=fun(hne:n.l≠[]) S=>TX w0 d n aZ aZ true S hg ht1 ht2 hsum (.inl rfl) hne h2 (fun x _=>od _) (fun e=>absurd rfl e)
 have hlen:=bj n
 have hkl:n.leaf=false→n.l≠[]:=fun e he=>by
  have:=h2.resolve_left (by rw[e];simp)
  rw[he]at this;simp at this
 cases hlf:n.leaf with
 |true=>
  rw[bT hlf]at*
  refine aY [] mx Tryz.func247 rfl rfl (by kernel_rfl) ?_;(refine @ab _ ?_;refine ao @Tryz.ntmps247 ?_)
  intro b
  have hfin:(n.ak=0→¬n.l=[])→n.l≠[]:=fun h e=>h (hz e) e
  refine⟨fun hp hw=>?_,fun hp=>?_⟩
  ·have hne:n.l≠[]:=fun e=>hw (by rw[e];rfl)
   refine aq (hdep hne _) ?_
   (refine @ab _ ?_;exact aK)
  ·refine aq (hdep (fun e=>hp (hz e)) _) ?_
   (refine @ab _ ?_;exact aK)
 |false=>
  refine aY [] mx Tryz.func247 rfl rfl (by kernel_rfl) ?_;(refine @ab _ ?_;refine aO @Tryz.ntmps247 @hlf ?_)
  intro b
  refine aq (hdep (hkl hlf) _) ?_ ⟨?_,.refl _,.refl _,trivial⟩
  ·(refine @ab _ ?_;exact aK)
  ·(refine @ab _ ?_;exact mf @hlf)
structure EY(n:N):Prop where
 tl:TL n
 kC:bd n≤131072
 dep:∀d,Nd d n→d≤100000
def oM(n:N)(at_:List Int):Prop:=(at_++bX n).Nodup∧(∀p,p∈at_++bX n→2≤p∧p≤999)∧dg n≤at_.length
noncomputable def yi(n:N)(at_:List Int):Bool:=@decide (oM n at_) (Classical.propDecidable _)
theorem xu{n:N}{at_:List Int}(h:oM n at_):yi n at_=true:=@decide_eq_true _ (Classical.propDecidable _) h
theorem tB{n:N}{at_:List Int}(h:¬oM n at_):yi n at_=false:=@decide_eq_false _ (Classical.propDecidable _) h
theorem SM.of{n:N}{at_:List Int}(h:EY n)(hl:at_.length≤1024)(hm:oM n at_):SM n at_:=⟨h.tl,h.kC,h.dep,hl,hm.2.2,hm.1,hm.2.1⟩
theorem SF{L:List Int}(hs:L.Pairwise (·≤·))(h:∀(j:Nat) x,L[j]? =some x→(2≤x∧x≤999)∧∀y,0<j→L[j-1]? =some y→x≠y):L.Nodup∧∀p,p∈L→2≤p∧p≤999:=by
 refine⟨?_,fun p hp=>?_⟩
 ·have:L.Pairwise (·<·):=by
   rw[List.pairwise_iff_getElem]
   intro i j hi hj hij
   have h1:=(h j _ (List.getElem?_eq_getElem hj)).2 L[j-1] (by omega) (List.getElem?_eq_getElem (by omega))
   have h2:L[j-1]≤L[j]:=List.pairwise_iff_getElem.1 hs _ _ (by omega) hj (by omega)
   have h3:L[i]≤L[j-1]:=by
    by_cases e:i=j-1
    ·subst e;exact Int.le_refl _
    ·exact List.pairwise_iff_getElem.1 hs _ _ hi (by omega) (by omega)
   omega
  exact this.imp fun{a b} h=>by omega
 ·obtain⟨j,hj⟩:=List.mem_iff_getElem?.1 hp
  exact(h j p hj).1
theorem NW{l:List Int}(h:l.Nodup)(hr:∀p,p∈l→2≤p∧p≤999):l.length≤998:=by
 have hp:=bI l
 have hs:(bz l).Pairwise (·<·):=List.Pairwise.imp (R:=fun x y=>x≤y∧x≠y) (fun h=>by omega) ((oE l).and (hp.nodup_iff.2 h))
 have hr2:∀p,p∈bz l→2≤p∧p≤999:=fun p hp'=>hr p (hp.mem_iff.1 hp')
 rw[←hp.length_eq]
 generalize bz l=L at*
 have:∀i (hi:i<L.length),(2+i:Int)≤L[i]:=fun i=>by
  induction i with
  |zero=>intro hi;have:=(hr2 L[0] (List.getElem_mem _)).1;omega
  |succ i ih=>
   intro hi
   have h1:=ih (by omega)
   have h2:=List.pairwise_iff_getElem.1 hs i (i+1) (by omega) hi (by omega)
   omega
 rcases Nat.eq_zero_or_pos L.length with q|q
 ·omega
 ·have h1:=this (L.length-1) (by omega)
  have h2:=(hr2 L[L.length-1] (List.getElem_mem _)).2
  omega
theorem oM.len{n:N}{at_:List Int}(h:oM n at_):at_.length≤998:=NW (List.nodup_append.1 h.1).1 fun p hp=>h.2.1 p (List.mem_append_left _ hp)
theorem Xf(w0:W0)(n:N)(at_:List Int)(S:St)(h:EY n)(hln:at_.length≤1100):aa Tryz.prog w0 226 [eT n,dL at_] S (fun d S'=>d=dB (yi n at_)∧S'=S):=by
 obtain⟨d,hn⟩:=tV h.tl
 have hfine:DK n:=⟨d,hn,h.kC⟩
 have hpg:=fun S=>LF w0 n S hfine
 rw[IY hn]at hpg
 have hck:=fun S=>Uu w0 n S h.tl.root h.tl.pz fun d hd=>⟨h.kC,h.dep d hd⟩
 have hfs:=fun S=>K9 w0 n S hfine
 have hal:=tg hn
 have ht:=h.kC
 have hp:(at_++bz (bX n)).Perm (at_++bX n):=List.Perm.append_left _ (bI _)
 have hfl:flat [at_,bz (bX n)]=at_++bz (bX n):=by simp[flat]
 have hlen:(at_++bz (bX n)).length=at_.length+(bX n).length:=by rw[hp.length_eq,List.length_append]
 have hcc:=fun S=>concat w0 [at_,bz (bX n)] S (by simp) (by rw[hfl,hlen];omega)
 rw[hfl]at hcc
 have hsp:(bz (at_++bz (bX n))).Perm (at_++bX n):=(bI _).trans hp
 have hup:=oE (at_++bz (bX n))
 have hll:(bz (at_++bz (bX n))).length=at_.length+(bX n).length:=by rw[hsp.length_eq,List.length_append]
 have hso:∀(l:Nat) (S:St),lk S.acc l=some (.arr 1 ((at_++bz (bX n)).map dI))→aa Tryz.prog w0 51 [.acc l (at_.length+(bX n).length)] S (fun d S'=>d= .bN []∧S'=⟨S.box,up S.acc l (.arr 1 ((bz (at_++bz (bX n))).map dI))⟩):=fun l S hl=>by
  have:=mN w0 hl (by rw[hlen];omega)
  rw[hlen]at this
  exact this
 rw[hlen]at hcc
 generalize bz (at_++bz (bX n))=L at*
 generalize at_++bz (bX n)=M at*
 generalize hA:bz (bX n)=A at*
 have hb1:(∀(j:Nat) x,L[j]? =some x→(2≤x∧x≤999)∧∀y,0<j→L[j-1]? =some y→x≠y)→dg n≤at_.length→yi n at_=true:=fun q1 q2=>xu (by
  obtain⟨z1,z2⟩:=SF hup q1
  exact⟨hsp.nodup_iff.1 z1,fun p hp=>z2 p (hsp.mem_iff.2 hp),q2⟩)
 have hb2:∀x,x∈L→¬(2≤x∧x≤999)→yi n at_=false:=fun x hx q=>tB fun c=>q (c.2.1 x (hsp.mem_iff.1 hx))
 have hb3:∀(j:Nat) x,0<j→L[j]? =some x→L[j-1]? =some x→yi n at_=false:=fun j x h0 h1 h2=>tB fun c=>by
  have:=hsp.nodup_iff.2 c.1
  obtain⟨u1,e1⟩:=List.getElem?_eq_some_iff.1 h1
  obtain⟨u2,e2⟩:=List.getElem?_eq_some_iff.1 h2
  exact(List.pairwise_iff_getElem.1 this) (j-1) j u2 u1 (by omega) (e2.trans e1.symm)
 have hb4:¬dg n≤at_.length→yi n at_=false:=fun q=>tB fun c=>q c.2.2
 generalize yi n at_=R at*
 refine aY [] mx Tryz.func226 rfl rfl (by kernel_rfl) ?_;(refine @ab _ ?_;refine ao @Tryz.ntmps226 ?_)
 intro b
 refine aq (hpg _) ?_
 (refine @ab _ ?_;refine au ?_)
 refine bB (hcc _) ?_ (.cons (Wk.full _ _ _) .nil)
 rintro _ _ ⟨la,rfl,rfl⟩
 (refine @ab _ ?_;refine au ?_)
 refine .inl (bB (hso la.n ⟨_,(la.n,.arr 1 (M.map dI))::S.acc⟩ (by simp[lk])) ?_)
 rintro _ _ ⟨rfl,rfl⟩
 (refine @ab _ ?_;refine au ?_)
 refine aA [] L.length [1,2,5,15,16,17] (fun k=>[(17,dI k)]) (fun _=>⟨(b.n,[dI n.ak,dB n.leaf,.sl 1 false (n.l.map fun c=>dS c.key),.sl 2 false ((if n.leaf then n.l else []).map fM),.sl 5 false ((aI n).map dT)])::S.box,(la.n,.arr 1 (L.map dI))::S.acc⟩) (fun k=>∀(j:Nat) x,j<k→L[j]? =some x→(2≤x∧x≤999)∧∀y,0<j→L[j-1]? =some y→x≠y) mx (by kernel_rfl) ?_ ?_
 ·(refine @ab _ ?_;refine ao @hll ?_)
  exact fun j x hj=>absurd hj (by omega)
 ·intro k hk hinv
  have hstep:∀a,L[k]? =some a→¬a<2→¬a>999→(∀y,0<k→L[k-1]? =some y→a≠y)→∀(j:Nat) x,j<k+1→L[j]? =some x→(2≤x∧x≤999)∧∀y,0<j→L[j-1]? =some y→x≠y:=fun a ha q1 q2 q3 j x hj hx=>by
   rcases Nat.lt_succ_iff_lt_or_eq.1 hj with q|q
   ·exact hinv j x q hx
   ·subst q
    cases bq ha hx
    exact⟨by omega,q3⟩
  (refine @ab _ ?_;refine ao @hll ?_)
  refine⟨fun hlt=>⟨hlt,hlt,fun a ha=>⟨fun q=>?_,fun q1=>⟨fun q=>?_,fun q2=>⟨fun hk0=>?_,fun hk0=>?_⟩⟩⟩⟩,fun hge=>?_⟩
  ·rw[hb2 a (List.mem_of_getElem? ha) (by omega)]
  ·rw[hb2 a (List.mem_of_getElem? ha) (by omega)]
  ·have ew:IntKind.i64.wrap ((k:Int)-1)=((k-1:Nat):Int):=by rw[ba (by omega) (by omega)];omega
   rw[ew,Int.toNat_natCast]
   refine⟨by omega,by omega,by omega,fun a2 ha2=>⟨fun he=>?_,fun he=>⟨hlt,?_,aW k (by omega)⟩⟩⟩
   ·subst he
    rw[hb3 k a (by omega) ha ha2]
   ·exact hstep a ha q1 q2 fun y _ hy=>by cases bq ha2 hy;exact he
  ·exact⟨hlt,hstep a ha q1 q2 (fun y h0=>absurd h0 (by omega)),aW k (by omega)⟩
  ·have hall:=fun(j:Nat) x (hx:L[j]? =some x)=>hinv j x (by have:=(List.getElem?_eq_some_iff.1 hx).1;omega) hx
   refine aq (hck _) ?_
   (refine @ab _ ?_;refine au ?_)
   refine aq (hfs _) ?_
   (refine @ab _ ?_;refine au ?_)
   by_cases q:dg n≤at_.length
   ·rw[hb1 hall q,decide_eq_true q]
   ·rw[hb4 q,decide_eq_false q]
theorem PD(w0:W0)(l:List Int)(S:St)(h:l.length≤1048576):aa Tryz.prog w0 227 [dL l] S (fun d S'=>d=dL l∧S'=S):=by
 refine jC (aa.mono (E4 w0 l S h) ?_)
 rintro d S' ⟨b,rfl,rfl⟩
 (refine @ab _ ?_;exact aK)
noncomputable def Dn(n:N)(at_:List Int):DV:=if yi n at_ then .bN [eT (bA n (at_,[])).1,.sl 2 false ((bA n (at_,[])).2.2.map nS),dL (bA n (at_,[])).2.1,dB true]else .bN [eT n,.sl 0 true [],.sl 0 true [],dB false]
theorem Xu(w0:W0)(hgl:fF w0)(n:N)(at_:List Int)(S:St)(h:EY n)(hln:at_.length≤1100):aa Tryz.prog w0 181 [eT n,dL at_] S (fun d S'=>d=Dn n at_∧S'=S):=by
 have hmay:=fun S=>Xf w0 n at_ S h hln
 have hcl:=fun S=>PD w0 at_ S (by omega)
 by_cases hm:oM n at_
 ·have hL:=SM.of h (by have:=hm.len;omega) hm
  obtain⟨d,hg,hs,h2⟩:=h.tl.root
  have hfr:=hL.fr
  have hln:=hL.len
  have hnd:=List.nodup_append.1 hL.nd
  have hlay:=fun bs lw S (hI:mc S bs lw at_ [])=>Zo w0 hgl bs lw d n (at_,[]) S hg h.tl.laid hI h.kC hs h2 hfr hln hnd.1 (fun x hx=>hL.qh x (List.mem_append_left _ hx)) (fun x hx=>hL.qh x (List.mem_append_right _ hx)) (by show 0+_≤_;omega)
  have e:Dn n at_= .bN [eT (bA n (at_,[])).1,.sl 2 false ((bA n (at_,[])).2.2.map nS),dL (bA n (at_,[])).2.1,dB true]:=by unfold Dn;rw[xu hm];rfl
  rw[e]
  rw[xu hm]at hmay
  generalize bA n (at_,[])=R at*
  refine aY [4,5] mx Tryz.func181 rfl rfl (by kernel_rfl) ?_;(refine @ab _ ?_;refine ao @Tryz.ntmps181 ?_)
  intro b b1
  refine aq (hmay _) ?_
  (refine @ab _ ?_;refine au ?_)
  refine aq (hcl _) ?_
  (refine @ab _ ?_;refine au ?_)
  intro b2
  refine eg b2.n 0 2 (by omega) (ds:=[.sl 0 true [],.sl 1 false (at_.map dI)]) (by(refine @ab _ ?_;exact aK)) rfl fun lw=>?_
  (refine @ab _ ?_;refine au ?_)
  refine fQ [5] [] mx (by kernel_rfl) ?_
  (refine @ab _ ?_;refine au ?_)
  refine bB (hlay b2.n lw.n _ ⟨by(refine @ab _ ?_;exact aK),by(refine @ab _ ?_;exact aK)⟩) ?_
  rintro e S' ⟨rfl,rfl⟩
  simp(maxDischargeDepth:=12) (maxSteps:=1000000) -implicitDefEqProofs only[go_sem,Nat.reduceAdd,Nat.reduceSub,Nat.reduceMul,Nat.reduceLeDiff,Nat.reduceEqDiff,Nat.reduceGT,Nat.reduceBEq,reduceCtorEq,↓reduceIte,Int.reduceToNat,Int.reduceLE,Int.reduceLT,Int.reduceNe,Int.reduceEq,gq]
  intro b9
  refine Lt b2.n 0 (l:=lw.n) (s:=2) (xs:=R.2.2.map nS) (ds:=[.acc lw.n R.2.2.length,.sl 1 false (R.2.1.map dI)]) (by(refine @ab _ ?_;exact aK)) (by simp) (by(refine @ab _ ?_;exact aK)) ?_
  (refine @ab _ ?_;refine au ?_)
  refine Y.T7 [b1.n] [9] [] [1,2,3,5,6,7,0,4,8,9,10,11,12] mx (by kernel_rfl) ?_
  (refine @ab _ ?_;exact aK)
 ·have e:Dn n at_= .bN [eT n,.sl 0 true [],.sl 0 true [],dB false]:=by unfold Dn;rw[tB hm];rfl
  rw[e]
  rw[tB hm]at hmay
  refine aY [5] mx Tryz.func181 rfl rfl (by kernel_rfl) ?_;(refine @ab _ ?_;refine ao @Tryz.ntmps181 ?_)
  intro b b1
  refine aq (hmay _) ?_
  (refine @ab _ ?_;refine au ?_)
  trivial
end Go.Proofs.YtpjenciplibdnaaGreatDoor
namespace Go.Proofs.YtpjenciplibdnaaGreatDoor
open Aml Go
open Aml Go
end Go.Proofs.YtpjenciplibdnaaGreatDoor
namespace Go.Proofs.YtpjenciplibdnaaGreatDoor
open Aml Go
mutual
def plN:N→N
 | .mk p b l=> .mk p b (WD b l)
def plC(b:Bool):C→C
 | .mk k d ps kid=>if b then .mk k d ps []else .mk k aZ [] (YL kid)
def WD(b:Bool):List C→List C
 |[]=>[]
 |c::l=>plC b c::WD b l
def YL:List N→List N
 |[]=>[]
 |n::_=>[plN n]
end
theorem zg(w0:W0)(n:N)(S:St)(ht:n.l.length≤1048576)(hp:∀c,c∈n.l→c.ai.length≤1048576)(hk:∀c,c∈n.l→c.kid=[]∨∃k,c.kid=[k]∧∀S,aa Tryz.prog w0 57 [eN k,eN k] S (fun e S'=>e=dB true∧S'=S)):
 aa Tryz.prog w0 57 [eN n,eN n] S (fun e S'=>e=dB true∧S'=S):=by
 refine aY [] mx Tryz.func57 rfl rfl (by kernel_rfl) ?_;(refine @ab _ ?_;refine ao @Tryz.ntmps57 ?_)
 intro b b2
 refine aA [] n.l.length [2,3,5] (fun k=>[(5,dI k)]) (fun k=>⟨(b2.n,[dI n.ak,dB n.leaf,.sl 4 false (n.l.map dC)])::(b.n,[dI n.ak,dB n.leaf,.sl 4 false (n.l.map dC)])::S.box,S.acc⟩) (fun _=>True) mx (by kernel_rfl) ?_ ?_
 ·(refine @ab _ ?_;exact aK)
 ·intro k hk' _
  (refine @ab _ ?_;refine au ?_)
  refine fun hlt=>⟨hlt,fun c hc b3=>⟨hlt,fun c2 hc2 b4=>?_⟩⟩
  cases bq hc hc2
  have hpc:=hp c (List.mem_of_getElem? hc)
  refine⟨fun h=>(by rw[fE]at h;cases h),fun _=>⟨fun h=>(by rw[fE]at h;cases h),fun _=>⟨fun h=>h rfl,fun _=>⟨fun h=>h rfl,fun _=>?_⟩⟩⟩⟩
  refine aA [] c.ai.length [2,3,5,6,7,8] (fun j=>[(8,dI j)]) (fun _=>⟨(b4.n,[dS c.key,dS c.data,.sl 1 false (c.ai.map dI),.sl 3 false (c.kid.map dN)])::(b3.n,[dS c.key,dS c.data,.sl 1 false (c.ai.map dI),.sl 3 false (c.kid.map dN)])::(b2.n,[dI n.ak,dB n.leaf,.sl 4 false (n.l.map dC)])::(b.n,[dI n.ak,dB n.leaf,.sl 4 false (n.l.map dC)])::S.box,S.acc⟩) (fun _=>True) mx (by kernel_rfl) ?_ ?_
  ·(refine @ab _ ?_;exact aK)
  ·intro j hj _
   rcases hk c (List.mem_of_getElem? hc)with hkid|⟨kd,hkid,hsk⟩
   ·(refine @ab _ ?_;refine ao @hkid ?_)
    exact⟨fun h=>⟨h,fun x hx=>⟨h,fun y hy=>(by cases bq hx hy;exact⟨fun e=>e rfl,fun _=>⟨h,aW j (by omega)⟩⟩)⟩⟩,fun _=>⟨fun h=>absurd h (by omega),fun _=>⟨hlt,aW k (by omega)⟩⟩⟩
   ·(refine @ab _ ?_;refine ao @hkid ?_)
    refine⟨fun h=>⟨h,fun x hx=>⟨h,fun y hy=>(by cases bq hx hy;exact⟨fun e=>e rfl,fun _=>⟨h,aW j (by omega)⟩⟩)⟩⟩,fun _=>⟨fun _=>aT (hsk _) ?_,fun h=>absurd (by omega) h⟩⟩
    (refine @ab _ ?_;refine au ?_)
    exact⟨hlt,aW k (by omega)⟩
theorem Xj(w0:W0):∀(d:Nat) (n:N) (S:St),Nd d n→bd n≤131072→aa Tryz.prog w0 57 [eN n,eN n] S (fun e S'=>e=dB true∧S'=S):=by
 intro d
 induction d with
 |zero=>
  intro n S hn ht
  have hlen:=bj n
  exact zg w0 n S (by omega) (fun c hc=>by have h1:c.ai.length≤4:=(hn.2 c hc).1.2.2;omega) fun c hc=> .inl (hn.2 c hc).2
 |succ d ih=>
  intro n S hn ht
  have hlen:=bj n
  refine zg w0 n S (by omega) (fun c hc=>by have h1:c.ai.length≤0:=(hn.2.2 c hc).1.2.2;omega) fun c hc=> .inr ?_
  obtain⟨_,k,hk,hkn⟩:=hn.2.2 c hc
  have hkt:=dH hc hk
  exact⟨k,hk,fun S=>ih k S hkn (by omega)⟩
theorem L6(w0:W0){k:Nat}{n:N}(h:TB k n)(hk:k≤116)(S:St):aa Tryz.prog w0 57 [eN n,eN n] S (fun e S'=>e=dB true∧S'=S):=by
 obtain⟨hr,d,hg,hd,ht⟩:=h
 exact Xj w0 d n S (aw hg) (by omega)
theorem WG(w0:W0)(k:Nat)(n:N)(l:List C)(S:St)(h:VI k n l)(hk:k≤116):aa Tryz.prog w0 24 [eL n l,eL n l] S (fun d S'=>d=dB true∧S'=S):=by
 have hln:=h.len
 have hdn:=fun S=>L6 w0 h.dir hk S
 have hcn:=fun c (hc:c∈l) S=>L6 w0 (h.cell c hc).2.1 hk S
 refine aY [] mx Tryz.func24 rfl rfl (by kernel_rfl) ?_;(refine @ab _ ?_;refine ao @Tryz.ntmps24 ?_)
 intro b b2
 refine aq (hdn _) ?_
 (refine @ab _ ?_;refine au ?_)
 refine aA [] l.length [2,3,5] (fun k=>[(5,dI k)]) (fun k=>⟨(b2.n,[dI n.ak,dB n.leaf,.sl 4 false (n.l.map dC),.sl 4 false (l.map Qn)])::(b.n,[dI n.ak,dB n.leaf,.sl 4 false (n.l.map dC),.sl 4 false (l.map Qn)])::S.box,S.acc⟩) (fun _=>True) mx (by kernel_rfl) ?_ ?_
 ·(refine @ab _ ?_;exact aK)
 ·intro j hj _
  (refine @ab _ ?_;refine au ?_)
  refine fun hlt=>⟨hlt,fun c hc=>⟨hlt,fun c2 hc2=>?_⟩⟩
  cases bq hc hc2
  refine⟨fun e=>(by rw[fE]at e;cases e),fun _=>⟨hlt,fun c3 hc3=>⟨hlt,fun c4 hc4=>?_⟩⟩⟩
  cases bq hc hc3
  cases bq hc hc4
  refine aT (hcn c (List.mem_of_getElem? hc) _) ?_
  (refine @ab _ ?_;refine au ?_)
  exact⟨hlt,aW j (by omega)⟩
end Go.Proofs.YtpjenciplibdnaaGreatDoor
namespace Go.Proofs.YtpjenciplibdnaaGreatDoor
open Aml Go
end Go.Proofs.YtpjenciplibdnaaGreatDoor
namespace Go.Proofs.YtpjenciplibdnaaGreatDoor
open Aml Go
structure BT(k:Nat)(n:N):Prop where
 tb:TB k n
 tl:TL n
 nd:(bX n).Nodup
 qh:∀p,p∈bX n→2≤p∧p≤999
theorem AU{k:Nat}{n:N}(h:BT k n)(hk:k≤116):EY n:=by
 obtain⟨hr,d,hg,hd,ht⟩:=h.tb
 exact⟨h.tl,by omega,fun e he=>by have:=oW he (aw hg);omega⟩
theorem Tg{k:Nat}{n:N}{at_:List Int}(h:BT k n)(hm:oM n at_):BT k (bA n (at_,[])).1:=by
 obtain⟨hr,d,hg,hd,ht⟩:=h.tb
 have hn:=aw hg
 have hz:∀p,p∈at_→p≠0:=fun p hp=>by have:=hm.2.1 p (List.mem_append_left _ hp);omega
 have hfull:=tr (q:=(at_,[])) hn h.tl.laid hm.2.2 hz
 have hal:=De (q:=(at_,[])) hn hm.2.2 hz
 have hsub:(at_.take (dg n)++bX n).Sublist (at_++bX n):=(List.take_sublist _ _).append (List.Sublist.refl _)
 refine⟨⟨zE _ hr,d,pr _ hg,hd,by rw[N5 _ hn];exact ht⟩,⟨zE _ hr,vS (yT _ hn) hfull,fun e=>Classical.not_not.1 fun z=>(w9 (yT _ hn) hfull).1 z e⟩,?_,fun p hp=>?_⟩
 ·exact(hal.trans List.perm_append_comm).nodup_iff.2 (hm.1.sublist hsub)
 ·exact hm.2.1 p (hsub.subset ((hal.trans List.perm_append_comm).mem_iff.1 hp))
structure S19 where
 key:ByteArray
 size:Int
 lay:Bool
end Go.Proofs.YtpjenciplibdnaaGreatDoor
namespace Go.Proofs.YtpjenciplibdnaaGreatDoor
open Aml Go
end Go.Proofs.YtpjenciplibdnaaGreatDoor
namespace Go.Proofs.YtpjenciplibdnaaGreatDoor
open Aml Go
def zL(k:Nat)(q q':LS):Prop:=q'.1=q.1.drop k∧∃w:List (Int×ByteArray),q'.2=q.2++w∧w.map (·.1)=q.1.take k∧∀x,x∈w→x.2.size=128
theorem zL.none(q:LS):zL 0 q q:=⟨by simp,[],by simp,by simp,fun x hx=>by cases hx⟩
theorem zL.trans{k m:Nat}{q q1 q2:LS}(h:zL k q q1)(h':zL m q1 q2):zL (k+m) q q2:=by
 obtain⟨a1,w,a2,a3,a4⟩:=h
 obtain⟨b1,v,b2,b3,b4⟩:=h'
 exact⟨by rw[b1,a1,List.drop_drop],w++v,by rw[b2,a2,List.append_assoc],by rw[List.map_append,a3,b3,a1,List.take_add],fun x hx=>(List.mem_append.1 hx).elim (a4 x) (b4 x)⟩
theorem zL.ak{q:LS}{b:ByteArray}(hq:1≤q.1.length)(hb:b.size=128):zL 1 q (q.1.tail,q.2++[(q.1.headD 0,b)]):=by
 obtain⟨l,w⟩:=q
 cases l with
 |nil=>simp at hq
 |cons a l=>exact⟨rfl,[(a,b)],rfl,rfl,fun x hx=>by rw[List.mem_singleton.1 hx];exact hb⟩
theorem NU{z i:Nat}(h:i<need (z:Int)):119*i<z:=by
 unfold need at h
 split at h <;>omega
theorem zL.value(d:ByteArray)(ps:List Int)(q:LS)(hq:(if ps=[]then need (d.size:Int)else 0)≤q.1.length):zL (if ps=[]then need (d.size:Int)else 0) q (eY d ps q).2:=by
 unfold eY
 by_cases h:need (d.size:Int)=0∨ps≠[]
 ·rw[if_pos h]
  have:(if ps=[]then need (d.size:Int)else 0)=0:=by
   by_cases e:ps=[]
   ·rw[if_pos e];exact h.resolve_right fun f=>f e
   ·rw[if_neg e]
  rw[this];exact .none q
 ·rw[if_neg h]
  have hp:ps=[]:=Classical.not_not.1 fun e=>h (.inr e)
  rw[if_pos hp]at hq ⊢
  have hl:(q.1.take (need (d.size:Int))).length=need (d.size:Int):=by rw[List.length_take];omega
  refine⟨rfl,_,rfl,?_,fun x hx=>?_⟩
  ·refine List.map_fst_zip ?_
   unfold bu;rw[List.length_map,List.length_range];exact Nat.le_refl _
  ·have hx2:=(List.of_mem_zip (a:=x.1) (b:=x.2) hx).2
   unfold bu at hx2
   rw[hl]at hx2
   obtain⟨i,hi,e⟩:=List.mem_map.1 hx2
   rw[←e]
   refine jf 3 ?_
   have h1:=rO (v:=d) (at_:=q.1.take (need (d.size:Int))) (NU (List.mem_range.1 hi))
   unfold db
   rw[List.map_cons,List.map_nil,List.sum_cons,List.sum_nil,h1]
   unfold iD
   omega
theorem wj{b:Bool}:∀{l:List C} {q:LS},(∀c,c∈l→∀q':LS,jP b c≤q'.1.length→(∀x,x∈q'.1→x∈q.1)→zL (jP b c) q' (eX b c q').2)→gQ b l≤q.1.length→zL (gQ b l) q (ah b l q).2
 |[],q,_,_=>by simp only[ah,gQ,List.map_nil,List.sum_nil];exact .none q
 |c::l,q,h,hq=>by
  have e:gQ b (c::l)=jP b c+gQ b l:=by unfold gQ;rw[List.map_cons,List.sum_cons]
  rw[e]at hq ⊢
  have h1:=h c List.mem_cons_self q (by omega) fun x hx=>hx
  have hd:=h1.1
  simp only[ah]
  refine h1.trans (wj (fun c hc q' h2 h3=>h c (List.mem_cons_of_mem _ hc) q' h2 fun x hx=>?_) (by rw[hd,List.length_drop];omega))
  have:=h3 x hx
  rw[hd]at this
  exact List.mem_of_mem_drop this
theorem OW:∀{d:Nat} {kid:N},Good d kid→Fits kid→kid.leaf=true∨2≤kid.l.length
 |0,kid,hkg,_=> .inl hkg.1
 |d+1,kid,hkg,hkf=>by
  refine .inr ?_
  have h30:=hkf.1
  have hsz:=gY hkg
  unfold ae at h30 hsz
  match hm:kid.l with
  |[]=>rw[hm]at h30;simp at h30
  |[x]=>
   rw[hm]at h30 hsz
   have:=hsz _ (List.mem_map_of_mem List.mem_cons_self)
   simp only[List.map_cons,List.map_nil,List.sum_cons,List.sum_nil]at h30 this
   rw[if_neg (by omega)]at this
   omega
  |x::y::r=>simp
theorem Mr:∀(d:Nat) {n:N} {q:LS},Good d n→k7 n→(ae n).sum≤122→(n.leaf=true∨2≤n.l.length)→dg n≤q.1.length→(∀x,x∈q.1→2≤x∧x≤999)→(∀p,p∈bX n→2≤p∧p≤999)→zL (dg n) q (bA n q).2:=by
 have fin:∀(d:Nat) {n:N} {q:LS},Good d n→k7 n→(ae n).sum≤122→(n.leaf=true∨2≤n.l.length)→dg n≤q.1.length→(∀x,x∈q.1→2≤x∧x≤999)→(∀p,p∈bX n→2≤p∧p≤999)→
  (∀c,c∈n.l→∀q':LS,jP n.leaf c≤q'.1.length→(∀x,x∈q'.1→x∈q.1)→zL (jP n.leaf c) q' (eX n.leaf c q').2)→zL (dg n) q (bA n q).2:=by
  intro d n q hg hla hs h2 hf hr hp h
  have hn:=aw hg
  have h8:=vo (q:=q) hg hla hs h2 hf hr hp
  rw[eQ hn]at hf
  rw[dF,eQ hn]
  by_cases hz0:n.ak≠0
  ·rw[if_pos hz0,if_pos (show n.ak≠0∨(n.leaf=true∧n.l=[])from .inl hz0)];exact .none q
  ·rw[if_neg hz0]at hf
   rw[if_neg hz0]
   by_cases hz:n.leaf=true∧n.l=[]
   ·rw[if_pos hz,if_pos (show n.ak≠0∨(n.leaf=true∧n.l=[])from .inr hz)];exact .none q
   ·rw[if_neg hz]at hf
    rw[if_neg hz,if_neg (show¬(n.ak≠0∨(n.leaf=true∧n.l=[]))from fun e=>e.elim hz0 hz),Nat.add_comm]
    have hw:=wj (q:=q) h (by omega)
    refine hw.trans (zL.ak (by rw[hw.1,List.length_drop];omega) ?_)
    exact jf _ (h8 fun e=>e.elim hz0 hz).fits
 intro d
 induction d with
 |zero=>
  intro n q hg hla hs h2 hf hr hp
  refine fin 0 hg hla hs h2 hf hr hp fun c hc q' hq' _=>?_
  rw[hg.1]at hq' ⊢
  rw[cg]
  exact zL.value c.data c.ai q' hq'
 |succ d ih=>
  intro n q hg hla hs h2 hf hr hp
  refine fin (d+1) hg hla hs h2 hf hr hp fun c hc q' hq' hsub=>?_
  obtain⟨hsh,_,kid,hkid,hkg,hkf⟩:=hg.2.2.cell c hc
  have hrc:jP false c=dg kid:=by rw[←bl hkid];rfl
  have hal:∀p,p∈bX kid→p∈bX n:=fun p hp=>by
   rw[fg n,hg.1]
   exact List.mem_append_right _ (List.mem_flatMap.2 ⟨c,hc,by rw[fy hkid];exact List.mem_append_right _ hp⟩)
  rw[hg.1]at hq' ⊢
  rw[hrc]at hq' ⊢
  rw[df hkid]
  refine ih hkg ?_ hkf.2 (OW hkg hkf) hq' (fun x hx=>hr x (hsub x hx)) fun p h=>hp p (hal p h)
  cases hla with|mk _ _ _ h3=>exact h3 hg.1 c hc kid hkid
theorem XJ{k:Nat}{n:N}{at_:List Int}(h:BT k n)(hm:oM n at_):(bA n (at_,[])).2.1=at_.drop (dg n)∧(bA n (at_,[])).2.2.map (·.1)=at_.take (dg n)∧∀x,x∈(bA n (at_,[])).2.2→x.2.size=128:=by
 obtain⟨d,hg,hs,h2⟩:=h.tl.root
 obtain⟨a1,w,a2,a3,a4⟩:=Mr d (q:=(at_,[])) hg h.tl.laid hs h2 hm.2.2 (fun x hx=>hm.2.1 x (List.mem_append_left _ hx)) fun x hx=>hm.2.1 x (List.mem_append_right _ hx)
 rw[List.nil_append]at a2
 rw[a2]
 exact⟨a1,a3,a4⟩
end Go.Proofs.YtpjenciplibdnaaGreatDoor
