/-
  A laid tree stands on pages: plain laws; Views laid on pages: plain laws; Numbers and texts as bytes, rows of bytes put together: what the program computes; Sums of bytes by a table: what the program computes is what the reference does; Pages of cells: what the program computes is the reference's page; Nodes as pages: what the program computes is the reference's; Long values as pages: what the program computes is the reference's; A value laid over pages: what the program computes is the reference's; Values laid on pages: what the program computes is the reference's; A tree laid on pages: what the reference computes; What stands on a node's page: what the program computes is the reference's; Values and nodes laid one by one: what the program computes is the reference's; A tree laid on pages: what the program computes is the reference's; Whether a tree may be: what the reference computes; Whether a tree may be, whole: what the reference computes; Whether a tree may be laid, and the laid one: what the reference computes; How far a tree's leaves are; whether it may be: what the program computes; Whether a tree may be laid, and the laid one: what the program computes is the reference's; Whether a tree may be laid, and the laid one, whatever pages are given: what the reference computes; The law's trees, as the program has them, of the reference's, and back; pages that a tree hasn't; The law's trees back as the reference has them; What is the same is the same: what the program computes; The reference's views: what it computes; A good tree's copy is itself; the law's helpers, of trees that steps come to; The law's trees behind steps: what they are; The law's guard against a dead program; What is written when a tree is laid: the pages that are taken, in order, each of 128 bytes; A tree of steps, laid on pages: all that is known of it. By an AI agent.
-/
import Derived.Test.YtpjenciplibdnaaGreatDoorMO6
import Derived.Test.YtpjenciplibdnaaGreatDoorMO5
set_option linter.unusedVariables false
set_option linter.unusedSimpArgs false
set_option maxRecDepth 100000
set_option maxHeartbeats 16000000
namespace Go.Proofs.YtpjenciplibdnaaGreatDoor
open Aml Go
structure Vc(b:Bool)(l:List C):Prop where
 ok:∀e,e∈l.map (dV b)→Nb b e
 bQ:(l.map (dV b)).Pairwise fun x y=>cH x.key y.key=true
 first:∀(i:Nat) e,(l.map (dV b))[i]? =some e→(e.key=aJ↔i=0∧b=false)
 fits:bO ((l.map (dV b)).map (eH b))≤122
 many:1<(l.map (dV b)).length∨(b=true∧(l.map (dV b)).length=1)
theorem o9(b:Bool)(c:C):(dV b c).key=c.key:=by
 unfold dV
 split
 ·split <;>rfl
 ·rfl
theorem vn{c:C}(h:YN c)(hf:c.ak.length=fA c.data.size):(((eH true (dV true c)).size+1:Nat):Int)=aW true c:=by
 rw[oH,o9]
 have h3:=h.2.2.1
 have hn:=qZ h3
 by_cases hp:c.ak=[]
 ·have h0:fA c.data.size=0:=by rw[←hf,hp];rfl
  have e:dV true c=⟨c.key,c.data,false,0,0⟩:=by unfold dV;rw[if_pos rfl,if_pos hp]
  rw[e]
  unfold aW
  simp only[if_true,Bool.false_eq_true,if_false]
  rw[if_neg (by rw[hn,h0];omega)]
  omega
 ·have h0:fA c.data.size≠0:=by rw[←hf];exact fun e=>hp (List.eq_nil_of_length_eq_zero e)
  have e:dV true c=⟨c.key,aJ,true,c.data.size,c.ak.headD 0⟩:=by unfold dV;rw[if_pos rfl,if_neg hp]
  rw[e]
  unfold aW
  simp only[if_true]
  rw[if_pos (.inl (by rw[hn];omega))]
  omega
theorem Al(c:C):(((eH false (dV false c)).size+1:Nat):Int)=aW false c:=by
 rw[oH,o9]
 unfold aW
 simp only[Bool.false_eq_true,if_false]
 omega
theorem E0{b:Bool}:∀{l:List C},(∀c,c∈l→(((eH b (dV b c)).size+1:Nat):Int)=aW b c)→((bO ((l.map (dV b)).map (eH b)):Nat):Int)=(l.map (aW b)).sum
 |[],_=>rfl
 |c::l,h=>by
  have h1:=h c List.mem_cons_self
  have h2:=E0 (l:=l) fun c hc=>h c (List.mem_cons_of_mem _ hc)
  unfold bO at h2 ⊢
  rw[List.map_cons,List.map_cons,List.map_cons,List.sum_cons,List.map_cons,List.sum_cons,←h1,←h2]
  omega
theorem Nq{d:Nat}{n:N}(hg:Good d n)(hf:nS n)(hp:∀p,p∈cf n→2≤p∧p≤999)(hs:(ae n).sum≤122)(hne:n.l≠[])(h2:n.leaf=true∨2≤n.l.length):Vc n.leaf n.l:=by
 have hk:=p9 hg (lo:=aJ) (hi:=aJ) (fun x _=>ot _) (fun e=>absurd rfl e)
 have hpos:=List.length_pos_iff.2 hne
 refine⟨fun e he=>?_,?_,fun i e he=>?_,?_,?_⟩
 ·obtain⟨c,hc,rfl⟩:=List.mem_map.1 he
  cases d with
  |zero=>
   obtain⟨w1,w2,w3,w4,w5,w6⟩:=hg.2.2 c hc
   rw[fN]at hp
   rw[hg.1]at hp ⊢
   refine Jn w2 w3 ?_ fun p h=>hp p (List.mem_append_right _ (List.mem_flatMap.2 ⟨c,hc,by rw[kS];exact h⟩))
   cases hf with
   |leaf p l _ hh=>exact hh c hc
   |br p l _ _=>cases hg.1
  |succ d=>
   obtain⟨⟨w1,w2,w3⟩,_,k,hkid,hgk,hfk⟩:=hg.2.2.cell c hc
   rw[fN]at hp
   rw[hg.1]at hp ⊢
   have hfull:nS k:=by
    cases hf with
    |leaf p l _ _=>cases hg.1
    |br p l _ hh=>exact hh c hc k hkid
   have hkp:=(wG (az hgk) hfull).2 (oT hfk)
   exact Ui w1 hkid (hp _ (List.mem_append_right _ (List.mem_flatMap.2 ⟨c,hc,by rw[fJ hkid];exact List.mem_append_right _ (xm hkp)⟩)))
 ·rw[List.pairwise_map]
  exact hk.bQ.imp fun{a b} h=>by rw[o9,o9];exact h
 ·rw[List.getElem?_map]at he
  cases hc:n.l[i]? with
  |none=>rw[hc]at he;cases he
  |some c=>
   rw[hc]at he
   cases he
   rw[o9]
   exact hk.first i c hc
 ·have:((bO ((n.l.map (dV n.leaf)).map (eH n.leaf)):Nat):Int)=(n.l.map (aW n.leaf)).sum:=E0 fun c hc=>by
   cases d with
   |zero=>
    rw[hg.1]
    refine vn (hg.2.2 c hc) ?_
    cases hf with
    |leaf p l _ hh=>exact hh c hc
    |br p l _ _=>cases hg.1
   |succ d=>rw[hg.1];exact Al c
  have:(ae n).sum=(n.l.map (aW n.leaf)).sum:=rfl
  omega
 ·rw[List.length_map]
  rcases h2 with h|h
  ·by_cases h1:n.l.length=1
   ·exact .inr ⟨h,h1⟩
   ·exact .inl (by omega)
  ·exact .inl (by omega)
theorem E2(d:ByteArray)(ps:List Int)(q:LS):(eX d ps q).2.2.length≤q.2.length+(if ps=[]then need (d.size:Int)else 0):=by
 unfold eX
 split
 ·show q.2.length≤_;omega
 ·rename_i h
  rw[if_pos (Classical.not_not.1 fun e=>h (.inr e))]
  show(q.2++_).length≤_
  rw[List.length_append,List.length_zip,List.length_take]
  omega
theorem kZ{b:Bool}:∀{l:List C} {q:LS},(∀c,c∈l→∀q:LS,(eU b c q).2.2.length≤q.2.length+ko b c)→(ah b l q).2.2.length≤q.2.length+gP b l
 |[],q,_=>by simp[ah,gP]
 |c::l,q,h=>by
  have h1:=h c List.mem_cons_self q
  have h2:=kZ (l:=l) (q:=(eU b c q).2) fun c hc=>h c (List.mem_cons_of_mem _ hc)
  have e:gP b (c::l)=ko b c+gP b l:=by unfold gP;rw[List.map_cons,List.sum_cons]
  simp only[ah]
  omega
theorem Om:∀{d:Nat} {n:N} {q:LS},Nd d n→(bq n q).2.2.length≤q.2.length+dG n:=by
 have fin:∀{d:Nat} {n:N} {q:LS},Nd d n→(∀c,c∈n.l→∀q:LS,(eU n.leaf c q).2.2.length≤q.2.length+ko n.leaf c)→(bq n q).2.2.length≤q.2.length+dG n:=by
  intro d n q hn h
  rw[dJ,fv hn]
  by_cases hp:n.aq≠0
  ·rw[if_pos (.inl hp),if_pos hp];exact Nat.le_refl _
  ·rw[if_neg hp]
   by_cases hz:n.leaf=true∧n.l=[]
   ·rw[if_pos (.inr hz),if_pos hz];exact Nat.le_refl _
   ·rw[if_neg (fun e=>e.elim hp hz),if_neg hz]
    show((ah n.leaf n.l q).2.2++[_]).length≤_
    have:=kZ (q:=q) h
    rw[List.length_append,List.length_singleton]
    omega
 intro d
 induction d with
 |zero=>
  intro n q hn
  refine fin hn fun c hc q=>?_
  rw[hn.1,bX]
  exact E2 c.data c.ak q
 |succ d ih=>
  intro n q hn
  refine fin hn fun c hc q=>?_
  obtain⟨_,k,hk,hnd⟩:=hn.2.2 c hc
  rw[hn.1,dg hk]
  have:ko false c=dG k:=by rw[←bx hk];rfl
  rw[this]
  exact ih hnd
theorem EG{d:Nat}{n:N}(hn:Nd d n):∀c,c∈n.l→∀q:LS,(eU n.leaf c q).2.2.length≤q.2.length+ko n.leaf c:=fun c hc q=>by
 cases d with
 |zero=>
  rw[hn.1,bX]
  exact E2 c.data c.ak q
 |succ d=>
  obtain⟨_,k,hk,hnd⟩:=hn.2.2 c hc
  rw[hn.1,dg hk,show ko false c=dG k by rw[←bx hk];rfl]
  exact Om hnd
theorem vC:∀{d:Nat} {n:N} (q:LS),Nd d n→(∀x,x∈di n→x.data.size≤16)→di (bq n q).1=di n
 |0,n,q,hn,hs=>by
  rcases dX n q with e|e
  ·rw[e]
  ·rw[cM hn.1]at hs
   rw[cM hn.1,cM (by rw[ed];exact hn.1),e,hn.1]
   have:∀(l:List C) (q:LS),(∀c,c∈l→c.data.size≤16)→(ah true l q).1=l:=fun l=>by
    induction l with
    |nil=>intro q _;rfl
    |cons c l ih=>
     intro q h
     have h0:need (c.data.size:Int)=0:=by have:=h c List.mem_cons_self;unfold need;rw[if_neg (by omega)]
     have h1:(eU true c q).1=c:=by
      rw[bX]
      unfold eX
      rw[if_pos (.inl h0)]
      cases c;rfl
     simp only[ah]
     rw[ih _ fun c hc=>h c (List.mem_cons_of_mem _ hc),h1]
   exact this _ _ hs
 |d+1,n,q,hn,hs=>by
  rcases dX n q with e|e
  ·rw[e]
  ·rw[cF,hn.1]at hs
   rw[cF,cF n,ed,e,hn.1]
   have:∀(l:List C) (q:LS),(∀c,c∈l→c∈n.l)→(ah false l q).1.flatMap (ja false)=l.flatMap (ja false):=by
    intro l
    induction l with
    |nil=>intro q _;rfl
    |cons c l ih=>
     intro q hl
     obtain⟨hsh,k,hk,hnd⟩:=hn.2.2 c (hl c List.mem_cons_self)
     simp only[ah,List.flatMap_cons]
     rw[ih _ fun c hc=>hl c (List.mem_cons_of_mem _ hc),dg hk,bf (k:=(bq k q).1) rfl,bf hk,vC q hnd fun x hx=>hs x (List.mem_flatMap.2 ⟨c,hl c List.mem_cons_self,by rw[bf hk];exact hx⟩)]
   exact this n.l q fun _ h=>h
def p7(l:List C):Nat:=(l.map fun c=>dG (aA c)).sum
def eJ(q:N×List C):Nat:=dG q.1+p7 q.2
def pZ(l:List C):List Int:=l.flatMap fun c=>cf (aA c)
def gO(q:N×List C):List Int:=cf q.1++pZ q.2
theorem Lu(l:List C)(c:C):p7 (l++[c])=p7 l+dG (aA c):=by simp[p7]
theorem Lc(l:List C)(k:Nat):p7 (l.take k)≤p7 l:=by
 have:=congrArg p7 (List.take_append_drop k l)
 simp only[p7,List.map_append,List.sum_append]at this ⊢
 omega
structure TL(n:N):Prop where
 root:gQ n
 laid:k8 n
 pz:PZ n
theorem sY{n:N}(h:TL n):∃d,Nd d n:=let⟨d,h1,_⟩:=h.root;⟨d,az h1⟩
structure TV(q:N×List C):Prop where
 dir:TL q.1
 cell:∀c,c∈q.2→TL (aA c)
structure BI(k:Nat)(q o:N×List C)(f:Int):Prop where
 v:VI k q.1 q.2
 w:VI k o.1 o.2
 tv:TV q
 f0:eJ o=0
 sub:∀p,(gO q).count p≤(gO o).count p
 one:∀p,(gO o).count p≤1
 re:∀p,p∈gO o→2≤p∧p<f
 lo:2≤f
 hi:f≤1000
theorem N9{k m:Nat}{q o:N×List C}{f:Int}(h:BI k q o f)(hm:k≤m):BI m q o f:=⟨fD h.v hm,fD h.w hm,h.tv,h.f0,h.sub,h.one,h.re,h.lo,h.hi⟩
theorem xx{n:N}{key val:ByteArray}(h:TL n)(h0:key≠aJ)(h1:key.size≤16)(h2:val.size≤400):TL (k7 key val n):=by
 obtain⟨d,hn⟩:=sY h
 exact⟨(kJ h0 h1 h2 h.root).1,GP uL h1 h2 (.inl rfl) hn h.laid,RT h.root h0 h1 h2⟩
theorem I3{n:N}{key:ByteArray}(h:TL n):TL (l9 key n):=by
 obtain⟨d,hn⟩:=sY h
 exact⟨(pn key h.root).1,Gd uL hn h.laid,Sc h.root h.pz⟩
theorem BZ{n:N}{key val:ByteArray}(h:TL n)(h1:key.size≤16)(h2:val.size≤400)(p:Int):(cf (k7 key val n)).count p≤(cf n).count p:=by
 obtain⟨d,hn⟩:=sY h
 exact TS h1 h2 p hn
theorem Lb{n:N}{key:ByteArray}(h:TL n)(p:Int):(cf (l9 key n)).count p≤(cf n).count p:=by
 obtain⟨d,hn⟩:=sY h
 exact Tm p hn
theorem yK{k:Nat}{q o q':N×List C}{f:Int}(h:BI k q o f)(h1:VI (k+1) q'.1 q'.2)(h2:TV q')(h3:∀p,(gO q').count p≤(gO q).count p):BI (k+1) q' o f:=
 ⟨h1,fD h.w (by omega),h2,h.f0,fun p=>Nat.le_trans (h3 p) (h.sub p),h.one,h.re,h.lo,h.hi⟩
theorem oP(l m:List C):pZ (l++m)=pZ l++pZ m:=by unfold pZ;rw[List.flatMap_append]
theorem Vg{k:Nat}{q o:N×List C}{f:Int}(h:BI k q o f)(hk:k≤116)(name:ByteArray):BI (k+1) (mG name q.1 q.2).1 o f:=by
 have hv:=J8 h.v hk name
 refine yK h hv ?_ ?_ <;>clear hv
 all_goals
  unfold mG
  cases hok:gl name with
  |false=>first|exact h.tv|exact fun p=>Nat.le_refl _
  |true=>
   cases hh:dH q.2 name with
   |true=>first|exact h.tv|exact fun p=>Nat.le_refl _
   |false=>
    obtain⟨hne,hsz⟩:=dt hok
    simp only[if_true,if_false,Bool.false_eq_true]
    first
    |refine⟨xx h.tv.dir hne hsz (by decide),fun c hc=>?_⟩
     rw[List.append_assoc]at hc
     rcases List.mem_append.1 hc with hc|hc
     ·exact h.tv.cell c (List.mem_of_mem_take hc)
     ·rcases List.mem_append.1 hc with hc|hc
      ·rw[List.mem_singleton]at hc;subst hc;exact⟨xk,tU,Rv⟩
      ·exact h.tv.cell c (List.mem_of_mem_drop hc)
    |intro p
     have a:=BZ (key:=name) (val:=Ak) h.tv.dir hsz (by decide) p
     have b:=congrArg (fun l=>(pZ l).count p) (List.take_append_drop (bd q.2 name) q.2)
     simp only[gO,oP,List.count_append]at b ⊢
     have e:(pZ [af name l5]).count p=0:=by show List.count p []=0;simp
     omega
theorem U5{k:Nat}{q o:N×List C}{f:Int}(h:BI k q o f)(hk:k≤116)(name:ByteArray):BI (k+1) (wQ name q.1 q.2).1 o f:=by
 have hv:=QD h.v hk name
 refine yK h hv ?_ ?_ <;>clear hv
 all_goals
  unfold wQ
  cases hh:dH q.2 name with
  |false=>first|exact h.tv|exact fun p=>Nat.le_refl _
  |true=>
   simp only[if_true]
   first
   |refine⟨I3 h.tv.dir,fun c hc=>?_⟩
    rcases List.mem_append.1 hc with hc|hc
    ·exact h.tv.cell c (List.mem_of_mem_take hc)
    ·exact h.tv.cell c (List.mem_of_mem_drop hc)
   |intro p
    have a:=Lb (key:=name) h.tv.dir p
    have b:=congrArg (fun l=>(pZ l).count p) (List.take_append_drop (bd q.2 name) q.2)
    have c:(pZ (q.2.drop (bd q.2 name+1))).count p≤(pZ (q.2.drop (bd q.2 name))).count p:=by
     rw[←List.drop_drop]
     have:=congrArg (fun l=>(pZ l).count p) (List.take_append_drop 1 (q.2.drop (bd q.2 name)))
     simp only[oP,List.count_append]at this
     omega
    simp only[gO,oP,List.count_append]at b ⊢
    omega
theorem QU{k:Nat}{q o:N×List C}{f:Int}(h:BI k q o f)(hk:k≤116)(name:ByteArray)(g:N→N×Int)(hg:∀t,TB k t→TB (k+1) (g t).1)(ht:∀t,TL t→TL (g t).1)(hp:∀t,TL t→∀p,(cf (g t).1).count p≤(cf t).count p):BI (k+1) (uU name g q.1 q.2).1 o f:=by
 have hv:=Q6 h.v hk name g hg
 refine yK h hv ?_ ?_ <;>clear hv
 all_goals
  unfold uU
  cases hh:dH q.2 name with
  |false=>first|exact h.tv|exact fun p=>Nat.le_refl _
  |true=>
   obtain⟨c,hc,hck⟩:=CE hh
   have hm:=List.mem_of_getElem? hc
   obtain⟨hne,hsz⟩:=dt (h.v.cell c hm).2.2
   rw[hck]at hne hsz
   simp only[if_true,hc]
   split
   ·first
    |refine⟨xx h.tv.dir hne hsz (by decide),fun x hx=>?_⟩
     rcases List.mem_or_eq_of_mem_set hx with hx|rfl
     ·exact h.tv.cell x hx
     ·exact ht _ (h.tv.cell c hm)
    |intro p
     have a:=BZ (key:=name) (val:=Ak) h.tv.dir hsz (by decide) p
     have b:=hp _ (h.tv.cell c hm) p
     obtain⟨hlt,he⟩:=List.getElem?_eq_some_iff.1 hc
     have e1:q.2.set (bd q.2 name) (af c.key (g (aA c)).1)=q.2.take (bd q.2 name)++af c.key (g (aA c)).1::q.2.drop (bd q.2 name+1):=List.set_eq_take_append_cons_drop.trans (if_pos hlt)
     have e2:q.2=q.2.take (bd q.2 name)++c::q.2.drop (bd q.2 name+1):=by
      rw[←he,←List.drop_eq_getElem_cons hlt,List.take_append_drop]
     have e3:∀(x:C) (A B:List C),(pZ (A++x::B)).count p=(pZ A).count p+(cf (aA x)).count p+(pZ B).count p:=fun x A B=>by
      unfold pZ
      rw[List.flatMap_append,List.flatMap_cons,List.count_append,List.count_append]
      omega
     have e4:=congrArg (fun l=>(pZ l).count p) e2
     simp only[e3]at e4
     simp only[gO,List.count_append]
     rw[e1,e3,wi]
     omega
   ·first|exact h.tv|exact fun p=>Nat.le_refl _
theorem QH{k:Nat}{q o:N×List C}{f:Int}(h:BI k q o f)(hk:k≤116)(name key val:ByteArray):BI (k+1) (sc name key val q.1 q.2).1 o f:=by
 unfold sc
 split
 ·rename_i hc
  simp only[Bool.and_eq_true,decide_eq_true_eq]at hc
  obtain⟨hne,hsz⟩:=dt hc.1
  exact QU h hk name _ (fun t ht=>tB ht hk hne hsz hc.2) (fun t ht=>xx ht hne hsz hc.2) fun t ht p=>BZ ht hsz hc.2 p
 ·exact N9 h (by omega)
theorem WK{k:Nat}{q o:N×List C}{f:Int}(h:BI k q o f)(hk:k≤116)(name key:ByteArray):BI (k+1) (Nr name key q.1 q.2).1 o f:=by
 refine QU h hk name _ (fun t ht=>?_) (fun t ht=>?_) fun t ht p=>?_
 ·split
  ·exact DY ht hk
  ·exact lz ht (by omega)
 ·split
  ·exact I3 ht
  ·exact ht
 ·split
  ·exact Lb ht p
  ·exact Nat.le_refl _
def bY(s:ByteArray):List DV:=s.data.toList.map fun c=> .v (.int .u8 c.toNat)
theorem bg(s:ByteArray):(bY s).length=s.size:=by unfold bY;rw[List.length_map];rfl
theorem cP(a b:ByteArray):bY (a++b)=bY a++bY b:=by
 unfold bY
 rw[←List.map_append]
 congr 1
theorem mz(x:Int)(h0:0≤x)(h1:x≤255):bY (strOfNums [x])=[.v (.int .u8 x)]:=by
 have e:bY (strOfNums [x])=[.v (.int .u8 ((UInt8.ofNat x.toNat).toNat:Nat))]:=rfl
 rw[e]
 have:(UInt8.ofNat x.toNat).toNat=x.toNat:=by
  rw[UInt8.toNat_ofNat'];omega
 rw[this]
 congr 4
 omega
@[go_sem] def fC (s:ByteArray):DV:= .sl 1 false (bY s)
theorem E3:∀(i:Nat) (x:Int),0≤x→x<18446744073709551616→iw i x=x.fdiv (2^(8*i))∧0≤iw i x∧iw i x<18446744073709551616
 |0,x,h0,h1=>⟨by simp[iw],h0,h1⟩
 |i+1,x,h0,h1=>by
  obtain⟨e,a,b⟩:=E3 i x h0 h1
  have e1:(iw i x).tdiv 256=iw i x/256:=Int.tdiv_eq_ediv_of_nonneg a
  have hw:IntKind.u64.wrap (iw i x/256)=iw i x/256:=gJ (by omega) (by omega)
  rw[iw,e1,hw]
  refine⟨?_,by omega,by omega⟩
  rw[e,Int.fdiv_eq_ediv_of_nonneg _ (Int.le_of_lt (Int.pow_pos (by decide))),Int.fdiv_eq_ediv_of_nonneg _ (Int.le_of_lt (Int.pow_pos (by decide))),Int.ediv_ediv_of_nonneg (Int.le_of_lt (Int.pow_pos (by decide))),show(8*(i+1))=8*i+8 by omega,Int.pow_add]
  rfl
theorem tx(w0:W0)(x:Int)(k:Nat)(S:St)(h0:1≤k)(h1:k≤8)(hx:0≤x)(hx2:x<18446744073709551616):aa Tryz.prog w0 81 [dU x,dI k] S (fun d S'=>d=fC (aC k x)∧S'=S):=by
 refine aZ [] mx Tryz.func81 rfl rfl (by kernel_rfl) ?_;simp(maxDischargeDepth:=12) (maxSteps:=1000000) -implicitDefEqProofs only[Tryz.ntmps81,go_sem,Nat.reduceAdd,Nat.reduceSub,Nat.reduceMul,Nat.reduceLeDiff,Nat.reduceEqDiff,Nat.reduceGT,Nat.reduceBEq,reduceCtorEq,↓reduceIte,Int.reduceToNat,Int.reduceLE,Int.reduceLT,Int.reduceNe,Int.reduceEq]
 refine⟨fun h=>absurd h (by omega),fun _=>⟨fun h=>absurd h (by omega),fun _=>?_⟩⟩
 refine⟨by omega,by omega,fun b=>?_⟩
 refine aF [] k [0,1,5,16,17] (fun i=>[(17,dI i)]) (fun i=>⟨S.box,(b.n,.arr 1 (List.replicate (k-i) (.v (.int .u8 0))++bY (aC i x)))::S.acc⟩) (fun _=>True) mx (by kernel_rfl) ?_ ?_
 ·have e0:bY (aC 0 x)=[]:=rfl
  simp(maxDischargeDepth:=12) (maxSteps:=1000000) -implicitDefEqProofs only[go_sem,Nat.reduceAdd,Nat.reduceSub,Nat.reduceMul,Nat.reduceLeDiff,Nat.reduceEqDiff,Nat.reduceGT,Nat.reduceBEq,reduceCtorEq,↓reduceIte,Int.reduceToNat,Int.reduceLE,Int.reduceLT,Int.reduceNe,Int.reduceEq,e0,Nat.sub_zero,List.append_nil]
 ·intro i hi _
  have hs:=bg (aC i x)
  rw[av]at hs
  have e2:IntKind.i64.wrap ((i:Int)+1)=((i+1:Nat):Int):=by rw[aX (by omega) (by omega)];omega
  have e3:IntKind.i64.wrap (8*(i:Int))=8*i:=aX (by omega) (by omega)
  have e4:IntKind.i64.wrap ((k:Int)-1)=(k:Int)-1:=aX (by omega) (by omega)
  have e5:IntKind.i64.wrap ((k:Int)-1-i)=(k:Int)-1-i:=aX (by omega) (by omega)
  simp(maxDischargeDepth:=12) (maxSteps:=1000000) -implicitDefEqProofs only[go_sem,Nat.reduceAdd,Nat.reduceSub,Nat.reduceMul,Nat.reduceLeDiff,Nat.reduceEqDiff,Nat.reduceGT,Nat.reduceBEq,reduceCtorEq,↓reduceIte,Int.reduceToNat,Int.reduceLE,Int.reduceLT,Int.reduceNe,Int.reduceEq,hs,e3,e4,e5]
  have hl:(List.replicate (k-i) (DV.v (.int .u8 0))).length+i=k:=by rw[List.length_replicate];omega
  refine⟨fun hlt=>⟨by omega,by omega,by omega,hl,?_⟩,fun hge=>⟨hl,?_⟩⟩
  ·have ej:((k:Int)-1-i).toNat=k-1-i:=by omega
   have dE:(List.replicate (k-i) (DV.v (.int .u8 0))++bY (aC i x)).set ((k:Int)-1-i).toNat (.v (.int .u8 (IntKind.u8.wrap (x.fdiv (2^min (8*(i:Int)).toNat 64)))))=List.replicate (k-(i+1)) (DV.v (.int .u8 0))++bY (aC (i+1) x):=by
    have hx1:x.fdiv (2^min (8*(i:Int)).toNat 64)=iw i x:=by
     rw[(E3 i x hx hx2).1]
     congr 2
     omega
    have h8:bY (aC (i+1) x)= .v (.int .u8 (IntKind.u8.wrap (iw i x)))::bY (aC i x):=by
     have hb:0≤IntKind.u8.wrap (iw i x)∧IntKind.u8.wrap (iw i x)≤255:=by
      have e:IntKind.u8.wrap (iw i x)=iw i x%256:=rfl
      rw[e]
      have:=Int.emod_nonneg (iw i x) (by decide:(256:Int)≠0)
      have:=Int.emod_lt_of_pos (iw i x) (by decide:(0:Int)<256)
      omega
     rw[aC,cP,mz _ hb.1 hb.2];rfl
    rw[hx1,h8,ej,show k-i=(k-(i+1))+1 by omega,List.replicate_succ',List.append_assoc,show k-1-i=k-(i+1)by omega]
    rw[List.set_append_right _ _ (by rw[List.length_replicate];exact Nat.le_refl _),List.length_replicate,Nat.sub_self]
    rfl
   rw[dE]
   refine⟨.v (.int .u8 0),?_,rfl,hlt,e2,.refl _⟩
   rw[ej,List.getElem?_append_left (by rw[List.length_replicate];omega),List.getElem?_replicate,if_pos (by omega)]
  ·have:k-i=0:=by omega
   rw[this,show i=k by omega]
   exact .refl _
theorem RE(w0:W0)(x:Int)(S:St)(hx:0≤x)(hx2:x<65536):aa Tryz.prog w0 299 [dI x] S (fun d S'=>d=fC (aC 2 x)∧S'=S):=by
 have e:IntKind.u64.wrap x=x:=gJ (by omega) (by omega)
 refine aZ [] mx Tryz.func299 rfl rfl (by kernel_rfl) ?_;(refine @ab _ ?_;refine an @Tryz.ntmps299 ?_)
 (refine @ab _ ?_;refine an @e ?_)
 refine ao (tx w0 x 2 _ (by decide) (by decide) hx (by omega)) ?_
 (refine @ab _ ?_;exact aV)
theorem Jh(w0:W0)(l:List ByteArray)(S:St)(h:bO l≤1048576)(hl:l.length≤1048576):aa Tryz.prog w0 139 [.sl 1 false (l.map fC)] S (fun d S'=>d=dI (bO l)∧S'=S):=by
 refine aZ [] mx Tryz.func139 rfl rfl (by kernel_rfl) ?_;(refine @ab _ ?_;refine an @Tryz.ntmps139 ?_)
 have hll:=sH l
 have hsl:∀k,((l.take k).map fun s=>s.size).sum+(l.take k).length=bO (l.take k):=fun k=>by
  induction l.take k with
  |nil=>rfl
  |cons a m ih=>simp only[bO,List.map_cons,List.sum_cons,List.length_cons]at *;omega
 refine aF [] l.length [3,8,9,10] (fun k=>[(3,dI ((l.length+((l.take k).map fun s=>s.size).sum:Nat):Int)),(10,dI k)]) (fun _=>S) (fun _=>True) mx (by kernel_rfl) ?_ ?_
 ·(refine @ab _ ?_;refine au ?_)
  simp
 ·intro k hk _
  have h1:=hsl k
  have h2:=eM l k
  have h4:=eM l (k+1)
  have h5:=hsl (k+1)
  (refine @ab _ ?_;refine au ?_)
  refine⟨fun hlt=>⟨hlt,fun s hs=>?_⟩,fun hge=>?_⟩
  ·have h3:((l.take (k+1)).map fun s=>s.size).sum=((l.take k).map fun s=>s.size).sum+s.size:=by rw[List.take_add_one,hs];simp
   have hb:=bg s
   rw[hb,h3]
   exact⟨hlt,by rw[aX (by omega) (by omega)];omega,by rw[aX (by omega) (by omega)];omega⟩
  ·have:=hsl l.length
   rw[List.take_of_length_le (Nat.le_refl _)]at this
   rw[List.take_of_length_le (by omega)]
   omega
theorem RS(w0:W0)(n:Int)(S:St)(h0:0≤n)(h1:n≤1099511627776):aa Tryz.prog w0 274 [.sl 0 true [],dI n] S (fun d S'=>∃l:FN S.acc,d= .acc l.n 0∧S'=⟨S.box,(l.n,.arr 1 [])::S.acc⟩):=by
 refine gU (K':=fun d S'=>(d= .sl 0 true []∧S'=S)∨∃l:FN S.acc,d= .acc l.n 0∧S'=⟨S.box,(l.n,.arr 1 [])::S.acc⟩) ?_ 1 (by omega) ?_
 ·refine mf [] mx Tryz.func274 rfl rfl (by kernel_rfl) ?_;(refine @ab _ ?_;refine an @Tryz.ntmps274 ?_)
  have e1:IntKind.i64.wrap (0-0)=0:=aX (by omega) (by omega)
  rw[e1,Int.sub_zero,aX (by omega) (by omega)]
  refine⟨fun h=>by omega,fun h h2=>⟨by omega,by omega,by omega,fun l=> .inl ⟨⟨_,_,_,rfl⟩,by simp,fun l'=>⟨⟨l'.n,l'.h.2.2⟩,rfl,rfl⟩⟩⟩⟩
 ·rintro d S' (⟨rfl,rfl⟩|h)
  ·exact .inr ⟨⟨0,rfl⟩,fun l hl=>⟨⟨l,hl⟩,rfl,rfl⟩⟩
  ·exact .inl h
theorem Ma(w0:W0)(rows:List (List DV))(S:St)(h0:rows.length≤1099511627776)(h1:(fl rows).length≤1048576):
 aa Tryz.prog w0 268 [.sl 1 false (rows.map (dR 1))] S (fun d S'=>d=dR 1 (fl rows)∧S'=S):=by
 refine aZ [] mx Tryz.func268 rfl rfl (by kernel_rfl) ?_;(refine @ab _ ?_;refine an @Tryz.ntmps268 ?_)
 refine aF [] rows.length [0,3,9,10,11] (fun k=>[(3,dI (fl (rows.take k)).length),(11,dI k)]) (fun _=>S) (fun k=>True) mx (by kernel_rfl) ?_ ?_
 ·(refine @ab _ ?_;refine au ?_)
  simp[fl]
 ·intro k hk _
  (refine @ab _ ?_;refine au ?_)
  refine⟨fun hlt=>⟨hlt,fun a ha=>?_⟩,fun hge=>?_⟩
  ·have h2:=j8 ha
   have h3:=rA rows (k+1)
   rw[h2,List.length_append]at h3
   rw[aX (by omega) (by omega)]
   refine⟨fun h=>by omega,fun h=>⟨hlt,?_,aX (by omega) (by omega)⟩⟩
   rw[h2,List.length_append];omega
  ·rw[List.take_of_length_le (by omega)]
   refine bA (RS w0 (fl rows).length S (by omega) (by omega)) ?_
   rintro d S' ⟨l,rfl,rfl⟩
   (refine @ab _ ?_;refine au ?_)
   refine aF [] rows.length [6,25,26,27] (fun k=>[(6,.acc l.n (fl (rows.take k)).length),(27,dI k)]) (fun k=>⟨S.box,(l.n,.arr 1 (fl (rows.take k)))::S.acc⟩) (fun k=>True) mx (by kernel_rfl) ?_ ?_
   ·(refine @ab _ ?_;refine au ?_)
    simp[fl,Wk.refl,Sub.refl]
   ·intro k hk _
    (refine @ab _ ?_;refine au ?_)
    refine⟨fun hlt=>⟨hlt,fun a ha=>?_⟩,fun hge=>?_⟩
    ·have h2:=j8 ha
     have h3:=rA rows (k+1)
     rw[h2,List.length_append]at h3
     refine⟨by omega,by unfold maxLen;omega,hlt,⟨?_,aX (by omega) (by omega)⟩,?_⟩
     ·rw[h2,List.length_append];exact .refl _
     ·rw[h2];exact .refl _
    ·rw[List.take_of_length_le (by omega)];exact .full _ _ _
theorem Qa(w0:W0)(a b:ByteArray)(S:St)(h:a.size+b.size≤1048576):aa Tryz.prog w0 268 [.sl 1 false [fC a,fC b]] S (fun d S'=>d=fC (a++b)∧S'=S):=by
 have:=Ma w0 [bY a,bY b] S (by simp) (by simp[fl,bg];omega)
 have e:fl [bY a,bY b]=bY (a++b):=by simp[fl,cP]
 rw[e]at this
 exact this
theorem GZ(w0:W0)(s:ByteArray){S:St}{b n c o:Nat}{ds:List DV}(hb:lk S.box b=some ds)(hs:(ds.drop o).take n=bY s)(hn:o+n≤ds.length)(h:s.size≤1048576):
 aa Tryz.prog w0 141 [.v (.slice (some ⟨b,o,none⟩) n c)] S (fun d S'=>d=fC s∧S'=S):=by
 refine aZ [] mx Tryz.func141 rfl rfl (by kernel_rfl) ?_;(refine @ab _ ?_;refine eW @Tryz.ntmps141 @hb @hs ?_)
 have hm8:maxLen=9223372036854775807:=rfl
 rw[bg]
 exact⟨hn,by omega,by omega⟩
def ub:List Int:=[0,498536548,997073096,651767980,1994146192,1802195444,1303535960,1342533948,3988292384,4027552580,3604390888,3412177804,2607071920,2262029012,2685067896,3183342108]
def nN:List Value:=ub.map fun z=> .int .u32 z
def fw(w0:W0):Prop:=xt w0 1 nN
def fB(x:BitVec 32):BitVec 32:=(x >>> 1) ^^^ (if x.getLsbD 0 then 3988292384#32 else 0#32)
theorem RH(x y p:BitVec 32):x ^^^ (y ^^^ p)=y ^^^ (x ^^^ p):=by rw[←BitVec.xor_assoc,BitVec.xor_comm x y,BitVec.xor_assoc]
theorem T8(x y p:BitVec 32):(x ^^^ p) ^^^ (y ^^^ p)=x ^^^ y:=by
 rw[BitVec.xor_assoc,RH p y p,BitVec.xor_self,BitVec.xor_zero]
theorem TO(a b:BitVec 32):fB (a ^^^ b)=fB a ^^^ fB b:=by
 unfold fB
 rw[BitVec.ushiftRight_xor_distrib,BitVec.getLsbD_xor]
 cases a.getLsbD 0 <;>cases b.getLsbD 0
 ·simp
 ·simp[BitVec.xor_assoc]
 ·simp only[Bool.xor_false,Bool.true_xor,Bool.not_false,if_true,Bool.false_eq_true,if_false,BitVec.xor_zero]
  rw[BitVec.xor_assoc,BitVec.xor_assoc,BitVec.xor_comm (b >>> 1)]
 ·simp only[bne_self_eq_false,Bool.xor_self,Bool.false_eq_true,if_false,if_true,BitVec.xor_zero]
  exact(T8 _ _ _).symm
def F1(x:BitVec 32):BitVec 32:=fB (fB (fB (fB x)))
theorem Ov(a b:BitVec 32):F1 (a ^^^ b)=F1 a ^^^ F1 b:=by unfold F1;simp only[TO]
theorem sf{x:BitVec 32}(h:x.getLsbD 0=false):fB x=x >>> 1:=by unfold fB;rw[h];simp
theorem KU(x:BitVec 32):x=((x >>> 4) <<< 4) ^^^ (x &&& 15#32):=by
 refine BitVec.eq_of_getLsbD_eq fun i hi=>?_
 rw[BitVec.getLsbD_xor,BitVec.getLsbD_shiftLeft,BitVec.getLsbD_ushiftRight,BitVec.getLsbD_and]
 have h15:(15#32:BitVec 32).getLsbD i=decide (i<4):=by
  revert hi
  have:∀j:Fin 32,(15#32:BitVec 32).getLsbD j=decide (j.val<4):=by decide
  exact fun hi=>this ⟨i,hi⟩
 rw[h15]
 by_cases h4:i<4
 ·simp[h4]
 ·simp[h4,hi,show 4+(i-4)=i by omega]
theorem RO(x:BitVec 32):F1 ((x >>> 4) <<< 4)=x >>> 4:=by
 have hb:∀k,k<4→(((x >>> 4) <<< 4) >>> k).getLsbD 0=false:=fun k hk=>by
  rw[BitVec.getLsbD_ushiftRight,BitVec.getLsbD_shiftLeft]
  simp;intro _ h;omega
 unfold F1
 have e0:fB ((x >>> 4) <<< 4)=((x >>> 4) <<< 4) >>> 1:=sf (by have:=hb 0 (by decide);simp at this ⊢)
 have e1:fB (((x >>> 4) <<< 4) >>> 1)=((x >>> 4) <<< 4) >>> 2:=by rw[sf (hb 1 (by decide)),←BitVec.shiftRight_add]
 have e2:fB (((x >>> 4) <<< 4) >>> 2)=((x >>> 4) <<< 4) >>> 3:=by rw[sf (hb 2 (by decide)),←BitVec.shiftRight_add]
 have e3:fB (((x >>> 4) <<< 4) >>> 3)=((x >>> 4) <<< 4) >>> 4:=by rw[sf (hb 3 (by decide)),←BitVec.shiftRight_add]
 rw[e0,e1,e2,e3]
 refine BitVec.eq_of_getLsbD_eq fun i hi=>?_
 rw[BitVec.getLsbD_ushiftRight,BitVec.getLsbD_shiftLeft,BitVec.getLsbD_ushiftRight,BitVec.getLsbD_ushiftRight]
 by_cases h:4+i<32
 ·simp[h]
 ·have:x.getLsbD (4+i)=false:=BitVec.getLsbD_of_ge _ _ (by omega)
  simp[h,this]
def SI(k:Nat):BitVec 32:=BitVec.ofInt 32 (ub.getD k 0)
theorem Tg:∀r:Fin 16,F1 (BitVec.ofNat 32 r)=SI r:=by decide
theorem Ue(x:BitVec 32):F1 x=(x >>> 4) ^^^ SI (x &&& 15#32).toNat:=by
 have h:=KU x
 have hlt:(x &&& 15#32).toNat<16:=by
  rw[BitVec.toNat_and]
  exact Nat.lt_of_le_of_lt Nat.and_le_right (by decide)
 have hr:=Tg ⟨_,hlt⟩
 simp only at hr
 rw[BitVec.ofNat_toNat,BitVec.setWidth_eq]at hr
 conv=>lhs;rw[h]
 rw[Ov,RO,hr]
def nt(b:BitVec 32):Int:=(b.toNat:Int)
theorem u7(b:BitVec 32):IntKind.u32.wrap (nt b)=nt b:=by
 have e:IntKind.u32.wrap (nt b)=nt b%4294967296:=rfl
 have:=b.isLt
 rw[e];unfold nt;omega
theorem yq(b:BitVec 32):BitVec.ofInt IntKind.u32.bits (nt b)=b:=by
 show BitVec.ofInt 32 (b.toNat:Int)=b
 rw[BitVec.ofInt_natCast,BitVec.ofNat_toNat,BitVec.setWidth_eq]
theorem mW(x y:Int):fa .xor .u32 x y=nt (BitVec.ofInt 32 x ^^^ BitVec.ofInt 32 y):=u7 (BitVec.ofInt 32 x ^^^ BitVec.ofInt 32 y)
theorem AG(x y:Int):fa .and .u32 x y=nt (BitVec.ofInt 32 x &&& BitVec.ofInt 32 y):=u7 (BitVec.ofInt 32 x &&& BitVec.ofInt 32 y)
theorem NJ(b:BitVec 32):Uw (nt b)=nt (fB b):=by
 have h2:(nt b).tdiv 2=nt (b >>> 1):=by
  unfold nt
  rw[BitVec.toNat_ushiftRight,Nat.shiftRight_eq_div_pow,Int.tdiv_eq_ediv_of_nonneg (by omega)]
  omega
 have h3:(nt b).tmod 2=((b.toNat%2:Nat):Int):=by
  unfold nt
  rw[Int.tmod_eq_emod_of_nonneg (by omega)];omega
 have h4:b.getLsbD 0=decide (b.toNat%2=1):=Nat.testBit_zero b.toNat
 unfold Uw fB
 rw[h2,h3,h4,u7]
 by_cases h:b.toNat%2=1
 ·rw[if_pos (by omega),mW,decide_eq_true h,if_pos rfl]
  have:BitVec.ofInt 32 (nt (b >>> 1))=b >>> 1:=yq _
  rw[this];rfl
 ·rw[if_neg (by omega),decide_eq_false h]
  simp
theorem zC(b:BitVec 32):kE 8 (nt b)=nt (F1 (F1 b)):=by
 simp only[kE,NJ]
 rfl
def wE(x:Int):Int:=fa .xor .u32 (x.fdiv (2^4)) (ub.getD (fa .and .u32 x 15).toNat 0)
theorem Az(b:BitVec 32):wE (nt b)=nt (F1 b):=by
 unfold wE
 have h1:(nt b).fdiv (2^4)=nt (b >>> 4):=by
  unfold nt
  rw[BitVec.toNat_ushiftRight,Nat.shiftRight_eq_div_pow,Int.fdiv_eq_ediv_of_nonneg _ (by decide)]
  omega
 have h2:fa .and .u32 (nt b) 15=nt (b &&& 15#32):=by
  rw[AG]
  have:BitVec.ofInt 32 (nt b)=b:=yq b
  rw[this];rfl
 rw[h1,h2,mW,Ue]
 have:BitVec.ofInt 32 (nt (b >>> 4))=b >>> 4:=yq _
 rw[this]
 unfold SI nt
 rw[Int.toNat_natCast]
theorem Mw(x:Int)(c:Int):kE 8 (fa .xor .u32 x (IntKind.u32.wrap c))=wE (wE (fa .xor .u32 x (IntKind.u32.wrap c))):=by
 rw[mW,zC,Az,Az]
theorem uM(x:Int):0≤fa .and .u32 x 15∧fa .and .u32 x 15<16:=by
 rw[AG]
 unfold nt
 have:(BitVec.ofInt 32 x &&& BitVec.ofInt 32 15).toNat<16:=by
  rw[BitVec.toNat_and]
  exact Nat.lt_of_le_of_lt Nat.and_le_right (by decide)
 omega
theorem MP:∀r:Fin 16,(nN.map DV.v).drop r.val= .v (.int .u32 (ub.getD r.val 0))::(nN.map DV.v).drop (r.val+1)
 |⟨0,_⟩=>rfl
 |⟨1,_⟩=>rfl
 |⟨2,_⟩=>rfl
 |⟨3,_⟩=>rfl
 |⟨4,_⟩=>rfl
 |⟨5,_⟩=>rfl
 |⟨6,_⟩=>rfl
 |⟨7,_⟩=>rfl
 |⟨8,_⟩=>rfl
 |⟨9,_⟩=>rfl
 |⟨10,_⟩=>rfl
 |⟨11,_⟩=>rfl
 |⟨12,_⟩=>rfl
 |⟨13,_⟩=>rfl
 |⟨14,_⟩=>rfl
 |⟨15,_⟩=>rfl
 |⟨n+16,h⟩=>absurd h (by omega)
theorem NP{z:Int}(h0:0≤z)(h1:z<16):(nN.map DV.v).drop z.toNat= .v (.int .u32 (ub.getD z.toNat 0))::(nN.map DV.v).drop (z.toNat+1):=MP ⟨z.toNat,by omega⟩
theorem PS(x:Int)(h0:0≤x)(h1:x≤4294967295):fa .xor .u32 4294967295 x=4294967295-x:=by
 have hx:x=nt (BitVec.ofNat 32 x.toNat):=by
  unfold nt
  rw[BitVec.toNat_ofNat];omega
 rw[mW,hx]
 have e:BitVec.ofInt 32 (nt (BitVec.ofNat 32 x.toNat))=BitVec.ofNat 32 x.toNat:=yq _
 rw[e]
 have e2:(BitVec.ofInt 32 4294967295:BitVec 32)=BitVec.allOnes 32:=by decide
 rw[e2,BitVec.allOnes_xor]
 unfold nt
 rw[BitVec.toNat_not]
 have:=(BitVec.ofNat 32 x.toNat).isLt
 omega
theorem O4(l:List Int)(x:Int)(h0:0≤x)(h1:x≤4294967295):0≤nJ l x∧nJ l x≤4294967295:=by
 unfold nJ
 induction l generalizing x with
 |nil=>exact⟨h0,h1⟩
 |cons a l ih=>
  rw[List.foldl_cons]
  refine ih _ ?_ ?_ <;>rw[mW,zC] <;>unfold nt <;>have:=(F1 (F1 (BitVec.ofInt 32 x ^^^ BitVec.ofInt 32 (IntKind.u32.wrap a)))).isLt <;>omega
theorem ZL(w0:W0)(hg:fw w0)(s:ByteArray){S:St}{b n c o:Nat}{ds:List DV}(hb:lk S.box b=some ds)(hs:(ds.drop o).take n=bY s)(hn:o+n≤ds.length)(h:s.size≤1048576):
 aa Tryz.prog w0 196 [.v (.int .u32 0),.v (.slice (some ⟨b,o,none⟩) n c)] S (fun d S'=>d= .v (.int .u32 (vd 0 s))∧S'=S):=by
 have hG:=I9 hg
 have hns:n=s.size:=by
  have:=congrArg List.length hs
  rw[List.length_take,List.length_drop,bg]at this
  omega
 have e0:fa .xor .u32 (if IntKind.u32.signed=true then -1 else IntKind.u32.max) 0=4294967295:=by decide
 refine aZ [] mx Tryz.func196 rfl rfl (by kernel_rfl) ?_;(refine @ab _ ?_;refine ba @Tryz.ntmps196 @e0 ?_)
 refine aF [] n [5,10,11,12] (fun k=>[(5,.v (.int .u32 (nJ ((cW s).take k) 4294967295))),(12,dI k)]) (fun _=>S) (fun _=>True) mx (by kernel_rfl) ?_ ?_
 ·(refine @ab _ ?_;refine au ?_)
  rfl
 ·intro k hk _
  have e1:IntKind.i64.wrap ((k:Int)+1)=((k+1:Nat):Int):=by rw[aX (by omega) (by omega)];omega
  have ek:(k:Int).toNat*1=k:=by omega
  by_cases hlt:k<n
  ·have hc:s.data.toList[k]? =some s.data.toList[k]:=List.getElem?_eq_getElem (by have:s.data.toList.length=s.size:=rfl;omega)
   generalize s.data.toList[k]=c at hc
   have hd:ds.drop (o+k*1)= .v (.int .u8 c.toNat)::ds.drop (o+k+1):=by
    rw[Nat.mul_one]
    have h1:(bY s)[k]? =some (.v (.int .u8 c.toNat)):=by unfold bY;rw[List.getElem?_map,hc];rfl
    rw[←hs,List.getElem?_take,if_pos hlt,List.getElem?_drop]at h1
    obtain⟨hl,he⟩:=List.getElem?_eq_some_iff.1 h1
    rw[List.drop_eq_getElem_cons hl,he]
   have hh:∀x,(nN.map DV.v).drop ((fa .and .u32 x 15).toNat*1)= .v (.int .u32 (ub.getD (fa .and .u32 x 15).toNat 0))::(nN.map DV.v).drop ((fa .and .u32 x 15).toNat+1):=fun x=>by
    rw[Nat.mul_one]
    exact NP (uM x).1 (uM x).2
   have hh2:nN.length=16:=rfl
   have hcs:nJ ((cW s).take (k+1)) 4294967295=wE (wE (fa .xor .u32 (nJ ((cW s).take k) 4294967295) (IntKind.u32.wrap (c.toNat:Int)))):=by
    have hb':(cW s)[k]? =some (c.toNat:Int):=by unfold cW;rw[List.getElem?_map,hc];rfl
    have:(cW s).take (k+1)=(cW s).take k++[(c.toNat:Int)]:=by rw[List.take_add_one,hb'];rfl
    rw[this]
    unfold nJ
    rw[List.foldl_append]
    exact Mw _ _
   rw[hcs]
   have i3:∀x,(fa .and .u32 x 15).toNat*1≤16:=fun x=>by have:=uM x;omega
   (refine @ab _ ?_;refine DD @hb @hG @ek @hd @hh @hh2 ?_)
   exact⟨fun q=>⟨q,(uM _).1,(uM _).2,i3 _,(uM _).1,(uM _).2,i3 _,q,rfl,e1⟩,fun q=>absurd hlt q⟩
  ·have hend:fa .xor .u32 (if IntKind.u32.signed=true then -1 else IntKind.u32.max) (nJ ((cW s).take k) 4294967295)=vd 0 s:=by
    have hk2:(cW s).take k=cW s:=List.take_of_length_le (by rw[oV];omega)
    rw[hk2]
    have hc:=O4 (cW s) 4294967295 (by decide) (by decide)
    have hif:(if IntKind.u32.signed=true then(-1:Int)else IntKind.u32.max)=4294967295:=by decide
    rw[hif,PS _ hc.1 hc.2]
    unfold vd
    have e5:IntKind.u32.wrap (4294967295-0)=4294967295:=by decide
    rw[e5]
    have e:IntKind.u32.wrap (4294967295-nJ (cW s) 4294967295)=(4294967295-nJ (cW s) 4294967295)%4294967296:=rfl
    rw[e];omega
   (refine @ab _ ?_;refine eW @hb @hG @ek ?_)
   exact⟨fun q=>absurd q hlt,fun _=>hend⟩
theorem ofP(w0:W0)(hg:fw w0)(s:ByteArray){S:St}{b n c o:Nat}{ds:List DV}(hb:lk S.box b=some ds)(hs:(ds.drop o).take n=bY s)(hn:o+n≤ds.length)(h:s.size≤1048576):
 aa Tryz.prog w0 140 [.v (.slice (some ⟨b,o,none⟩) n c)] S (fun d S'=>d= .v (.int .u32 (vd 0 s))∧S'=S):=by
 refine aZ [] mx Tryz.func140 rfl rfl (by kernel_rfl) ?_;(refine @ab _ ?_;refine an @Tryz.ntmps140 ?_)
 refine ao (ZL w0 hg s hb hs hn h) ?_
 (refine @ab _ ?_;exact aV)
theorem cZ(a:Int)(l:List Int):strOfNums (a::l)=strOfNums [a]++strOfNums l:=by
 apply ByteArray.ext
 simp[strOfNums,ByteArray.data_append]
def z8:DV:= .v (.int .u8 0)
def GR(kind:Int)(n k:Nat)(l:List ByteArray):List DV:=
 (List.replicate 4 z8++[.v (.int .u8 kind),.v (.int .u8 (IntKind.u8.wrap (n:Int)))]++bY (fT (l.take k) aJ aJ))++(List.replicate (122-bO (l.take k)) z8++bY (bT (l.take k) aJ))
theorem Av(l:List ByteArray):(bY (fT l aJ aJ)).length=l.length:=by rw[bg,qU,bk];omega
theorem sR(l:List ByteArray):(bY (bT l aJ)).length+l.length=bO l:=by
 have:=rh l aJ
 rw[bk]at this
 rw[bg];omega
theorem IG{kind:Int}{n k:Nat}{l:List ByteArray}(h:bO l≤122):(GR kind n k l).length=128:=by
 have h1:=Av (l.take k)
 have h2:=sR (l.take k)
 have h3:=eM l k
 unfold GR
 simp only[List.length_append,List.length_replicate,List.length_cons,List.length_nil]
 omega
theorem Ex(s:ByteArray):(bY s).flatMap cd=bY s:=by
 unfold bY
 induction s.data.toList with
 |nil=>rfl
 |cons a m ih=>
  rw[List.map_cons,List.flatMap_cons,ih];rfl
theorem Rr(s:ByteArray):∀d,d∈bY s→eL d=true:=fun d hd=>by
 unfold bY at hd
 obtain⟨c,_,rfl⟩:=List.mem_map.1 hd
 rfl
theorem yY(x:Int):0≤IntKind.u8.wrap x∧IntKind.u8.wrap x≤255:=by
 have e:IntKind.u8.wrap x=x%256:=rfl
 rw[e]
 have:=Int.emod_nonneg x (by decide:(256:Int)≠0)
 have:=Int.emod_lt_of_pos x (by decide:(0:Int)<256)
 omega
theorem Pe{kind:Int}{n k:Nat}{l:List ByteArray}{c:ByteArray}(h:bO l≤122)(hc:l[k]? =some c)(e:Nat)(he:e+(bY (bT (l.take k) aJ)).length+c.size=128):
 (ct (GR kind n k l) e (bY c)).set (6+k) (.v (.int .u8 (IntKind.u8.wrap (e:Int))))=GR kind n (k+1) l:=by
 have h1:=Av (l.take k)
 have h2:=sR (l.take k)
 have h3:=eM l (k+1)
 have h4:=nw hc
 have hk:k<l.length:=(List.getElem?_eq_some_iff.1 hc).1
 have htk:(l.take k).length=k:=by rw[List.length_take];omega
 have ht:l.take (k+1)=l.take k++[c]:=by rw[List.take_add_one,hc];rfl
 have hlen:=IG (kind:=kind) (n:=n) (k:=k) h
 have hcl:=bg c
 have hbk:bY (bT (l.take (k+1)) aJ)=bY c++bY (bT (l.take k) aJ):=by
  rw[ht,uS]
  show bY (c++bT (l.take k) aJ)=_
  rw[cP]
 have hbs:(bY (bT (l.take k) aJ)).length=(bT (l.take k) aJ).size:=bg _
 have hsl:bY (fT (l.take (k+1)) aJ aJ)=bY (fT (l.take k) aJ aJ)++[.v (.int .u8 (IntKind.u8.wrap (e:Int)))]:=by
  rw[ht,zt]
  show bY (fT (l.take k) aJ aJ++strOfNums [IntKind.u8.wrap (IntKind.i64.wrap (128-(((c++bT (l.take k) aJ).size:Nat):Int)))])=_
  have hw:=yY (e:Int)
  have e1:IntKind.i64.wrap (128-(((c++bT (l.take k) aJ).size:Nat):Int))=e:=by
   rw[ByteArray.size_append,aX (by omega) (by omega)];omega
  rw[e1,cP,mz _ hw.1 hw.2]
 have hz:List.replicate (122-bO (l.take k)) z8=z8::(List.replicate (122-bO (l.take (k+1))) z8++List.replicate c.size z8):=by
  rw[List.replicate_append_replicate,←List.replicate_succ]
  congr 1;omega
 have hput:ct (GR kind n k l) e (bY c)=(List.replicate 4 z8++[.v (.int .u8 kind),.v (.int .u8 (IntKind.u8.wrap (n:Int)))]++bY (fT (l.take k) aJ aJ))++(z8::(List.replicate (122-bO (l.take (k+1))) z8++(bY c++bY (bT (l.take k) aJ)))):=by
  unfold ct GR
  rw[hz]
  generalize hA:(List.replicate 4 z8++[DV.v (.int .u8 kind),.v (.int .u8 (IntKind.u8.wrap (n:Int)))]++bY (fT (l.take k) aJ aJ))=A
  have hAl:A.length=6+k:=by
   rw[←hA]
   simp only[List.length_append,List.length_replicate,List.length_cons,List.length_nil]
   omega
  generalize hB:bY (bT (l.take k) aJ)=B at*
  have e1:A++(z8::(List.replicate (122-bO (l.take (k+1))) z8++List.replicate c.size z8)++B)=(A++(z8::List.replicate (122-bO (l.take (k+1))) z8))++(List.replicate c.size z8++B):=by simp only[List.append_assoc,List.cons_append]
  have e2:A++(z8::(List.replicate (122-bO (l.take (k+1))) z8++(bY c++B)))=(A++(z8::List.replicate (122-bO (l.take (k+1))) z8))++(bY c++B):=by simp only[List.append_assoc,List.cons_append]
  have hPl:(A++(z8::List.replicate (122-bO (l.take (k+1))) z8)).length=e:=by
   simp only[List.length_append,List.length_cons,List.length_replicate]
   omega
  rw[e1,e2]
  rw[List.take_left' hPl,List.append_assoc]
  congr 2
  rw[←hPl,List.drop_append,show(bY c).length=c.size from hcl,List.drop_of_length_le (by omega),List.nil_append]
  have hz0:List.drop (e+c.size-e) (List.replicate c.size z8++B)=B:=by
   rw[show e+c.size-e=(List.replicate c.size z8).length by simp,List.drop_left]
  rw[←hPl]at hz0
  exact hz0
 rw[hput]
 unfold GR
 rw[hsl,hbk]
 generalize hA:(List.replicate 4 z8++[DV.v (.int .u8 kind),.v (.int .u8 (IntKind.u8.wrap (n:Int)))])=A
 have hAl:A.length=6:=by rw[←hA];rfl
 have hl6:(A++bY (fT (l.take k) aJ aJ)).length=6+k:=by rw[List.length_append,hAl,h1,htk]
 rw[List.set_append_right _ _ (by omega),hl6,Nat.sub_self]
 simp
theorem SA(kind:Int)(l:List ByteArray)(h:bO l≤122)(hk0:0≤kind)(hk1:kind≤255):GR kind l.length l.length l=List.replicate 4 z8++bY (ca kind l):=by
 have hz:∀m,bY (strOfNums (List.replicate m 0))=List.replicate m z8:=fun m=>by
  induction m with
  |zero=>rfl
  |succ m ih=>
   have e:strOfNums (List.replicate (m+1) 0)=strOfNums [0]++strOfNums (List.replicate m 0):=by
    rw[List.replicate_succ,cZ]
   rw[e,cP,ih,mz 0 (by decide) (by decide)];rfl
 have hw:=yY (l.length:Int)
 unfold GR ca
 rw[List.take_of_length_le (Nat.le_refl _),cP,cP,cP,hz,cZ,cP,mz _ hk0 hk1,mz _ hw.1 hw.2]
 simp
theorem Eu(w0:W0)(hg:fw w0)(kind:Int)(l:List ByteArray)(S:St)(hk:kind≠0)(hk0:0≤kind)(hk1:kind≤255)(h:bO l≤122):aa Tryz.prog w0 82 [dY kind,.sl 1 false (l.map fC)] S (fun d S'=>d= .bD [fC (cS kind l),dI 0]∧S'=S):=by
 have hll:=sH l
 refine aZ [] mx Tryz.func82 rfl rfl (by kernel_rfl) ?_;(refine @ab _ ?_;refine an @Tryz.ntmps82 ?_)
 refine⟨fun h0=>absurd h0 hk,fun _=>ao (Jh w0 l _ (by omega) (by omega)) ?_⟩
 (refine @ab _ ?_;refine au ?_)
 refine⟨fun h0=>by omega,fun _ b=>?_⟩
 refine aF [] l.length [6,7,23,24,25] (fun k=>[(7,dI ((128-(bT (l.take k) aJ).size:Nat):Int)),(25,dI k)]) (fun k=>⟨(b.n,GR kind l.length k l)::S.box,S.acc⟩) (fun _=>True) mx (by kernel_rfl) ?_ ?_
 ·(refine @ab _ ?_;refine au ?_)
  exact⟨rfl,.refl _⟩
 ·intro k hk' _
  have e1:IntKind.i64.wrap ((k:Int)+1)=((k+1:Nat):Int):=by rw[aX (by omega) (by omega)];omega
  have h1:=sR (l.take k)
  have hbs:=bg (bT (l.take k) aJ)
  have htk:(l.take k).length=k:=by rw[List.length_take];omega
  have h3:=eM l k
  have hpl:=IG (kind:=kind) (n:=l.length) (k:=k) h
  have e6:IntKind.i64.wrap (6+(k:Int))=((6+k:Nat):Int):=by rw[aX (by omega) (by omega)];omega
  (refine @ab _ ?_;refine au ?_)
  refine⟨fun hlt=>⟨hlt,fun c hc=>?_⟩,fun hge=>?_⟩
  ·have h4:=nw hc
   have h5:=eM l (k+1)
   have hcl:=bg c
   have ht:l.take (k+1)=l.take k++[c]:=by rw[List.take_add_one,hc];rfl
   have hb2:(bT (l.take (k+1)) aJ).size=(bT (l.take k) aJ).size+c.size:=by
    rw[ht,uS]
    show(c++bT (l.take k) aJ).size=_
    rw[ByteArray.size_append];omega
   have e7:IntKind.i64.wrap (((128-(bT (l.take k) aJ).size:Nat):Int)-(c.size:Int))=((128-(bT (l.take (k+1)) aJ).size:Nat):Int):=by rw[aX (by omega) (by omega)];omega
   have hE:(128-(bT (l.take (k+1)) aJ).size)+(bY (bT (l.take k) aJ)).length+c.size=128:=by omega
   have hst:=Pe (kind:=kind) (n:=l.length) h hc _ hE
   rw[hcl,e7]
   generalize 128-(bT (l.take (k+1)) aJ).size=E at*
   have hput:ct (GR kind l.length k l) (if 128=(E:Int).toNat then 0 else(E:Int).toNat*1) ((bY c).flatMap cd)=ct (GR kind l.length k l) E (bY c):=by
    rw[Ex,Int.toNat_natCast,Nat.mul_one]
    split
    ·have hc0:bY c=[]:=List.eq_nil_of_length_eq_zero (by omega)
     rw[hc0]
     simp[ct]
    ·rfl
   have hpl2:(ct (GR kind l.length k l) E (bY c)).length=128:=by
    unfold ct
    simp only[List.length_append,List.length_take,List.length_drop]
    omega
   rw[hput,e6,hpl2,hpl,show((6+k:Nat):Int).toNat*1=6+k by omega,hst]
   refine⟨by omega,by omega,?_,Rr c,by omega,by omega,by omega,by omega,hlt,⟨rfl,e1⟩,.refl _⟩
   split <;>omega
  ·have hkl:k=l.length:=by omega
   rw[hkl,SA kind l h hk0 hk1]
   have hbl:=kP kind h
   have hbd:(List.drop 4 (List.replicate 4 z8++bY (ca kind l))).take 124=bY (ca kind l):=by
    have e:List.drop 4 (List.replicate 4 z8++bY (ca kind l))=bY (ca kind l):=List.drop_left' rfl
    rw[e]
    exact List.take_of_length_le (by rw[bg];omega)
   refine aS (ofP w0 hg (ca kind l) (b:=b.n) (S:=⟨(b.n,List.replicate 4 z8++bY (ca kind l))::S.box,S.acc⟩) (ds:=List.replicate 4 z8++bY (ca kind l)) (by simp[lk]) hbd (by simp[bg];omega) (by omega)) ?_
   (refine @ab _ ?_;refine au ?_)
   have hcr:0≤IntKind.u64.wrap (vd 0 (ca kind l))∧IntKind.u64.wrap (vd 0 (ca kind l))<18446744073709551616:=by
    have e:IntKind.u64.wrap (vd 0 (ca kind l))=vd 0 (ca kind l)%18446744073709551616:=rfl
    rw[e]
    exact⟨Int.emod_nonneg _ (by decide),Int.emod_lt_of_pos _ (by decide)⟩
   refine aS (tx w0 _ 4 _ (by decide) (by decide) hcr.1 hcr.2) ?_
   have hnl:(bY (aC 4 (IntKind.u64.wrap (vd 0 (ca kind l))))).length=4:=by rw[bg,av]
   have hbl2:(bY (ca kind l)).length=124:=by rw[bg,hbl]
   have hput:ct (z8::z8::z8::z8::bY (ca kind l)) 0 ((bY (aC 4 (IntKind.u64.wrap (vd 0 (ca kind l))))).flatMap cd)=bY (cS kind l):=by
    rw[Ex]
    unfold cS ct
    rw[cP,List.take_zero,List.nil_append,Nat.zero_add,hnl]
    rfl
   (refine @ab _ ?_;refine eW @hnl @hbl2 @hput ?_)
   have hpk:(bY (cS kind l)).length=128:=by rw[bg,je kind h]
   refine⟨Rr _,ao (GZ w0 (cS kind l) (b:=b.n) (o:=0) (n:=128) (c:=128) (ds:=bY (cS kind l)) (by simp[lk]) ?_ (by omega) (by have:=je kind h;omega)) ?_⟩
   ·rw[List.drop_zero,List.take_of_length_le (by omega)]
   ·(refine @ab _ ?_;exact aV)
theorem V0{P:Program}{w0:W0}{S0:St}{fr:List DV}{S:St}{K:DV→St→Prop}(r:Operand)(m:String)(a:Array Operand)(ts:Array TypeId):Y.vf P w0 S0 (.call ⟨.invoke r m,a,ts⟩) fr S K=aI P w0 (.call ⟨.invoke r m,a,ts⟩) fr S K:=rfl
attribute [go_sem ↓] V0
theorem Gy:rV Tryz.prog 376 "jalousie/node.may" =some 294:=by kernel_rfl
theorem Hz:rV Tryz.prog 376 "jalousie/node.put" =some 295:=by kernel_rfl
theorem AY:rV Tryz.prog 376 "jalousie/node.least" =some 293:=by kernel_rfl
theorem Gg:rV Tryz.prog 377 "jalousie/node.may" =some 301:=by kernel_rfl
theorem FW:rV Tryz.prog 377 "jalousie/node.put" =some 302:=by kernel_rfl
theorem Be:rV Tryz.prog 377 "jalousie/node.least" =some 300:=by kernel_rfl
attribute [go_sem] Gy Hz AY Gg FW Be
theorem M8(w0:W0)(b:Bool)(l:List E8)(S:St):aa Tryz.prog w0 261 [.agg [dB b,.sl 5 false (l.map vp)]] S (fun d S'=>d= .v (.int .u8 (if b then 1 else 2))∧S'=S):=by
 cases b with
 |true=>
  refine aZ [] mx Tryz.func261 rfl rfl (by kernel_rfl) ?_;(refine @ab _ ?_;exact mc @Tryz.ntmps261)
 |false=>
  refine aZ [] mx Tryz.func261 rfl rfl (by kernel_rfl) ?_;(refine @ab _ ?_;exact mc @Tryz.ntmps261)
theorem sN(w0:W0)(S:St):aa Tryz.prog w0 269 [] S (fun d S'=>d= .sl 1 false [.v .nilIface,.jM 376 (.agg []),.jM 377 (.agg [])]∧S'=S):=by
 refine aZ [] mx Tryz.func269 rfl rfl (by kernel_rfl) ?_;(refine @ab _ ?_;exact mc @Tryz.ntmps269)
theorem WD(w0:W0)(s:ByteArray)(S:St):aa Tryz.prog w0 297 [dS s] S (fun d S'=>d=dB (decide (s.size≠0)&&decide (s.size≤16))∧S'=S):=by
 refine aZ [] mx Tryz.func297 rfl rfl (by kernel_rfl) ?_;(refine @ab _ ?_;refine an @Tryz.ntmps297 ?_)
 refine⟨fun h=>?_,fun h=>?_⟩
 ·have:¬s.size=0:=fun e=>by
   rw[cN.2 (show s=(⟨#[]⟩:ByteArray)from ByteArray.ext (by have:s.data.size=0:=e;exact Array.eq_empty_of_size_eq_zero this))]at h
   cases h
  rw[decide_eq_true this,Bool.true_and]
  exact decide_eq_decide.2 (by omega)
 ·have:=cN.1 h
  subst this;rfl
theorem Q4(w0:W0)(n:Int)(S:St):aa Tryz.prog w0 298 [dI n] S (fun d S'=>d=dB (decide (2≤n)&&decide (n≤999))∧S'=S):=by
 refine aZ [] mx Tryz.func298 rfl rfl (by kernel_rfl) ?_;(refine @ab _ ?_;refine an @Tryz.ntmps298 ?_)
 refine⟨fun h=>?_,fun h=>?_⟩
 ·rw[decide_eq_true (show 2≤n from h),Bool.true_and]
 ·rw[decide_eq_false (show¬2≤n from h),Bool.false_and]
theorem Pw(w0:W0)(S:St):aa Tryz.prog w0 293 [.agg []] S (fun d S'=>d=dI 1∧S'=S):=by
 refine aZ [] mx Tryz.func293 rfl rfl (by kernel_rfl) ?_;(refine @ab _ ?_;exact mc @Tryz.ntmps293)
theorem OK(w0:W0)(S:St):aa Tryz.prog w0 300 [.agg []] S (fun d S'=>d=dI 2∧S'=S):=by
 refine aZ [] mx Tryz.func300 rfl rfl (by kernel_rfl) ?_;(refine @ab _ ?_;exact mc @Tryz.ntmps300)
@[go_sem] def Zb (e:E8):DV:= .agg [dS e.data,dB e.It,dI e.size,dI e.aq]
def rU(b:Bool)(e:E8):ByteArray:=if b then(if e.It then((⟨#[1]⟩:ByteArray)++aC 2 (IntKind.u64.wrap e.size))++aC 2 (IntKind.u64.wrap e.aq)else(⟨#[0]⟩:ByteArray)++e.data)else aC 2 (IntKind.u64.wrap e.aq)
theorem Kj(w0:W0)(e:E8)(S:St)(h:Nb true e):aa Tryz.prog w0 295 [.agg [],Zb e] S (fun d S'=>d=fC (rU true e)∧S'=S):=by
 have h2:=h.2
 simp only[if_true]at h2
 unfold rU
 simp only[if_true]
 have e1:(⟨#[1]⟩:ByteArray)=strOfNums [1]:=rfl
 have e0:(⟨#[0]⟩:ByteArray)=strOfNums [0]:=rfl
 have b1:=mz 1 (by decide) (by decide)
 have b0:=mz 0 (by decide) (by decide)
 have hm8:maxLen=9223372036854775807:=rfl
 cases hf:e.It with
 |true=>
  rw[if_pos hf]at h2
  have w1:IntKind.u64.wrap e.size=e.size:=gJ (by omega) (by omega)
  have w2:IntKind.u64.wrap e.aq=e.aq:=gJ (by omega) (by omega)
  have l1:(bY (aC 2 e.size)).length=2:=by rw[bg,av]
  have l2:(bY (aC 2 e.aq)).length=2:=by rw[bg,av]
  rw[if_pos rfl,w1,w2,e1]
  refine aZ [2] mx Tryz.func295 rfl rfl (by kernel_rfl) ?_;(refine @ab _ ?_;refine ba @Tryz.ntmps295 @hf ?_)
  intro c1 c2
  refine Y.l8 [4,8] [] [0,1,5,2,3,6,4,7,8,9] mx (by kernel_rfl) ?_
  (refine @ab _ ?_;refine au ?_)
  refine Y.tc (fun T _=>RE w0 e.size T (by omega) (by omega)) ?_
  (refine @ab _ ?_;refine an @l1 ?_)
  refine⟨by omega,fun b=>Y.tc (fun T _=>RE w0 e.aq T (by omega) (by omega)) ?_⟩
  (refine @ab _ ?_;refine ba @l1 @l2 ?_)
  rw[cP,cP,b1]
  exact⟨by omega,.refl _⟩
 |false=>
  rw[if_neg (by rw[hf];simp)]at h2
  have hb:=bg e.data
  have e9:e.data.data.toList.length=e.data.size:=rfl
  rw[if_neg (by simp),e0]
  refine aZ [2] mx Tryz.func295 rfl rfl (by kernel_rfl) ?_;(refine @ab _ ?_;refine ba @Tryz.ntmps295 @hf ?_)
  intro c1 c2
  rw[e9,cP,b0]
  exact⟨by omega,by omega,fun b=> .refl _⟩
theorem DJ(w0:W0)(e:E8)(S:St)(h:Nb false e):aa Tryz.prog w0 302 [.agg [],Zb e] S (fun d S'=>d=fC (rU false e)∧S'=S):=by
 have h2:=h.2
 simp only[Bool.false_eq_true,if_false]at h2
 have w2:IntKind.u64.wrap e.aq=e.aq:=gJ (by omega) (by omega)
 unfold rU
 rw[if_neg (by simp),w2]
 refine aZ [] mx Tryz.func302 rfl rfl (by kernel_rfl) ?_;(refine @ab _ ?_;refine an @Tryz.ntmps302 ?_)
 intro c1 c2
 refine ao (RE w0 e.aq _ (by omega) (by omega)) ?_
 (refine @ab _ ?_;exact aV)
theorem J4(w0:W0)(i:Int)(e:E8)(S:St)(h:Nb true e)(hk:e.key≠aJ):aa Tryz.prog w0 294 [.agg [],dI i,vp e] S (fun d S'=>d=dB true∧S'=S):=by
 have h1:=h.1
 have h2:=h.2
 simp only[if_true]at h2
 have hks:e.key.size≠0:=fun q=>hk (ByteArray.ext (Array.eq_empty_of_size_eq_zero q))
 have hkey:=fun S=>WD w0 e.key S
 rw[decide_eq_true hks,decide_eq_true h1]at hkey
 cases hf:e.It with
 |true=>
  rw[if_pos hf]at h2
  have hp:=fun S=>Q4 w0 e.aq S
  rw[decide_eq_true h2.2.2.2.1,decide_eq_true h2.2.2.2.2]at hp
  have hd:eS e.data {data:= #[]}=true:=cN.2 h2.1
  refine aZ [] mx Tryz.func294 rfl rfl (by kernel_rfl) ?_;(refine @ab _ ?_;refine ba @Tryz.ntmps294 @hf ?_)
  intro c1 c2 c3
  refine ao (hkey _) ?_
  (refine @ab _ ?_;refine an @hd ?_)
  refine⟨fun _=>⟨fun _=>ao (hp _) ?_,fun q=>absurd h2.2.2.1 q⟩,fun q=>absurd h2.2.1 q⟩
  (refine @ab _ ?_;exact aV)
 |false=>
  rw[if_neg (by rw[hf];simp)]at h2
  refine aZ [] mx Tryz.func294 rfl rfl (by kernel_rfl) ?_;(refine @ab _ ?_;refine ba @Tryz.ntmps294 @hf ?_)
  intro c1 c2 c3
  refine ao (hkey _) ?_
  (refine @ab _ ?_;refine au ?_)
  exact⟨fun _=>⟨fun _=>h2.2.2,fun q=>q h2.2.1⟩,fun q=>by omega⟩
theorem DA(w0:W0)(i:Nat)(e:E8)(S:St)(h:Nb false e)(hk:e.key=aJ↔i=0):aa Tryz.prog w0 301 [.agg [],dI i,vp e] S (fun d S'=>d=dB true∧S'=S):=by
 have h1:=h.1
 have h2:=h.2
 simp only[Bool.false_eq_true,if_false]at h2
 have hp:=fun S=>Q4 w0 e.aq S
 have hkey:=fun S=>WD w0 e.key S
 have hfin:((decide (2≤e.aq)&&decide (e.aq≤999))=true→(decide (e.data.data.toList=ByteArray.empty.data.toList)&&!e.It&&decide (e.size=0))=true)∧((decide (2≤e.aq)&&decide (e.aq≤999))=false→False):=by
  rw[decide_eq_true h2.2.2.2.1,decide_eq_true h2.2.2.2.2,h2.1,h2.2.1,h2.2.2.1]
  exact⟨fun _=>by decide,fun q=>by cases q⟩
 rcases Nat.eq_zero_or_pos i with z|z
 ·have hkn:=hk.2 z
  have hd:eS e.key {data:= #[]}=true:=cN.2 hkn
  have zi:((i:Int)=0)=True:=eq_true (by omega)
  refine aZ [] mx Tryz.func301 rfl rfl (by kernel_rfl) ?_;(refine @ab _ ?_;refine eW @Tryz.ntmps301 @zi @hd ?_)
  intro c1 c2
  refine ao (hp _) ?_
  (refine @ab _ ?_;refine au ?_)
  exact hfin
 ·have hks:¬e.key.size=0:=fun q=>absurd (hk.1 (ByteArray.ext (Array.eq_empty_of_size_eq_zero q))) (by omega)
  have hkk:(decide (¬e.key.size=0)&&decide (e.key.size≤16))=true:=by rw[decide_eq_true hks,decide_eq_true h1];rfl
  have zi:((i:Int)=0)=False:=eq_false (by omega)
  have zj:((i:Int)>0)=True:=eq_true (by omega)
  refine aZ [] mx Tryz.func301 rfl rfl (by kernel_rfl) ?_;(refine @ab _ ?_;refine eW @Tryz.ntmps301 @zi @zj ?_)
  intro c1 c2
  refine ao (hkey _) ?_
  (refine @ab _ ?_;refine an @hkk ?_)
  refine ao (hp _) ?_
  (refine @ab _ ?_;refine au ?_)
  exact hfin
theorem QI(w0:W0)(s:ByteArray)(S:St)(h:s.size≤255):aa Tryz.prog w0 270 [dS s] S (fun d S'=>∃r:FN S.acc,d= .acc r.n (lZ s).size∧S'=⟨S.box,(r.n,.tl 1 (bY (lZ s)))::S.acc⟩):=by
 have e0:(if(255:Int)<(s.size:Int)then 255 else(s.size:Int))=s.size:=if_neg (by omega)
 have e1:s.extract 0 (s.size:Int).toNat=s:=by rw[Int.toNat_natCast];exact ByteArray.extract_zero_size
 have e2:s.data.toList.length=s.size:=rfl
 have hm8:maxLen=9223372036854775807:=rfl
 have hts:=ju s
 have e3:bY (lZ s)= .v (.int .u8 (IntKind.u8.wrap (s.size:Int)))::bY s:=by
  have hw:IntKind.u64.wrap (s.size:Int)=s.size:=gJ (by omega) (by omega)
  have h8:IntKind.u8.wrap (s.size:Int)=s.size:=by
   have e:IntKind.u8.wrap (s.size:Int)=(s.size:Int)%256:=rfl
   rw[e];omega
  unfold lZ
  rw[hw,cP,aC,iw,cP,h8,mz _ (by omega) (by omega)]
  rfl
 refine mf [] mx Tryz.func270 rfl rfl (by kernel_rfl) ?_;(refine @ab _ ?_;refine an @Tryz.ntmps270 ?_)
 rw[e0,e1,e2,e3]
 refine⟨by omega,by omega,by omega,by omega,fun b=>⟨b,?_,?_⟩⟩
 ·rw[hts,Nat.add_comm]
 ·rfl
theorem LD(b:Bool)(e:E8):eH b e=lZ e.key++rU b e:=rfl
theorem wO(b:Bool)(e:E8):(rU b e).size=if b then(if e.It then 5 else 1+e.data.size)else 2:=by
 have h:=oH b e
 rw[LD,ByteArray.size_append,ju]at h
 omega
theorem Jc(w0:W0)(b:Bool)(l:List E8)(S:St)(hl:l.length≤1048576)(hk:∀e,e∈l→Nb b e):aa Tryz.prog w0 262 [.agg [dB b,.sl 5 false (l.map vp)]] S (fun d S'=>d= .sl 1 false ((l.map (eH b)).map fC)∧S'=S):=by
 have hkd:=fun S=>M8 w0 b l S
 cases b with
 |true=>
  refine aZ [6] mx Tryz.func262 rfl rfl (by kernel_rfl) ?_;(refine @ab _ ?_;refine an @Tryz.ntmps262 ?_)
  intro b1
  refine aS (sN w0 _) ?_
  (refine @ab _ ?_;refine au ?_)
  refine aS (hkd _) ?_
  (refine @ab _ ?_;refine au ?_)
  refine nV 4 1 rfl (by omega) fun lp=>?_
  (refine @ab _ ?_;refine au ?_)
  refine aF [6] l.length [3,4,13,14,15] (fun k=>[(4,.acc lp.n k),(15,dI k)]) (fun k=>⟨(b1.n,[dB true,.sl 5 false (l.map vp)])::S.box,(lp.n,.arr 1 (((l.take k).map (eH true)).map fC))::S.acc⟩) (fun _=>True) mx (by kernel_rfl) ?_ ?_
  ·(refine @ab _ ?_;exact aV)
  ·intro k hk' _
   have hml:(l.take k).length=k:=by rw[List.length_take];omega
   have e1:IntKind.i64.wrap ((k:Int)+1)=((k+1:Nat):Int):=by rw[aX (by omega) (by omega)];omega
   (refine @ab _ ?_;refine an @hml ?_)
   refine⟨fun hlt=>⟨hlt,fun a ha b2=>?_⟩,fun hge=>?_⟩
   ·have hok:=hk a (List.mem_of_getElem? ha)
    have hk1:=hok.1
    refine Y.l8 [3,8,9] [10] [0,1,4,5,2,6,3,7,8,9,10,11] mx (by kernel_rfl) ?_
    (refine @ab _ ?_;refine au ?_)
    refine bA (QI w0 a.key _ (by omega)) ?_
    rintro _ _ ⟨r,rfl,rfl⟩
    (refine @ab _ ?_;refine au ?_)
    refine ao (Kj w0 a _ hok) ?_
    have hvs:=wO true a
    have hts:=ju a.key
    have l1:=bg (lZ a.key)
    have l2:=bg (rU true a)
    have hm8:maxLen=9223372036854775807:=rfl
    have hda:a.data.size≤16∨a.data.size=0:=by
     have h2:=hok.2
     simp only[if_true]at h2
     by_cases q:a.It=true
     ·rw[if_pos q]at h2;right;rw[h2.1];rfl
     ·rw[if_neg q]at h2;left;exact h2.1
    have hsz:(rU true a).size≤17:=by
     rw[hvs]
     simp only[if_true]
     split <;>omega
    (refine @ab _ ?_;refine eW @l1 @l2 @hml ?_)
    have hrow:((l.take (k+1)).map (eH true)).map fC=((l.take k).map (eH true)).map fC++[.sl 1 false (bY (lZ a.key)++bY (rU true a))]:=by
     rw[List.take_add_one,ha,Option.toList_some,List.map_append,List.map_append,←cP]
     rfl
    rw[hrow]
    exact⟨by omega,by omega,by omega,by omega,hlt,e1,.bu (.pr (.refl _))⟩
   ·rw[List.take_of_length_le (by omega)]
    exact .refl _
 |false=>
  refine aZ [6] mx Tryz.func262 rfl rfl (by kernel_rfl) ?_;(refine @ab _ ?_;refine an @Tryz.ntmps262 ?_)
  intro b1
  refine aS (sN w0 _) ?_
  (refine @ab _ ?_;refine au ?_)
  refine aS (hkd _) ?_
  (refine @ab _ ?_;refine au ?_)
  refine nV 4 1 rfl (by omega) fun lp=>?_
  (refine @ab _ ?_;refine au ?_)
  refine aF [6] l.length [3,4,13,14,15] (fun k=>[(4,.acc lp.n k),(15,dI k)]) (fun k=>⟨(b1.n,[dB false,.sl 5 false (l.map vp)])::S.box,(lp.n,.arr 1 (((l.take k).map (eH false)).map fC))::S.acc⟩) (fun _=>True) mx (by kernel_rfl) ?_ ?_
  ·(refine @ab _ ?_;exact aV)
  ·intro k hk' _
   have hml:(l.take k).length=k:=by rw[List.length_take];omega
   have e1:IntKind.i64.wrap ((k:Int)+1)=((k+1:Nat):Int):=by rw[aX (by omega) (by omega)];omega
   (refine @ab _ ?_;refine an @hml ?_)
   refine⟨fun hlt=>⟨hlt,fun a ha b2=>?_⟩,fun hge=>?_⟩
   ·have hok:=hk a (List.mem_of_getElem? ha)
    have hk1:=hok.1
    refine Y.l8 [3,8,9] [10] [0,1,4,5,2,6,3,7,8,9,10,11] mx (by kernel_rfl) ?_
    (refine @ab _ ?_;refine au ?_)
    refine bA (QI w0 a.key _ (by omega)) ?_
    rintro _ _ ⟨r,rfl,rfl⟩
    (refine @ab _ ?_;refine au ?_)
    refine ao (DJ w0 a _ hok) ?_
    have hvs:=wO false a
    have hts:=ju a.key
    have l1:=bg (lZ a.key)
    have l2:=bg (rU false a)
    have hm8:maxLen=9223372036854775807:=rfl
    have hsz:(rU false a).size≤17:=by
     rw[hvs]
     simp
    (refine @ab _ ?_;refine eW @l1 @l2 @hml ?_)
    have hrow:((l.take (k+1)).map (eH false)).map fC=((l.take k).map (eH false)).map fC++[.sl 1 false (bY (lZ a.key)++bY (rU false a))]:=by
     rw[List.take_add_one,ha,Option.toList_some,List.map_append,List.map_append,←cP]
     rfl
    rw[hrow]
    exact⟨by omega,by omega,by omega,by omega,hlt,e1,.bu (.pr (.refl _))⟩
   ·rw[List.take_of_length_le (by omega)]
    exact .refl _
theorem ND(w0:W0)(b:Bool)(l:List E8)(S:St)(hl:l.length≤1048576)(hk:∀e,e∈l→Nb b e)(hr:l.Pairwise fun x y=>cH x.key y.key=true)(h0:∀(i:Nat) e,l[i]? =some e→(e.key=aJ↔i=0∧b=false))(hs:bO (l.map (eH b))≤122)(h1:1<l.length∨(b=true∧l.length=1)):
 aa Tryz.prog w0 260 [.agg [dB b,.sl 5 false (l.map vp)]] S (fun d S'=>d=dB true∧S'=S):=by
 have hkd:=fun S=>M8 w0 b l S
 have hcl:=fun S=>Jc w0 b l S hl hk
 cases b with
 |true=>
  refine aZ [] mx Tryz.func260 rfl rfl (by kernel_rfl) ?_;(refine @ab _ ?_;refine an @Tryz.ntmps260 ?_)
  intro b1
  refine aS (sN w0 _) ?_
  (refine @ab _ ?_;refine au ?_)
  refine aS (hkd _) ?_
  (refine @ab _ ?_;refine au ?_)
  refine aF [] l.length [1,3,12,13,14] (fun k=>[(14,dI k)]) (fun k=>⟨(b1.n,[dB true,.sl 5 false (l.map vp)])::S.box,S.acc⟩) (fun _=>True) mx (by kernel_rfl) ?_ ?_
  ·(refine @ab _ ?_;exact aV)
  ·intro k hk' _
   have e1:IntKind.i64.wrap ((k:Int)+1)=((k+1:Nat):Int):=by rw[aX (by omega) (by omega)];omega
   (refine @ab _ ?_;refine au ?_)
   refine⟨fun hlt=>⟨hlt,fun a ha b2=>?_⟩,fun hge=>?_⟩
   ·have hok:=hk a (List.mem_of_getElem? ha)
    have hkn:a.key≠aJ:=fun e=>(by have:=((h0 k a ha).1 e).2;cases this)
    refine aS (J4 w0 k a _ hok hkn) ?_
    rcases Nat.eq_zero_or_pos k with z0|z0
    ·have z2:((k:Int)>0)=False:=eq_false (by omega)
     (refine @ab _ ?_;refine an @z2 ?_)
     exact⟨hlt,e1⟩
    ·have z2:((k:Int)>0)=True:=eq_true (by omega)
     have z3:IntKind.i64.wrap ((k:Int)-1)=((k-1:Nat):Int):=by rw[aX (by omega) (by omega)];omega
     obtain⟨c0,hc0⟩:∃c0,l[k-1]? =some c0:=⟨_,List.getElem?_eq_getElem (by omega)⟩
     have z4:mg a.key c0.key=false:=tr.2 (by obtain⟨u1,rfl⟩:=List.getElem?_eq_some_iff.1 hc0;obtain⟨u2,rfl⟩:=List.getElem?_eq_some_iff.1 ha;exact List.pairwise_iff_getElem.1 hr _ _ u1 u2 (by omega))
     (refine @ab _ ?_;refine ba @z2 @z3 ?_)
     refine⟨by omega,fun c1 hc1=>?_⟩
     cases eE hc0 hc1
     (refine @ab _ ?_;refine an @z4 ?_)
     exact⟨hlt,e1⟩
   ·refine aS (Pw w0 _) ?_
    have hpos:((l.length:Int)≥1)=True:=eq_true (by
     rcases h1 with q|⟨_,q⟩ <;>omega)
    (refine @ab _ ?_;refine an @hpos ?_)
    refine aS (hcl _) ?_
    (refine @ab _ ?_;refine au ?_)
    refine aS (Jh w0 (l.map (eH true)) _ (by omega) (by rw[List.length_map];exact hl)) ?_
    have hle:decide ((bO (l.map (eH true)):Int)≤122)=true:=decide_eq_true (by omega)
    (refine @ab _ ?_;exact mc @hle)
 |false=>
  refine aZ [] mx Tryz.func260 rfl rfl (by kernel_rfl) ?_;(refine @ab _ ?_;refine an @Tryz.ntmps260 ?_)
  intro b1
  refine aS (sN w0 _) ?_
  (refine @ab _ ?_;refine au ?_)
  refine aS (hkd _) ?_
  (refine @ab _ ?_;refine au ?_)
  refine aF [] l.length [1,3,12,13,14] (fun k=>[(14,dI k)]) (fun k=>⟨(b1.n,[dB false,.sl 5 false (l.map vp)])::S.box,S.acc⟩) (fun _=>True) mx (by kernel_rfl) ?_ ?_
  ·(refine @ab _ ?_;exact aV)
  ·intro k hk' _
   have e1:IntKind.i64.wrap ((k:Int)+1)=((k+1:Nat):Int):=by rw[aX (by omega) (by omega)];omega
   (refine @ab _ ?_;refine au ?_)
   refine⟨fun hlt=>⟨hlt,fun a ha b2=>?_⟩,fun hge=>?_⟩
   ·have hok:=hk a (List.mem_of_getElem? ha)
    have hkn:a.key=aJ↔k=0:=⟨fun e=>((h0 k a ha).1 e).1,fun e=>(h0 k a ha).2 ⟨e,rfl⟩⟩
    refine aS (DA w0 k a _ hok hkn) ?_
    rcases Nat.eq_zero_or_pos k with z0|z0
    ·have z2:((k:Int)>0)=False:=eq_false (by omega)
     (refine @ab _ ?_;refine an @z2 ?_)
     exact⟨hlt,e1⟩
    ·have z2:((k:Int)>0)=True:=eq_true (by omega)
     have z3:IntKind.i64.wrap ((k:Int)-1)=((k-1:Nat):Int):=by rw[aX (by omega) (by omega)];omega
     obtain⟨c0,hc0⟩:∃c0,l[k-1]? =some c0:=⟨_,List.getElem?_eq_getElem (by omega)⟩
     have z4:mg a.key c0.key=false:=tr.2 (by obtain⟨u1,rfl⟩:=List.getElem?_eq_some_iff.1 hc0;obtain⟨u2,rfl⟩:=List.getElem?_eq_some_iff.1 ha;exact List.pairwise_iff_getElem.1 hr _ _ u1 u2 (by omega))
     (refine @ab _ ?_;refine ba @z2 @z3 ?_)
     refine⟨by omega,fun c1 hc1=>?_⟩
     cases eE hc0 hc1
     (refine @ab _ ?_;refine an @z4 ?_)
     exact⟨hlt,e1⟩
   ·refine aS (OK w0 _) ?_
    have hpos:((l.length:Int)≥2)=True:=eq_true (by
     rcases h1 with q|⟨q,_⟩
     ·omega
     ·cases q)
    (refine @ab _ ?_;refine an @hpos ?_)
    refine aS (hcl _) ?_
    (refine @ab _ ?_;refine au ?_)
    refine aS (Jh w0 (l.map (eH false)) _ (by omega) (by rw[List.length_map];exact hl)) ?_
    have hle:decide ((bO (l.map (eH false)):Int)≤122)=true:=decide_eq_true (by omega)
    (refine @ab _ ?_;exact mc @hle)
theorem Q8(w0:W0)(hg:fw w0)(b:Bool)(l:List E8)(S:St)(hl:l.length≤1048576)(hk:∀e,e∈l→Nb b e)(hr:l.Pairwise fun x y=>cH x.key y.key=true)(h0:∀(i:Nat) e,l[i]? =some e→(e.key=aJ↔i=0∧b=false))(hs:bO (l.map (eH b))≤122)(h1:1<l.length∨(b=true∧l.length=1)):
 aa Tryz.prog w0 252 [.agg [dB b,.sl 5 false (l.map vp)]] S (fun d S'=>d= .bD [fC (cS (if b then 1 else 2) (l.map (eH b))),dI 0]∧S'=S):=by
 have hkd:=fun S=>M8 w0 b l S
 have hcl:=fun S=>Jc w0 b l S hl hk
 have hch:=fun S=>ND w0 b l S hl hk hr h0 hs h1
 have hpk:=fun S=>Eu w0 hg (if b then 1 else 2) (l.map (eH b)) S (by cases b <;>decide) (by cases b <;>decide) (by cases b <;>decide) hs
 generalize (if b then(1:Int)else 2)=kd at*
 refine aZ [] mx Tryz.func252 rfl rfl (by kernel_rfl) ?_;(refine @ab _ ?_;refine an @Tryz.ntmps252 ?_)
 intro b1
 refine ao (hch _) ?_
 (refine @ab _ ?_;refine au ?_)
 refine aS (hkd _) ?_
 (refine @ab _ ?_;refine au ?_)
 refine aS (hcl _) ?_
 (refine @ab _ ?_;refine au ?_)
 refine aS (hpk _) ?_
 (refine @ab _ ?_;exact aV)
end Go.Proofs.YtpjenciplibdnaaGreatDoor
namespace Go.Proofs.YtpjenciplibdnaaGreatDoor
open Aml Go
section
variable (S:St) (l:Nat) (K:DV→St→Prop)
theorem Tt:eL (.mp l)=true:=rfl
theorem VB:cd (.mp l)=[.mp l]:=rfl
theorem RD:shr S (.mp l) K=K (.mp l) S:=rfl
end
attribute [go_sem] Tt VB
attribute [go_sem ↓] RD
@[go_sem] def BF (b:Nat):DV:= .v (.pointer (some ⟨b,0,none⟩))
def k9(a:Int):Value:= .int .i64 a
def Seen(es:List (Value×DV×Nat))(pre:List Int):Prop:=∀x,iE es (k9 x)=if x∈pre then some (dI 1)else none
theorem Yy(w0:W0){S:St}{bp la m c:Nat}{pre:List Int}{es:List (Value×DV×Nat)}(hb:lk S.box bp=some [.acc la pre.length,.mp m])(ha:lk S.acc la=some (.arr 1 (pre.map dI)))(hm:lk S.acc m=some (.xo (.mp (.int .i64) es c)))(hs:Seen es pre)(hl:pre.length≤1000)
 (x:Int) (h1:2≤x) (h2:x≤999) (hx:x∉pre) (hne:¬la=m):
 aa Tryz.prog w0 266 [BF bp,dI x] S (fun d S'=>d=dB true∧S'=⟨up S.box bp [.acc la (pre++[x]).length,.mp m],up (up S.acc la (.arr 1 ((pre++[x]).map dI))) m (.xo (.mp (.int .i64) (jO es c (k9 x) (dI 1)) (qt es c (k9 x))))⟩):=by
 have hg:iE es (.int .i64 x)=none:=by have:=hs x;rw[if_neg hx]at this;exact this
 have f1:(x<2)=False:=eq_false (by omega)
 have f2:(x>999)=False:=eq_false (by omega)
 have hm8:maxLen=9223372036854775807:=rfl
 have ez:IntKind.i64.wrap (0+1)=1:=by decide
 have hmu:∀v,lk (up S.acc la v) m=some (.xo (.mp (.int .i64) es c)):=fun v=>by rw[aM hne];exact hm
 refine mf [] mx Tryz.func266 rfl rfl (by kernel_rfl) ?_;simp(maxDischargeDepth:=12) (maxSteps:=1000000) -implicitDefEqProofs only[Tryz.ntmps266,go_sem,Nat.reduceAdd,Nat.reduceSub,Nat.reduceMul,Nat.reduceLeDiff,Nat.reduceEqDiff,Nat.reduceGT,Nat.reduceBEq,reduceCtorEq,↓reduceIte,Int.reduceToNat,Int.reduceLE,Int.reduceLT,Int.reduceNe,Int.reduceEq,f1,f2,hb,hm,hg,ha,hmu,ez]
 have hmap:(pre++[x]).map dI=pre.map dI++[.v (.int .i64 x)]:=by simp[dI]
 refine⟨fun q=>absurd q (by decide),fun _=>⟨by omega,by omega,?_⟩⟩
 rw[hmap]
 rfl
theorem IL{es:List (Value×DV×Nat)}{pre:List Int}(h:Seen es pre)(c:Nat)(x:Int):Seen (jO es c (k9 x) (dI 1)) (pre++[x]):=fun y=>by
 by_cases q:y=x
 ·subst q
  rw[kf,if_pos (by simp)]
 ·rw[rv _ _ (k:=k9 x) (k':=k9 y) (fun e=>q (by unfold k9 at e;cases e;rfl)),h]
  simp[q]
structure Rj(S:St)(bp la m:Nat)(pre:List Int):Prop where
 b:lk S.box bp=some [.acc la pre.length,.mp m]
 a:lk S.acc la=some (.arr 1 (pre.map dI))
 m:∃es c,lk S.acc m=some (.xo (.mp (.int .i64) es c))∧Seen es pre
structure Iv(S S':St)(bp la m:Nat):Prop where
 b:∀c x,c≠bp→lk S.box c=some x→lk S'.box c=some x
 a:∀c x,c≠la→c≠m→lk S.acc c=some x→lk S'.acc c=some x
theorem XW(w0:W0){S:St}{bp la m:Nat}{pre:List Int}(h:Rj S bp la m pre)(hl:pre.length≤1000)(x:Int)(h1:2≤x)(h2:x≤999)(hx:x∉pre)(hne:¬la=m):
 aa Tryz.prog w0 266 [BF bp,dI x] S (fun d S'=>d=dB true∧Rj S' bp la m (pre++[x])∧Iv S S' bp la m):=by
 obtain⟨es,c,hm,hs⟩:=h.m
 refine(Yy w0 h.b h.a hm hs hl x h1 h2 hx hne).mono ?_
 rintro d S' ⟨rfl,rfl⟩
 refine⟨rfl,⟨?_,?_,jO es c (k9 x) (dI 1),qt es c (k9 x),?_,IL hs c x⟩,fun c x hc hx=>?_,fun c x hc hc2 hx=>?_⟩
 ·show lk (up S.box bp _) bp=_
  rw[ax,h.b];rfl
 ·show lk (up (up S.acc la _) m _) la=_
  rw[aM (fun e=>hne e.symm),ax,h.a];rfl
 ·show lk (up (up S.acc la _) m _) m=_
  rw[ax,aM hne,hm];rfl
 ·show lk (up S.box bp _) c=_
  rw[aM (fun e=>hc e.symm)];exact hx
 ·show lk (up (up S.acc la _) m _) c=_
  rw[aM (fun e=>hc2 e.symm),aM (fun e=>hc e.symm)];exact hx
theorem UW(w0:W0){S:St}{b6 bp la m:Nat}{pre:List Int}(h6:lk S.box b6=some [BF bp])(h:Rj S bp la m pre)(hl:pre.length≤1000)(x:Int)(h1:2≤x)(h2:x≤999)(hx:x∉pre)(hne:¬la=m):
 aa Tryz.prog w0 265 [dI x,BF b6] S (fun d S'=>d=dB false∧Rj S' bp la m (pre++[x])∧Iv S S' bp la m):=by
 refine mf [] mx Tryz.func265 rfl rfl (by kernel_rfl) ?_;simp only[Tryz.ntmps265,List.length_cons,List.length_nil,Nat.reduceAdd,Nat.reduceSub,List.reduceReplicate,List.cons_append,List.nil_append];(refine @ab _ ?_;refine ba @Tryz.ntmps265 @h6 ?_)
 refine bA (XW w0 h hl x h1 h2 hx hne) ?_
 rintro _ S' ⟨rfl,hp,hf⟩
 (refine @ab _ ?_;refine au ?_)
 exact⟨hp,hf⟩
theorem Iv.refl(S:St)(bp la m:Nat):Iv S S bp la m:=⟨fun _ _ _ h=>h,fun _ _ _ _ h=>h⟩
theorem Iv.trans{S T U:St}{bp la m:Nat}(h:Iv S T bp la m)(k:Iv T U bp la m):Iv S U bp la m:=⟨fun c x hc hx=>k.b c x hc (h.b c x hc hx),fun c x hc hc2 hx=>k.a c x hc hc2 (h.a c x hc hc2 hx)⟩
theorem NG(w0:W0){S:St}{b6 bp la m:Nat}(at_:List Int)(h6:lk S.box b6=some [BF bp])(h:Rj S bp la m [])(hl:at_.length≤1000)(hr:∀x,x∈at_→2≤x∧x≤999)(hd:at_.Nodup)(hne:¬la=m)(hb6:b6≠bp):
 aa Tryz.prog w0 229 [dL at_,.v (.func (.func 265) #[] #[.pointer (some ⟨b6,0,none⟩)])] S (fun d S'=>d=dI (-1)∧Rj S' bp la m at_∧Iv S S' bp la m):=by
 refine mf [] mx Tryz.func229 rfl rfl (by kernel_rfl) ?_;(refine @ab _ ?_;refine an @Tryz.ntmps229 ?_)
 refine jR [] [0,1,7,8] (fun s:Nat×St=>[(8,dI s.1)]) (fun s=>s.2) (fun s=>s.1≤at_.length∧Rj s.2 bp la m (at_.take s.1)∧Iv S s.2 bp la m) (fun s=>at_.length-s.1) (0,S) mx (by kernel_rfl) ?_ ?_
 ·refine⟨⟨by simp,h,Iv.refl _ _ _ _⟩,?_,?_⟩
  ·(refine @ab _ ?_;exact aV)
  ·exact .refl _
 ·rintro⟨k,T⟩ ⟨hk,hT,hF⟩
  simp only at hk hT hF
  have e1:IntKind.i64.wrap ((k:Int)+1)=((k+1:Nat):Int):=by rw[aX (by omega) (by omega)];omega
  (refine @ab _ ?_;refine au ?_)
  refine⟨fun hlt=>⟨hlt,fun x hx=>?_⟩,fun hge=>?_⟩
  ·have ht:at_.take (k+1)=at_.take k++[x]:=by rw[List.take_add_one,hx];rfl
   have hm:=List.mem_of_getElem? hx
   have hno:x∉at_.take k:=fun q=>by
    have:=hd.sublist (List.take_sublist (k+1) at_)
    rw[ht,List.nodup_append]at this
    exact this.2.2 x q x (by simp) rfl
   refine bA (UW w0 (hF.b b6 _ hb6 h6) hT (by rw[List.length_take];omega) x (hr x hm).1 (hr x hm).2 hno hne) ?_
   rintro _ T2 ⟨rfl,hT2,hF2⟩
   (refine @ab _ ?_;refine au ?_)
   exact⟨(k+1,T2),⟨hlt,ht▸hT2,hF.trans hF2⟩,by show at_.length-(k+1)<at_.length-k;omega,e1,.refl _⟩
  ·have hk2:at_.take k=at_:=List.take_of_length_le (by omega)
   rw[hk2]at hT
   exact⟨hT,hF⟩
theorem Eo(w0:W0){S:St}{b6 bp la m:Nat}(at_:List Int)(h6:lk S.box b6=some [BF bp])(h:Rj S bp la m [])(hl:at_.length≤1000)(hr:∀x,x∈at_→2≤x∧x≤999)(hd:at_.Nodup)(hne:¬la=m)(hb6:b6≠bp):
 aa Tryz.prog w0 264 [dL at_,.v (.func (.func 265) #[] #[.pointer (some ⟨b6,0,none⟩)])] S (fun d S'=>d=dB false∧Iv S S' bp la m):=by
 refine mf [] mx Tryz.func264 rfl rfl (by kernel_rfl) ?_;(refine @ab _ ?_;refine an @Tryz.ntmps264 ?_)
 refine bA (NG w0 at_ h6 h hl hr hd hne hb6) ?_
 rintro _ T ⟨rfl,_,hF⟩
 (refine @ab _ ?_;refine au ?_)
 exact⟨rfl,hF⟩
end Go.Proofs.YtpjenciplibdnaaGreatDoor
namespace Go.Proofs.YtpjenciplibdnaaGreatDoor
open Aml Go
theorem EJ(w0:W0)(l:List Int)(S:St)(h:l.length≤1048576):aa Tryz.prog w0 227 [dL l] S (fun d S'=>∃r:FN S.acc,d= .acc r.n l.length∧S'=⟨S.box,(r.n,.arr 1 (l.map dI))::S.acc⟩):=by
 have hm8:maxLen=9223372036854775807:=rfl
 cases l with
 |nil=>
  refine gU (K':=fun d S'=>(d= .sl 0 true []∧S'=S)∨∃r:FN S.acc,d= .acc r.n 0∧S'=⟨S.box,(r.n,.arr 1 [])::S.acc⟩) ?_ 1 (by omega) ?_
  ·refine mf [] mx Tryz.func227 rfl rfl (by kernel_rfl) ?_;(refine @ab _ ?_;refine an @Tryz.ntmps227 ?_)
   exact⟨by omega,fun r=>⟨r,rfl,rfl⟩⟩
  ·rintro d S' (⟨rfl,rfl⟩|h)
   ·exact .inr ⟨⟨0,rfl⟩,fun l hl=>⟨⟨l,hl⟩,rfl,rfl⟩⟩
   ·exact .inl h
 |cons a t=>
  simp only[List.length_cons]at h
  refine mf [] mx Tryz.func227 rfl rfl (by kernel_rfl) ?_;(refine @ab _ ?_;refine an @Tryz.ntmps227 ?_)
  exact⟨by omega,by omega,fun r=>⟨r,rfl,rfl⟩⟩
theorem Un(w0:W0)(v:ByteArray)(S:St):aa Tryz.prog w0 267 [fC v,dI 119] S (fun d S'=>∃(b:FN S.box) (c:FN ((b.n,[fC v])::S.box)),d= .v (.func (.func 273) #[] #[.pointer (some ⟨b.n,0,none⟩),.pointer (some ⟨c.n,0,none⟩)])∧S'=⟨(c.n,[dI 119])::(b.n,[fC v])::S.box,S.acc⟩):=by
 refine mf [] mx Tryz.func267 rfl rfl (by kernel_rfl) ?_;(refine @ab _ ?_;refine an @Tryz.ntmps267 ?_)
 exact fun b c=>⟨b,c,rfl,rfl⟩
def Zu(v:ByteArray)(k:Nat):DV:= .sl 1 true (bY (v.extract (119*k) (119*k+iC v.size k)))
theorem RL(w0:W0)(l b c:Nat)(v:ByteArray)(n:Nat)(X:List Nat→St)(hn:119*n<v.size+119∧v.size≤119*n)(hv:v.size≤1048576)(hb:∀pre,lk (X pre).box b=some [fC v])(hc:∀pre,lk (X pre).box c=some [dI 119])
 (hy:YK Tryz.prog w0 l X (fun x=>[Zu v (x-1)]) (Vr n)):∀T,Has (X []) T→aa Tryz.prog w0 273 [.v (.func (.yield l) #[] #[]),.v (.pointer (some ⟨b,0,none⟩)),.v (.pointer (some ⟨c,0,none⟩))] T (fun _ T'=>Has (X (Vr n)) T'):=by
 intro T hT
 have t0:lk T.box b=some [fC v]:=hT.box _ _ (hb _)
 have t1:lk T.box c=some [dI 119]:=hT.box _ _ (hc _)
 have hs:(bY v).length=v.size:=bg v
 refine vF [] mx Tryz.func273 rfl rfl (by kernel_rfl) ?_;simp only[Tryz.ntmps273,List.length_cons,List.length_nil,Nat.reduceAdd,Nat.reduceSub,List.reduceReplicate,List.cons_append,List.nil_append];(refine @ab _ ?_;refine eW @Tryz.ntmps273 @t0 @t1 ?_)
 refine jR [] [0,1,2,4] (fun s:St×Nat=>[(4,dI (119*s.2:Nat))]) (fun s=>s.1) (fun s=>s.2≤n∧Has (X (Vr s.2)) s.1) (fun s=>n-s.2) (T,0) mx (by kernel_rfl) ?_ ?_
 ·(refine @ab _ ?_;refine au ?_)
  exact⟨Nat.zero_le _,hT⟩
 ·rintro⟨T,k⟩ ⟨hk,hT'⟩
  simp only at hk hT'
  have t0:lk T.box b=some [fC v]:=hT'.box _ _ (hb _)
  have t1:lk T.box c=some [dI 119]:=hT'.box _ _ (hc _)
  (refine @ab _ ?_;refine eW @t0 @t1 @hs ?_)
  have ec:(((119*k:Nat):Int)+if((v.size-119*k:Nat):Int)<119 then((v.size-119*k:Nat):Int)else 119)=((119*k+iC v.size k:Nat):Int):=by
   unfold iC
   split <;>omega
  have hp:iC v.size k≤119∧(119*k≤v.size→119*k+iC v.size k≤v.size):=by unfold iC;omega
  rw[ec,aX (by omega) (by omega),Int.toNat_natCast]
  refine⟨fun hlt=>⟨by omega,by omega,by have:=hp.2 (by omega);omega,?_⟩,fun hge=>?_⟩
  ·have ee:((bY v).take (119*k+iC v.size k)).drop (119*k)=bY (v.extract (119*k) (119*k+iC v.size k)):=by
    unfold bY
    rw[ByteArray.data_extract,Array.toList_extract,List.extract_eq_take_drop,List.map_take,List.map_drop,List.drop_take]
   rw[ee]
   refine Ki (hy (Vr k) (k+1) T (by rw[←pT];exact Ln (by omega)) hT') ?_
   rintro d T2 ⟨rfl,hT2,hK⟩
   have t2:lk T2.box c=some [dI 119]:=hT2.box _ _ (hc _)
   have e3:IntKind.i64.wrap (((119*k:Nat):Int)+119)=((119*(k+1):Nat):Int):=by rw[aX (by omega) (by omega)];omega
   (refine @ab _ ?_;refine an @t2 ?_)
   exact⟨(T2,k+1),⟨by omega,by show Has (X (Vr (k+1))) T2;rw[pT];exact hT2⟩,by show n-(k+1)<n-k;omega,e3,.refl _⟩
  ·have:n=k:=by omega
   rw[this]
   refine⟨_,T,.refl _,.refl _,?_⟩
   exact hT'
theorem Hy{P:Program}{w0:W0}{f:FuncId}{args:List DV}{S:St}{K:DV→Prop}(h:aa P w0 f args S fun d T=>K d∧Has S T):aa P w0 f args S fun d S'=>K d∧S'=S:=by
 intro g vs w h1 h2
 refine(h g vs w h1 h2).mono ?_
 rintro e w' ⟨r,g',d,T,q1,q2,q3,q4,hk,hs⟩
 exact⟨r,g',d,S,q1,q2,q3.has hs h1.nb h1.na,q4,hk,rfl⟩
theorem fp{α:Type}{l:List (Nat×α)}(b:FN l){c:Nat}{x:α}(h:lk l c=some x):b.n≠c:=fun e=>by rw[←e,jt b]at h;cases h
theorem rG{α:Type}{l:List (Nat×α)}(b:FN l){c:Nat}{x:α}(v:α)(h:lk l c=some x):lk ((b.n,v)::l) c=some x:=by simp only[lk];rw[if_neg (fp b h)];exact h
theorem nZ{α:Type}{l:List (Nat×α)}{b c:Nat}{v:α}(h:b≠c):lk ((b,v)::l) c=lk l c:=by simp only[lk];rw[if_neg h]
theorem Kw{P:Program}{w0:W0}(S0:St)(gs ns ord:List Nat){id:Nat}{l:List Oper}{fr:List DV}{S:St}{Q:Exit→List DV→St→Prop}(hm:P.follows .mixedOrders=true)(hB:Y.UA l gs ns ord=true)(h:Y.xU P w0 S0 gs ns l.toArray (fun fr S=>jA fr fun fr=>Q .normal fr S) ord fr S):gk P w0 (.region id l.toArray true) fr S Q:=by
 simp only[Y.UA,Bool.and_eq_true,beq_iff_eq]at hB
 refine Y.qM hm hB.1.2 hB.2 (Y.jm (fun i o ho=>?_) ord h)
 have:l[i]? =some o:=by simpa using ho
 exact List.all_eq_true.1 hB.1.1 o (List.mem_of_getElem? this)
theorem l7{b:Nat}{x:List DV}{U:St}(h:lk U.box b=some x):Has ⟨[(b,x)],[]⟩ U:=by
 constructor
 ·intro c y hc
  simp only[lk]at hc
  split at hc
  ·rename_i e;subst e;rw[h];exact hc
  ·cases hc
 ·intro c y hc
  simp only[lk]at hc
  cases hc
theorem YI{X X' T T':St}{b c l:Nat}(hX:∀d x,lk X'.box d=some x→d≠b→d≠c→lk X.box d=some x)(hA:∀d x,lk X'.acc d=some x→d≠l→lk X.acc d=some x)(h:Has X T)
 (hb:∀x,lk X'.box b=some x→lk T'.box b=some x) (hc:∀x,lk X'.box c=some x→lk T'.box c=some x) (hl:∀x,lk X'.acc l=some x→lk T'.acc l=some x)
 (hT:∀d,d≠b→d≠c→lk T'.box d=lk T.box d) (hU:∀d,d≠l→lk T'.acc d=lk T.acc d):Has X' T':=⟨fun d x hx=>by
 by_cases e1:d=b
 ·subst e1;exact hb x hx
 by_cases e2:d=c
 ·subst e2;exact hc x hx
 rw[hT d e1 e2];exact h.box d x (hX d x hx e1 e2),fun d x hx=>by
 by_cases e1:d=l
 ·subst e1;exact hl x hx
 rw[hU d e1];exact h.acc d x (hA d x hx e1)⟩
theorem ZM{X T T':St}{b c l:Nat}(hb:lk X.box b≠none)(hc:lk X.box c≠none)(hl:lk X.acc l≠none)(hT:∀d,d≠b→d≠c→lk T'.box d=lk T.box d)(hU:∀d,d≠l→lk T'.acc d=lk T.acc d):Kp X T T':=⟨fun d x hd hx=>by
 rw[hT d (fun e=>hb (e▸hd)) (fun e=>hc (e▸hd))];exact hx,fun d x hd hx=>by
 rw[hU d (fun e=>hl (e▸hd))];exact hx⟩
def qK(at_:List Int):List Int:=at_.drop 1++[0]
theorem UY(w0:W0)(hg:fw w0)(v:ByteArray)(at_:List Int)(S:St)(hv:v.size≤400)(hn:need (v.size:Int)=at_.length)(h0:at_≠[])(hr:∀x,x∈at_→2≤x∧x≤999)(hd:at_.Nodup):
 aa Tryz.prog w0 259 [dS v,dL at_] S (fun d S'=>d= .bD [.sl 1 false ((bl v at_).map fC),dI 0]∧Has S S'):=by
 have hpos:=List.length_pos_iff.2 h0
 have hneed:16<v.size∧119*(at_.length-1)<v.size∧v.size≤119*at_.length∧at_.length≤4:=by
  unfold need at hn
  split at hn
  ·omega
  ·omega
 have hcl:(bl v at_).length=at_.length:=by unfold bl;rw[List.length_map,List.length_range]
 refine mf [2,6,11,12] mx Tryz.func259 rfl rfl (by kernel_rfl) ?_;(refine @ab _ ?_;refine an @Tryz.ntmps259 ?_)
 intro b1 b2 m b3 b6
 refine ib b3.n 0 1 (by omega) (ds:=[.sl 0 true [],.mp m.n]) (by(refine @ab _ ?_;exact aV)) rfl fun la=>?_
 refine lE [6,11,12] [] mx (by kernel_rfl) ?_
 (refine @ab _ ?_;refine au ?_)
 refine⟨fun h=>absurd h (by omega),fun _=>?_⟩
 refine ao (Ap w0 _ _) ?_
 (refine @ab _ ?_;refine an @hn ?_)
 have hne:¬la.n=m.n:=by(refine @ab _ ?_;exact aV)
 refine bA (Eo w0 (b6:=b6.n) (bp:=b3.n) (la:=la.n) (m:=m.n) at_ (by(refine @ab _ ?_;exact aV)) ⟨by(refine @ab _ ?_;exact aV),by(refine @ab _ ?_;exact aV),[],0,by(refine @ab _ ?_;exact aV),fun x=>rfl⟩ (by omega) hr hd hne (by(refine @ab _ ?_;exact aV))) ?_
 rintro _ T ⟨rfl,hF⟩
 have hST:Has S T:=⟨fun c x hx=>by
  have h1:=rG b1 [.sl 0 true []] hx
  have h2:=rG b2 [dI 0] h1
  have h3:=rG b3 [.acc la.n 0,.mp m.n] h2
  have h4:=(nZ (v:=[BF b3.n]) (fp b6 (rG b3 [.sl 0 true [],.mp m.n] h2))).trans h3
  exact hF.b c x (fun e=>fp b3 h2 e.symm) h4,fun c x hx=>by
  have h1:=rG m (.xo (.mp (.int .i64) [] 0)) hx
  have h2:=rG la (.arr 1 []) h1
  exact hF.a c x (fun e=>fp la h1 e.symm) (fun e=>fp m hx e.symm) h2⟩
 have tb1:lk T.box b1.n=some [.sl 0 true []]:=hF.b _ _ (by(refine @ab _ ?_;exact aV)) (by(refine @ab _ ?_;exact aV))
 have tb2:lk T.box b2.n=some [dI 0]:=hF.b _ _ (by(refine @ab _ ?_;exact aV)) (by(refine @ab _ ?_;exact aV))
 clear hF
 (refine @ab _ ?_;refine au ?_)
 refine⟨by omega,?_⟩
 refine bA (EJ w0 (at_.drop 1) _ (by rw[List.length_drop];omega)) ?_
 rintro _ _ ⟨r,rfl,rfl⟩
 have hdl:(at_.drop 1).length=at_.length-1:=List.length_drop ..
 have hm8:maxLen=9223372036854775807:=rfl
 (refine @ab _ ?_;refine au ?_)
 refine⟨by omega,by omega,fun b7 b8=>?_⟩
 refine ib b8.n 0 1 (by omega) (ds:=[.sl 0 true []]) (by(refine @ab _ ?_;exact aV)) rfl fun lo=>?_
 (refine @ab _ ?_;refine au ?_)
 have hnl:(qK at_).length=at_.length:=by unfold qK;simp;omega
 refine Me b7.n 0 (l:=r.n) (s:=1) (xs:=(qK at_).map dI) (ds:=[.acc r.n (at_.length-1+1)]) (by simp(maxDischargeDepth:=12) (maxSteps:=1000000) -implicitDefEqProofs only[go_sem,Nat.reduceAdd,Nat.reduceSub,Nat.reduceMul,Nat.reduceLeDiff,Nat.reduceEqDiff,Nat.reduceGT,Nat.reduceBEq,reduceCtorEq,↓reduceIte,Int.reduceToNat,Int.reduceLE,Int.reduceLT,Int.reduceNe,Int.reduceEq]) (by rw[List.length_map,hnl];simp;omega) (by unfold qK;simp(maxDischargeDepth:=12) (maxSteps:=1000000) -implicitDefEqProofs only[go_sem,Nat.reduceAdd,Nat.reduceSub,Nat.reduceMul,Nat.reduceLeDiff,Nat.reduceEqDiff,Nat.reduceGT,Nat.reduceBEq,reduceCtorEq,↓reduceIte,Int.reduceToNat,Int.reduceLE,Int.reduceLT,Int.reduceNe,Int.reduceEq,List.map_append]) ?_
 (refine @ab _ ?_;refine au ?_)
 refine lE [11,12] [] mx (by kernel_rfl) ?_
 (refine @ab _ ?_;refine au ?_)
 have hsv:=bg v
 unfold bY at hsv
 refine⟨by omega,bA (Un w0 v _) ?_⟩
 rintro _ _ ⟨bv,bn,rfl,rfl⟩
 (refine @ab _ ?_;refine au ?_)
 have hU:∀k,k<at_.length→(qK at_).drop k=(at_[k+1]?).getD 0::(qK at_).drop (k+1):=fun k hk=>by
  rw[List.drop_eq_getElem_cons (by omega)]
  congr 1
  unfold qK
  rw[List.getElem_append]
  split
  ·rename_i h;rw[List.getElem?_eq_getElem (by omega),Option.getD_some,List.getElem_drop]
   congr 1;omega
  ·rename_i h;rw[List.getElem?_eq_none (by omega),Option.getD_none];simp
 have n1:¬bv.n=b8.n:=fp bv (x:=[.acc lo.n 0]) (by simp[lk])
 have n6:¬b8.n=b7.n:=fp b8 (x:=[.acc r.n (at_.length-1+1)]) (by simp[lk])
 have n2:¬bv.n=b7.n:=fp bv (x:=[.sl 1 false ((qK at_).map dI)]) (by simp[lk,n6])
 have n3:¬bn.n=bv.n:=fp bn (x:=[fC v]) (by simp[lk])
 have n4:¬bn.n=b8.n:=fp bn (x:=[.acc lo.n 0]) (by simp[lk,n1])
 have n5:¬bn.n=b7.n:=fp bn (x:=[.sl 1 false ((qK at_).map dI)]) (by simp[lk,n6,n2])
 have hy9:∀i:Nat,0≤(at_[i]?).getD 0∧(at_[i]?).getD 0≤999:=fun i=>by
  cases q:at_[i]? with
  |none=>exact⟨by decide,by decide⟩
  |some x=>have:=hr x (List.mem_of_getElem? q);exact⟨by show 0≤x;omega,this.2⟩
 refine qp [11] (fun pre:List Nat=>⟨(bn.n,[dI 119])::(bv.n,[fC v])::(b8.n,[.acc lo.n pre.length])::(b7.n,[.sl 1 false (((qK at_).drop pre.length).map dI)])::T.box,(lo.n,.arr 1 (((bl v at_).take pre.length).map fC))::(r.n,.tl 1 ((qK at_).map dI))::T.acc⟩) (fun x:Nat=>[Zu v (x-1)]) (Vr at_.length) mx (by kernel_rfl) rfl rfl rfl (fun _=>rfl) (fun _=>rfl) (fun _=>rfl) ?_ ?_ ?_
 ·intro ly w1 hy U hU
  exact RL w1 ly bv.n bn.n v at_.length _ ⟨by omega,by omega⟩ (by omega) (fun _=>by simp[lk,n1,n2,n3,n4,n5,n6]) (fun _=>by simp[lk,n1,n2,n3,n4,n5,n6]) hy U hU
 ·intro pre x U hp hU2
  obtain⟨rfl,hlt⟩:=Rk hp
  have t7:lk U.box b7.n=some [.sl 1 false (((qK at_).drop pre.length).map dI)]:=hU2.box _ _ (by simp[lk,n1,n2,n3,n4,n5,n6])
  have t8:lk U.box b8.n=some [.acc lo.n pre.length]:=hU2.box _ _ (by simp[lk,n1,n2,n3,n4,n5,n6])
  have tl:lk U.acc lo.n=some (.arr 1 (((bl v at_).take pre.length).map fC)):=hU2.acc _ _ (by(refine @ab _ ?_;exact aV))
  rw[hU _ hlt]at t7
  simp only[ji]
  (refine @ab _ ?_;refine eW @t7 @t8 @tl ?_)
  have hy0:=hy9 (pre.length+1)
  have hc0:ou v at_ pre.length=aC 2 (IntKind.u64.wrap ((at_[pre.length+1]?).getD 0))++v.extract (119*pre.length) (119*pre.length+iC v.size pre.length):=rfl
  have hcs:=rr (v:=v) (at_:=at_) (i:=pre.length) (by omega)
  have hpl:iC v.size pre.length≤119:=by unfold iC;omega
  have hpk:=fun S=>Eu w0 hg 3 [ou v at_ pre.length] S (by decide) (by decide) (by decide) (by simp only[bO,List.map_cons,List.map_nil,List.sum_cons,List.sum_nil];omega)
  have htk:(bl v at_).take (pre.length+1)=(bl v at_).take pre.length++[cS 3 [ou v at_ pre.length]]:=by
   rw[List.take_add_one];unfold bl;rw[List.getElem?_map,List.getElem?_range hlt];rfl
  have hes:(v.extract (119*pre.length) (119*pre.length+iC v.size pre.length)).size≤119:=by rw[ByteArray.size_extract];omega
  have hew:IntKind.u64.wrap ((at_[pre.length+1]?).getD 0)=(at_[pre.length+1]?).getD 0:=gJ (by omega) (by omega)
  generalize cS 3 [ou v at_ pre.length]=PK at*
  rw[hew]at hc0 ⊢
  refine⟨by omega,ao (tx w0 _ 2 _ (by decide) (by decide) hy0.1 (by omega)) ?_⟩
  (refine @ab _ ?_;refine au ?_)
  refine ao (Qa w0 (aC 2 ((at_[pre.length+1]?).getD 0)) (v.extract (119*pre.length) (119*pre.length+iC v.size pre.length)) _ (by rw[av];omega)) ?_ (.cons ((Wk.full _ _ _).trans (Wk.sl (.cons (.refl _) (.cons (Wk.full _ _ _) .nil)))) .nil)
  rw[←hc0]
  (refine @ab _ ?_;refine au ?_)
  refine ao (hpk _) ?_ (.cons (.refl _) (.cons (Wk.full _ _ _) .nil))
  (refine @ab _ ?_;refine au ?_)
  rw[List.map_cons]at t7
  generalize dI ((at_[pre.length+1]?).getD 0)=y at t7
  refine Kw ⟨[(b7.n,[.sl 1 false (y::((qK at_).drop (pre.length+1)).map dI)])],[]⟩ [0,3,6] [7] [1,2,4,5,0,3,6,7] mx (by kernel_rfl) ?_
  have em:min pre.length (bl v at_).length=pre.length:=by omega
  have et:((qK at_).drop (pre.length+1)).take ((qK at_).length-(pre.length+1))=(qK at_).drop (pre.length+1):=List.take_of_length_le (by rw[List.length_drop];omega)
  have hT:∀(u w:List DV) d,d≠b8.n→d≠b7.n→lk (up (up U.box b8.n u) b7.n w) d=lk U.box d:=fun u w d q1 q2=>by rw[aM (fun e=>q2 e.symm),aM (fun e=>q1 e.symm)]
  have hA:∀(u:Ob) d,d≠lo.n→lk (up U.acc lo.n u) d=lk U.acc d:=fun u d q=>aM (fun e=>q e.symm) ..
  have n6':¬b7.n=b8.n:=fun e=>n6 e.symm
  have hfin:Has ⟨(bn.n,[dI 119])::(bv.n,[fC v])::(b8.n,[.acc lo.n (pre.length+1)])::(b7.n,[.sl 1 false (((qK at_).drop (pre.length+1)).map dI)])::T.box,(lo.n,.arr 1 (((bl v at_).take (pre.length+1)).map fC))::(r.n,.tl 1 ((qK at_).map dI))::T.acc⟩ ⟨up (up U.box b8.n [.acc lo.n (pre.length+1)]) b7.n [.sl 1 false (((qK at_).drop (pre.length+1)).map dI)],up U.acc lo.n (.arr 1 (((bl v at_).take pre.length).map fC++[fC PK]))⟩:=by
   refine YI (b:=b8.n) (c:=b7.n) (l:=lo.n) (fun d x hx q1 q2=>?_) (fun d x hx q1=>?_) hU2 (fun x hx=>?_) (fun x hx=>?_) (fun x hx=>?_) (hT _ _) (hA _)
   ·simpa[lk,q1.symm,q2.symm]using hx
   ·simpa[lk,q1.symm]using hx
   ·show lk (up (up U.box b8.n _) b7.n _) b8.n=_
    rw[aM n6',ax,t8]
    simpa[lk,n1,n4]using hx
   ·show lk (up (up U.box b8.n _) b7.n _) b7.n=_
    rw[ax,aM n6,t7]
    simpa[lk,n2,n5,n6]using hx
   ·show lk (up U.acc lo.n _) lo.n=_
    rw[ax,tl]
    rw[htk,List.map_append]at hx
    simpa[lk]using hx
  have hkp:=ZM (X:=⟨(bn.n,[dI 119])::(bv.n,[fC v])::(b8.n,[.acc lo.n pre.length])::(b7.n,[.sl 1 false (((qK at_).drop pre.length).map dI)])::T.box,(lo.n,.arr 1 (((bl v at_).take pre.length).map fC))::(r.n,.tl 1 ((qK at_).map dI))::T.acc⟩) (T:=U) (T':=⟨up (up U.box b8.n [.acc lo.n (pre.length+1)]) b7.n [.sl 1 false (((qK at_).drop (pre.length+1)).map dI)],up U.acc lo.n (.arr 1 (((bl v at_).take pre.length).map fC++[fC PK]))⟩) (b:=b8.n) (c:=b7.n) (l:=lo.n) (by simp[lk,n1,n4]) (by simp[lk,n2,n5,n6]) (by simp[lk]) (hT _ _) (hA _)
  (refine @ab _ ?_;refine eW @t8 @tl @t7 ?_)
  rw[em,et]
  exact⟨l7 t7,by omega,l7 t7,rfl,by omega,by omega,l7 t7,l7 (by show lk (up U.box b8.n _) b7.n=_;rw[aM n6];exact t7),hfin,hkp⟩
 ·rw[C1,List.take_of_length_le (by omega)]
  have hbs:∀(c:Nat) x,lk T.box c=some x→b7.n≠c∧b8.n≠c∧bv.n≠c∧bn.n≠c:=fun c x hx=>by
   have m7:=fp b7 hx
   have m8:=fp b8 (rG b7 [.acc r.n (at_.length-1+1)] hx)
   have mv:=fp bv (c:=c) (x:=x) (by simp[lk,m7,m8,hx])
   exact⟨m7,m8,mv,fp bn (c:=c) (x:=x) (by simp[lk,m7,m8,mv,hx])⟩
  have u1:lk ((bn.n,[dI 119])::(bv.n,[fC v])::(b8.n,[.acc lo.n at_.length])::(b7.n,[.sl 1 false (((qK at_).drop at_.length).map dI)])::T.box) b8.n=some [.acc lo.n at_.length]:=by simp[lk,n1,n4]
  have u2:∀c x,lk T.box c=some x→lk ((bn.n,[dI 119])::(bv.n,[fC v])::(b8.n,[.acc lo.n at_.length])::(b7.n,[.sl 1 false (((qK at_).drop at_.length).map dI)])::T.box) c=some x:=fun c x hx=>by
   obtain⟨q1,q2,q3,q4⟩:=hbs c x hx
   simp[lk,q1,q2,q3,q4,hx]
  generalize ((bn.n,[dI 119])::(bv.n,[fC v])::(b8.n,[.acc lo.n at_.length])::(b7.n,[.sl 1 false (((qK at_).drop at_.length).map dI)])::T.box)=B at*
  have v1:=u2 _ _ tb1
  have v2:=u2 _ _ tb2
  have n12:¬b2.n=b1.n:=fp b2 (x:=[.sl 0 true []]) (by simp[lk])
  refine Me b8.n 0 (l:=lo.n) (s:=1) (xs:=(bl v at_).map fC) (ds:=[.acc lo.n at_.length]) u1 (by rw[List.length_map,hcl];rfl) (by simp[lk]) ?_
  have e0:[DV.acc lo.n at_.length].set 0 (.sl 1 false ((bl v at_).map fC))=[.sl 1 false ((bl v at_).map fC)]:=rfl
  rw[e0]
  have hA2:∀c x,lk T.acc c=some x→lk (up ((lo.n,.arr 1 ((bl v at_).map fC))::(r.n,.tl 1 ((qK at_).map dI))::T.acc) lo.n (.tl 1 ((bl v at_).map fC))) c=some x:=fun c x hx=>by
   have q1:=fp r hx
   have q2:=fp lo (c:=c) (x:=x) (by simp[lk,q1,hx])
   rw[aM q2]
   simp[lk,q1,q2,hx]
  have m1:=(hbs _ _ tb1).2.1
  have m2:=(hbs _ _ tb2).2.1
  have w1:lk (up B b8.n [.sl 1 false ((bl v at_).map fC)]) b1.n=some [.sl 0 true []]:=by rw[aM m1];exact v1
  have w2:lk (up B b8.n [.sl 1 false ((bl v at_).map fC)]) b2.n=some [dI 0]:=by rw[aM m2];exact v2
  have w8:lk (up B b8.n [.sl 1 false ((bl v at_).map fC)]) b8.n=some [.sl 1 false ((bl v at_).map fC)]:=by rw[ax,u1];rfl
  have u3:∀c x,lk S.box c=some x→lk (up B b8.n [.sl 1 false ((bl v at_).map fC)]) c=some x:=fun c x hx=>by
   have q:=hST.box c x hx
   rw[aM (hbs c x q).2.1]
   exact u2 c x q
  refine lE [] [] mx (by kernel_rfl) ?_
  simp only[]
  generalize up B b8.n [.sl 1 false ((bl v at_).map fC)]=B2 at*
  generalize up ((lo.n,.arr 1 ((bl v at_).map fC))::(r.n,.tl 1 ((qK at_).map dI))::T.acc) lo.n (.tl 1 ((bl v at_).map fC))=A2 at*
  have hH:∀u w,Has S ⟨up (up B2 b1.n u) b2.n w,A2⟩:=fun u w=>⟨fun c x hx=>by
   show lk (up (up B2 b1.n u) b2.n w) c=_
   rw[aM (fp b2 (rG b1 _ hx)),aM (fp b1 hx)]
   exact u3 c x hx,fun c x hx=>hA2 c x (hST.acc c x hx)⟩
  (refine @ab _ ?_;refine DW @w8 @w1 @w2 @n12 ?_)
  exact hH _ _
theorem Vo(w0:W0)(hg:fw w0)(v:ByteArray)(at_:List Int)(S:St)(hv:v.size≤400)(hn:need (v.size:Int)=at_.length)(h0:at_≠[])(hr:∀x,x∈at_→2≤x∧x≤999)(hd:at_.Nodup):
 aa Tryz.prog w0 259 [dS v,dL at_] S (fun d S'=>d= .bD [.sl 1 false ((bl v at_).map fC),dI 0]∧S'=S):=
 Hy (K:=fun d=>d= .bD [.sl 1 false ((bl v at_).map fC),dI 0]) (UY w0 hg v at_ S hv hn h0 hr hd)
@[go_sem] def nH (w:Int×ByteArray):DV:= .agg [dI w.1,fC w.2]
def gi(S:St)(bs lw:Nat)(left:List Int)(ws:List (Int×ByteArray)):St:=⟨up S.box bs [.acc lw ws.length,.sl 1 false (left.map dI)],up S.acc lw (.arr 2 (ws.map nH))⟩
structure mb(S:St)(bs lw:Nat)(left:List Int)(ws:List (Int×ByteArray)):Prop where
 box:lk S.box bs=some [.acc lw ws.length,.sl 1 false (left.map dI)]
 acc:lk S.acc lw=some (.arr 2 (ws.map nH))
theorem oX{S:St}{bs lw:Nat}{left:List Int}{ws:List (Int×ByteArray)}(h:mb S bs lw left ws):gi S bs lw left ws=S:=by
 unfold gi
 rw[dD h.box,dD h.acc]
theorem KJ(w0:W0)(bs lw:Nat)(left:List Int)(ws:List (Int×ByteArray))(n:Nat)(S:St)(h:mb S bs lw left ws)(hn:n≤left.length)(hl:left.length≤1048576):
 aa Tryz.prog w0 251 [.v (.pointer (some ⟨bs,0,none⟩)),dI n] S (fun d S'=>d=dL (left.take n)∧S'=gi S bs lw (left.drop n) ws):=by
 have hb:=h.box
 have ha:=h.acc
 refine vF [] mx Tryz.func251 rfl rfl (by kernel_rfl) ?_;(refine @ab _ ?_;refine eW @Tryz.ntmps251 @hb @ha ?_)
 refine⟨hn,hn,⟨_,_,Wk.full _ _ _,.refl _,rfl,?_⟩⟩
 unfold gi
 rw[dD ha]
theorem Th(w0:W0)(hg:fw w0)(bs lw:Nat)(d:ByteArray)(ps:List Int)(q:LS)(S:St)(h:mb S bs lw q.1 q.2)(hd:d.size≤400)(hp:ps.length≤1048576)(hq:q.1.length≤65536)(hw:q.2.length≤65536)(hn:need (d.size:Int)≤q.1.length∨ps≠[])(hr:∀x,x∈q.1→2≤x∧x≤999)(hu:q.1.Nodup):
 aa Tryz.prog w0 250 [.v (.pointer (some ⟨bs,0,none⟩)),.agg [dS d,dL ps]] S (fun e S'=>e= .agg [dS d,dL (eX d ps q).1]∧S'=gi S bs lw (eX d ps q).2.1 (eX d ps q).2.2):=by
 obtain⟨left,ws⟩:=q
 simp only at h hq hw hn hr hu
 have hb:=h.box
 have ha:=h.acc
 have q1:need (d.size:Int)=0→eX d ps (left,ws)=(ps,(left,ws)):=fun e=>by unfold eX;rw[if_pos (.inl e)]
 have q2:ps≠[]→eX d ps (left,ws)=(ps,(left,ws)):=fun e=>by unfold eX;rw[if_pos (.inr e)]
 have q3:need (d.size:Int)≠0→ps=[]→eX d ps (left,ws)=(left.take (need (d.size:Int)),(left.drop (need (d.size:Int)),ws++(left.take (need (d.size:Int))).zip (bl d (left.take (need (d.size:Int)))))):=fun e f=>by unfold eX;rw[if_neg (by simp[e,f])]
 generalize eX d ps (left,ws)=R at*
 refine vF [5,9] mx Tryz.func250 rfl rfl (by kernel_rfl) ?_;(refine @ab _ ?_;refine an @Tryz.ntmps250 ?_)
 intro b b1
 refine ao (Ap w0 _ _) ?_
 (refine @ab _ ?_;refine au ?_)
 refine⟨fun hz=>?_,fun hz=>⟨fun hp0=>?_,fun hp0=>?_⟩⟩
 ·rw[q1 (by omega)]
  refine⟨_,_,.refl _,?_,rfl,rfl⟩
  rw[oX h]
  exact⟨(List.sublist_cons_self _ _).trans (List.sublist_cons_self _ _),List.Sublist.refl _⟩
 ·rw[q2 fun e=>by rw[e]at hp0;simp at hp0]
  refine⟨_,_,.refl _,?_,rfl,rfl⟩
  rw[oX h]
  exact⟨(List.sublist_cons_self _ _).trans (List.sublist_cons_self _ _),List.Sublist.refl _⟩
 ·have hps:ps=[]:=List.eq_nil_of_length_eq_zero (by omega)
  have hne:need (d.size:Int)≤left.length:=hn.resolve_right fun e=>e hps
  rw[q3 (by omega) hps]
  have hI:mb (⟨(b1.n,[dS ByteArray.empty,.sl 0 true []])::(b.n,[dS d,.sl 1 false (ps.map dI)])::S.box,S.acc⟩:St) bs lw left ws:=⟨by(refine @ab _ ?_;exact mc @hb),ha⟩
  refine bA (KJ w0 bs lw left ws (need (d.size:Int)) _ hI hne (by omega)) ?_
  rintro e S' ⟨rfl,rfl⟩
  have hTl:(left.take (need (d.size:Int))).length=need (d.size:Int):=by rw[List.length_take];omega
  have hT0:left.take (need (d.size:Int))≠[]:=fun e=>by rw[e]at hTl;simp at hTl;omega
  have hTr:∀x,x∈left.take (need (d.size:Int))→2≤x∧x≤999:=fun x hx=>hr x (List.mem_of_mem_take hx)
  have hTu:(left.take (need (d.size:Int))).Nodup:=hu.sublist (List.take_sublist _ _)
  have hput:=fun S=>Vo w0 hg d (left.take (need (d.size:Int))) S hd hTl.symm hT0 hTr hTu
  have hcl:(bl d (left.take (need (d.size:Int)))).length=(left.take (need (d.size:Int))).length:=by unfold bl;rw[List.length_map,List.length_range]
  have hnl:=xM (d.size:Int)
  simp(maxDischargeDepth:=12) (maxSteps:=1000000) -implicitDefEqProofs only[go_sem,Nat.reduceAdd,Nat.reduceSub,Nat.reduceMul,Nat.reduceLeDiff,Nat.reduceEqDiff,Nat.reduceGT,Nat.reduceBEq,reduceCtorEq,↓reduceIte,Int.reduceToNat,Int.reduceLE,Int.reduceLT,Int.reduceNe,Int.reduceEq,gi,hb]
  generalize left.take (need (d.size:Int))=T at*
  generalize left.drop (need (d.size:Int))=L at*
  generalize need (d.size:Int)=nd at*
  generalize hC:bl d T=Ch at*
  refine lE [9] [] mx (by kernel_rfl) ?_
  (refine @ab _ ?_;refine an @hb ?_)
  refine ao (hput _) ?_
  (refine @ab _ ?_;refine an @hb ?_)
  refine aF [9] T.length [0,3,4,35,36,37] (fun k=>[(37,dI k)]) (fun k=>⟨(b1.n,[dS ByteArray.empty,.sl 0 true []])::(b.n,[dS d,.sl 1 false (T.map dI)])::up S.box bs [.acc lw (ws.length+k),.sl 1 false (L.map dI)],up S.acc lw (.arr 2 ((ws++(T.zip Ch).take k).map nH))⟩) (fun _=>True) mx (by kernel_rfl) ?_ ?_
  ·(refine @ab _ ?_;refine au ?_)
   exact .refl _
  ·intro k hk' _
   (refine @ab _ ?_;refine an @hb ?_)
   refine⟨fun hlt=>?_,fun hge=>?_⟩
   ·refine⟨by omega,fun c hc=>?_⟩
    refine Y.l8 [] [13,16] [0,1,2,3,5,7,10,4,6,8,9,11,12,13,14,15,16] mx (by kernel_rfl) ?_
    have hm8:maxLen=9223372036854775807:=rfl
    have hzl:((T.zip Ch).take k).length=k:=by rw[List.length_take,List.length_zip];omega
    have hwl:(ws++(T.zip Ch).take k).length=ws.length+k:=by rw[List.length_append,hzl]
    have e:lk (up S.box bs [.acc lw (ws.length+k),.sl 1 false (L.map dI)]) bs=some [.acc lw (ws.length+k),.sl 1 false (L.map dI)]:=by rw[ax,hb];rfl
    have e2:lk (up S.acc lw (.arr 2 ((ws++(T.zip Ch).take k).map nH))) lw=some (.arr 2 ((ws++(T.zip Ch).take k).map nH)):=by rw[ax,ha];rfl
    have em:min k (T.zip Ch).length=k:=by rw[List.length_zip];omega
    (refine @ab _ ?_;refine eW @hb @e @e2 ?_)
    rw[em]
    refine⟨by omega,fun x hx=>⟨rfl,by omega,by omega,by omega,by rw[aX (by omega) (by omega)];rfl,?_⟩⟩
    have hzk:(T.zip Ch)[k]? =some (x,c):=List.getElem?_zip_eq_some.2 ⟨hx,hc⟩
    have hz1:(T.zip Ch).take (k+1)=(T.zip Ch).take k++[(x,c)]:=by rw[List.take_add_one,hzk];rfl
    rw[hz1,←List.append_assoc,List.map_append]
    exact .refl _
   ·have hkl:k=T.length:=by omega
    have hzt:(T.zip Ch).take k=T.zip Ch:=List.take_of_length_le (by rw[List.length_zip];omega)
    rw[hzt]
    refine⟨_,_,.refl _,?_,rfl,rfl⟩
    have hwl:(ws++T.zip Ch).length=ws.length+k:=by rw[List.length_append,List.length_zip];omega
    unfold gi
    rw[hwl]
    exact⟨(List.sublist_cons_self _ _).trans (List.sublist_cons_self _ _),List.Sublist.refl _⟩
theorem tu{d:Nat}{n:N}{q:LS}(hg:Good d n)(hla:k8 n)(hs:(ae n).sum≤122)(h2:n.leaf=true∨2≤n.l.length)(hf:dG n≤q.1.length)(hr:∀x,x∈q.1→2≤x∧x≤999)(hp:∀p,p∈cf n→2≤p∧p≤999)(h0:¬(n.aq≠0∨(n.leaf=true∧n.l=[]))):Vc n.leaf (ah n.leaf n.l q).1:=by
 have hn:=az hg
 have hz:∀p,p∈q.1→p≠0:=fun p hp=>by have:=hr p hp;omega
 have hlen:=bW n.leaf n.l q
 have e1:=ed n q
 have e2:=Dm n q
 rw[if_neg h0]at e2
 have hne:n.l≠[]:=fun e=>by
  cases d with
  |zero=>exact h0 (.inr ⟨hg.1,e⟩)
  |succ d=>exact hg.2.1 e
 have:=Nq (pW q hg) (uV hn hla hf hz) (QA hn hf hz hp hr) (by rw[ny];exact hs) (by rw[e2];intro e;rw[e]at hlen;exact hne (List.eq_nil_of_length_eq_zero hlen.symm)) (by rw[e1,e2,hlen];exact h2)
 rw[e1,e2]at this
 exact this
theorem Aq(w0:W0)(n:N)(S:St)(hn:n.leaf=false→∀c,c∈n.l→∃k,c.kid=[k])(hl:n.l.length≤1048576):
 aa Tryz.prog w0 253 [eT n] S (fun d S'=>d= .sl 5 false ((n.l.map (dV n.leaf)).map vp)∧S'=S):=by
 have hm8:maxLen=9223372036854775807:=rfl
 cases hlf:n.leaf with
 |true=>
  rw[bR hlf]
  refine aZ [2,10] mx Tryz.func253 rfl rfl (by kernel_rfl) ?_;(refine @ab _ ?_;refine an @Tryz.ntmps253 ?_)
  intro b1
  refine nV 3 5 rfl (by omega) fun lp=>?_
  refine lE [10] [] mx (by kernel_rfl) ?_
  (refine @ab _ ?_;refine au ?_)
  refine aF [10] n.l.length [1,3,8,9,10] (fun k=>[(3,.acc lp.n k),(10,dI k)]) (fun k=>⟨(b1.n,[dI n.aq,dB true,.sl 1 false (n.l.map fun c=>dS c.key),.sl 2 false (n.l.map fS),.sl 5 false []])::S.box,(lp.n,.arr 5 (((n.l.take k).map (dV true)).map vp))::S.acc⟩) (fun _=>True) mx (by kernel_rfl) ?_ ?_
  ·(refine @ab _ ?_;exact aV)
  ·intro k hk' _
   have hml:(n.l.take k).length=k:=by rw[List.length_take];omega
   have e1:IntKind.i64.wrap ((k:Int)+1)=((k+1:Nat):Int):=by rw[aX (by omega) (by omega)];omega
   (refine @ab _ ?_;refine ba @hml @e1 ?_)
   refine⟨fun hlt=>⟨hlt,fun a ha b2=>⟨hlt,fun a2 ha2=>?_⟩⟩,fun hge=>?_⟩
   ·cases eE ha ha2
    have htk:((n.l.take (k+1)).map (dV true)).map vp=((n.l.take k).map (dV true)).map vp++[vp (dV true a)]:=by
     rw[List.take_add_one,ha,Option.toList_some,List.map_append,List.map_append];rfl
    rw[htk]
    refine⟨fun hp=>?_,fun hp=>⟨hlt,fun a3 ha3=>?_⟩⟩
    ·obtain⟨x,r,hx⟩:∃x r,a.ak=x::r:=by
      cases q:a.ak with
      |nil=>rw[q]at hp;simp at hp
      |cons x r=>exact⟨x,r,rfl⟩
     have he:dV true a=⟨a.key,aJ,true,a.data.size,x⟩:=by unfold dV;rw[if_pos rfl,if_neg (by rw[hx];simp),hx];rfl
     rw[he]
     refine Y.l8 [] [] [0,2,7,9,1,3,4,5,6,8,10,11,12,13,14,15,16,17] mx (by kernel_rfl) ?_
     have em:min k n.l.length=k:=by omega
     (refine @ab _ ?_;refine ba @hml @em ?_)
     refine⟨hlt,fun c1 h1=>⟨hlt,fun c2 h2=>?_⟩⟩
     cases eE ha h1
     cases eE ha h2
     refine⟨by omega,fun y hy=>?_⟩
     rw[hx]at hy
     cases hy
     exact⟨by omega,by omega,hlt,e1,.bu (.refl _)⟩
    ·cases eE ha ha3
     have he:dV true a=⟨a.key,a.data,false,0,0⟩:=by unfold dV;rw[if_pos rfl,if_pos (List.eq_nil_of_length_eq_zero (by omega))]
     rw[he]
     exact⟨by omega,by omega,hlt,.bu (.refl _)⟩
   ·rw[List.take_of_length_le (by omega)]
    exact .refl _
 |false=>
  rw[eB hlf (hn hlf)]
  unfold yN
  refine aZ [2] mx Tryz.func253 rfl rfl (by kernel_rfl) ?_;(refine @ab _ ?_;refine an @Tryz.ntmps253 ?_)
  intro b1
  refine nV 3 5 rfl (by omega) fun lp=>?_
  refine lE [] [] mx (by kernel_rfl) ?_
  (refine @ab _ ?_;refine au ?_)
  refine aF [] n.l.length [1,3,8,9,10] (fun k=>[(3,.acc lp.n k),(10,dI k)]) (fun k=>⟨(b1.n,[dI n.aq,dB false,.sl 1 false (n.l.map fun c=>dS c.key),.sl 2 false [],.sl 5 false (dK n.l)])::S.box,(lp.n,.arr 5 (((n.l.take k).map (dV false)).map vp))::S.acc⟩) (fun _=>True) mx (by kernel_rfl) ?_ ?_
  ·(refine @ab _ ?_;exact aV)
  ·intro k hk' _
   have hml:(n.l.take k).length=k:=by rw[List.length_take];omega
   have e1:IntKind.i64.wrap ((k:Int)+1)=((k+1:Nat):Int):=by rw[aX (by omega) (by omega)];omega
   (refine @ab _ ?_;refine ba @hml @e1 ?_)
   refine⟨fun hlt=>⟨hlt,fun a ha b2=>⟨hlt,fun a2 ha2=>?_⟩⟩,fun hge=>?_⟩
   ·cases eE ha ha2
    have htk:((n.l.take (k+1)).map (dV false)).map vp=((n.l.take k).map (dV false)).map vp++[vp (dV false a)]:=by
     rw[List.take_add_one,ha,Option.toList_some,List.map_append,List.map_append];rfl
    rw[htk]
    have he:dV false a=⟨a.key,aJ,false,0,(aA a).aq⟩:=by unfold dV;rfl
    rw[he]
    exact⟨by omega,by omega,hlt,.bu (.refl _)⟩
   ·rw[List.take_of_length_le (by omega)]
    exact .refl _
theorem lB{P:Program}{w0:W0}{f:FuncId}{args:List DV}{S X:St}{r:DV}(h1:aa P w0 f args S (fun d S'=>oC S' d fun d S''=>Wk d r∧Aml.Sub X S'')):aa P w0 f args S (fun d S'=>d=r∧S'=X):=by
 intro g vs w k1 k2
 refine(h1 g vs w k1 k2).mono ?_
 rintro e w' ⟨v,g',d,S',q1,q2,q3,q4,q5⟩
 obtain⟨g2,d',S2,p1,p2,p3,p4,p5⟩:=sy q3 q4 q5
 exact⟨v,g2,r,X,q1,q2.trans p1,p2.forget p5.box p5.acc,p4 _ _ p3,rfl,rfl⟩
def mF(b:Bool)(l:List C)(q:LS)(k:Nat):List C:=(ah b (l.take k) q).1++l.drop k
theorem Bm(b:Bool)(l:List C)(q:LS){k:Nat}(h:k≤l.length):(mF b l q k).length=l.length:=by
 unfold mF
 rw[List.length_append,bW,List.length_take,List.length_drop]
 omega
theorem wz(b:Bool)(l:List C)(q:LS):mF b l q 0=l:=by unfold mF;simp[ah]
theorem zf(b:Bool)(l:List C)(q:LS):mF b l q l.length=(ah b l q).1:=by unfold mF;simp
theorem zu{b:Bool}{l:List C}{q:LS}{k:Nat}{c:C}(h:l[k]? =some c):(mF b l q k)[k]? =some c:=by
 have hk:=(List.getElem?_eq_some_iff.1 h).1
 unfold mF
 rw[List.getElem?_append_right (by rw[bW,List.length_take];omega),bW,List.length_take,Nat.min_eq_left (by omega),Nat.sub_self,List.getElem?_drop]
 exact h
theorem Br{b:Bool}{l:List C}{q:LS}{k:Nat}{c:C}(h:l[k]? =some c):(mF b l q k).set k (eU b c (ah b (l.take k) q).2).1=mF b l q (k+1):=by
 have hk:=(List.getElem?_eq_some_iff.1 h).1
 unfold mF
 rw[List.set_append_right _ _ (by rw[bW,List.length_take];omega),bW,List.length_take,Nat.min_eq_left (by omega),Nat.sub_self,om h]
 rw[List.drop_eq_getElem_cons hk,show l[k]=c from Option.some.inj ((List.getElem?_eq_getElem hk).symm.trans h)]
 simp
theorem RW(w0:W0)(hg:fw w0)(bs lw:Nat)(l:List C)(q:LS)(S:St)(h:mb S bs lw q.1 q.2)(hl:l.length≤1048576)
 (hv:∀k c,l[k]? =some c→∀S,mb S bs lw (ah true (l.take k) q).2.1 (ah true (l.take k) q).2.2→aa Tryz.prog w0 250 [.v (.pointer (some ⟨bs,0,none⟩)),.agg [dS c.data,dL c.ak]] S (fun e S'=>e= .agg [dS c.data,dL (eX c.data c.ak (ah true (l.take k) q).2).1]∧S'=gi S bs lw (ah true (l.take (k+1)) q).2.1 (ah true (l.take (k+1)) q).2.2)):
 aa Tryz.prog w0 249 [dR 2 (l.map fS),.v (.func (.func 250) #[.pointer (some ⟨bs,0,none⟩)] #[])] S (fun d S'=>∃b:FN S.acc,d= .acc b.n l.length∧S'=⟨(gi S bs lw (ah true l q).2.1 (ah true l q).2.2).box,(b.n,.arr 2 ((ah true l q).1.map fS))::(gi S bs lw (ah true l q).2.1 (ah true l q).2.2).acc⟩):=by
 refine vF [] mx Tryz.func249 rfl rfl (by kernel_rfl) ?_;(refine @ab _ ?_;refine an @Tryz.ntmps249 ?_)
 refine bA (xh w0 (l.map fS) _ (by rw[List.length_map];exact hl)) ?_
 rintro _ _ ⟨lc,rfl,rfl⟩
 (refine @ab _ ?_;refine au ?_)
 refine aF [] l.length [1,5,10,11,12] (fun k=>[(12,dI k)]) (fun k=>⟨up S.box bs [.acc lw (ah true (l.take k) q).2.2.length,.sl 1 false ((ah true (l.take k) q).2.1.map dI)],(lc.n,.arr 2 ((mF true l q k).map fS))::up S.acc lw (.arr 2 ((ah true (l.take k) q).2.2.map nH))⟩) (fun _=>True) mx (by kernel_rfl) ?_ ?_
 ·have h1:=dD h.box
  have h2:=dD h.acc
  have h3:(ah true (l.take 0) q)=([],q):=by simp[ah]
  rw[h3]
  (refine @ab _ ?_;exact VS @h1 @h2 @wz)
 ·intro k hk _
  have hml:=Bm true l q hk
  have hb:=h.box
  have ha:=h.acc
  (refine @ab _ ?_;refine an @hml ?_)
  refine⟨fun hlt=>⟨hlt,hlt,fun c hc b2=>?_⟩,fun hge=>?_⟩
  ·have hk1:∃c0,l[k]? =some c0:=⟨_,List.getElem?_eq_getElem hlt⟩
   obtain⟨c0,hc0⟩:=hk1
   cases eE (zu (b:=true) (q:=q) hc0) hc
   have hs:=Br (b:=true) (q:=q) hc0
   rw[bX]at hs
   have e1:lk (up S.box bs [.acc lw (ah true (l.take k) q).2.2.length,.sl 1 false ((ah true (l.take k) q).2.1.map dI)]) bs=some [.acc lw (ah true (l.take k) q).2.2.length,.sl 1 false ((ah true (l.take k) q).2.1.map dI)]:=by rw[ax,hb];rfl
   have e2:lk (up S.acc lw (.arr 2 ((ah true (l.take k) q).2.2.map nH))) lw=some (.arr 2 ((ah true (l.take k) q).2.2.map nH)):=by rw[ax,ha];rfl
   refine bA (hv k c hc0 _ ⟨by(refine @ab _ ?_;exact qd @hb @e1),by(refine @ab _ ?_;exact qd @ha @e2)⟩) ?_
   rintro _ _ ⟨rfl,rfl⟩
   simp(maxDischargeDepth:=12) (maxSteps:=1000000) -implicitDefEqProofs only[go_sem,Nat.reduceAdd,Nat.reduceSub,Nat.reduceMul,Nat.reduceLeDiff,Nat.reduceEqDiff,Nat.reduceGT,Nat.reduceBEq,reduceCtorEq,↓reduceIte,Int.reduceToNat,Int.reduceLE,Int.reduceLT,Int.reduceNe,Int.reduceEq,gi,hb,ha,rE,hml]
   have dE:((mF true l q k).map fS).set k (.agg [dS c.data,dL (eX c.data c.ak (ah true (l.take k) q).2).1])=(mF true l q (k+1)).map fS:=by
    rw[←hs,List.map_set];rfl
   rw[←dE]
   exact⟨hlt,hlt,fun _ _=>⟨hlt,cm k (by omega),.bu (.refl _)⟩⟩
  ·have:k=l.length:=by omega
   subst this
   rw[zf,List.take_length]
   exact⟨_,_,.refl _,.refl _,lc,rfl,rfl⟩
theorem VM(w0:W0)(hg:fw w0)(bs lw:Nat)(l:List C)(q:LS)(S:St)(h:mb S bs lw q.1 q.2)(hl:l.length≤1048576)
 (hv:∀k c,l[k]? =some c→∀S,mb S bs lw (ah true (l.take k) q).2.1 (ah true (l.take k) q).2.2→aa Tryz.prog w0 250 [.v (.pointer (some ⟨bs,0,none⟩)),.agg [dS c.data,dL c.ak]] S (fun e S'=>e= .agg [dS c.data,dL (eX c.data c.ak (ah true (l.take k) q).2).1]∧S'=gi S bs lw (ah true (l.take (k+1)) q).2.1 (ah true (l.take (k+1)) q).2.2)):
 aa Tryz.prog w0 249 [dR 2 (l.map fS),.v (.func (.func 250) #[.pointer (some ⟨bs,0,none⟩)] #[])] S (fun d S'=>d=dR 2 ((ah true l q).1.map fS)∧S'=gi S bs lw (ah true l q).2.1 (ah true l q).2.2):=by
 refine lB (aa.mono (RW w0 hg bs lw l q S h hl hv) ?_)
 rintro d S' ⟨b,rfl,rfl⟩
 have:=bW true l q
 (refine @ab _ ?_;exact mc @this)
theorem S7(w0:W0)(hg:fw w0)(bs lw:Nat)(l:List C)(q:LS)(S:St)(h:mb S bs lw q.1 q.2)(hl:l.length≤1048576)(hk1:∀c,c∈l→∃k,c.kid=[k])
 (hv:∀k c,l[k]? =some c→∀S,mb S bs lw (ah false (l.take k) q).2.1 (ah false (l.take k) q).2.2→aa Tryz.prog w0 228 [.v (.pointer (some ⟨bs,0,none⟩)),eT (aA c)] S (fun e S'=>e=eT (bq (aA c) (ah false (l.take k) q).2).1∧S'=gi S bs lw (ah false (l.take (k+1)) q).2.1 (ah false (l.take (k+1)) q).2.2)):
 aa Tryz.prog w0 248 [dR 5 (dK l),.v (.func (.func 228) #[.pointer (some ⟨bs,0,none⟩)] #[])] S (fun d S'=>∃b:FN S.acc,d= .acc b.n l.length∧S'=⟨(gi S bs lw (ah false l q).2.1 (ah false l q).2.2).box,(b.n,.arr 5 (dK (ah false l q).1))::(gi S bs lw (ah false l q).2.1 (ah false l q).2.2).acc⟩):=by
 refine vF [] mx Tryz.func248 rfl rfl (by kernel_rfl) ?_;(refine @ab _ ?_;refine an @Tryz.ntmps248 ?_)
 refine bA (xL w0 (dK l) _ (by rw[iH];exact hl)) ?_
 rintro _ _ ⟨lc,rfl,rfl⟩
 (refine @ab _ ?_;refine au ?_)
 refine aF [] l.length [1,5,10,11,12] (fun k=>[(12,dI k)]) (fun k=>⟨up S.box bs [.acc lw (ah false (l.take k) q).2.2.length,.sl 1 false ((ah false (l.take k) q).2.1.map dI)],(lc.n,.arr 5 (dK (mF false l q k)))::up S.acc lw (.arr 2 ((ah false (l.take k) q).2.2.map nH))⟩) (fun _=>True) mx (by kernel_rfl) ?_ ?_
 ·have h1:=dD h.box
  have h2:=dD h.acc
  have h3:(ah false (l.take 0) q)=([],q):=by simp[ah]
  rw[h3]
  (refine @ab _ ?_;exact VS @h1 @h2 @wz)
 ·intro k hk _
  have hml:=Bm false l q hk
  have hb:=h.box
  have ha:=h.acc
  (refine @ab _ ?_;refine an @hml ?_)
  refine⟨fun hlt=>⟨hlt,hlt,fun c hc b2=>?_⟩,fun hge=>?_⟩
  ·obtain⟨c0,hc0⟩:∃c0,l[k]? =some c0:=⟨_,List.getElem?_eq_getElem hlt⟩
   cases eE (zu (b:=false) (q:=q) hc0) hc
   have hs:=Br (b:=false) (q:=q) hc0
   have e1:lk (up S.box bs [.acc lw (ah false (l.take k) q).2.2.length,.sl 1 false ((ah false (l.take k) q).2.1.map dI)]) bs=some [.acc lw (ah false (l.take k) q).2.2.length,.sl 1 false ((ah false (l.take k) q).2.1.map dI)]:=by rw[ax,hb];rfl
   have e2:lk (up S.acc lw (.arr 2 ((ah false (l.take k) q).2.2.map nH))) lw=some (.arr 2 ((ah false (l.take k) q).2.2.map nH)):=by rw[ax,ha];rfl
   refine bA (hv k c hc0 _ ⟨by(refine @ab _ ?_;exact qd @hb @e1),by(refine @ab _ ?_;exact qd @ha @e2)⟩) ?_
   rintro _ _ ⟨rfl,rfl⟩
   have dE:(dK (mF false l q k)).set k (eT (bq (aA c) (ah false (l.take k) q).2).1)=dK (mF false l q (k+1)):=by
    obtain⟨kid,hkid⟩:=hk1 c (List.mem_of_getElem? hc0)
    rw[←hs,dg hkid,bx hkid]
    unfold dK
    rw[List.map_set]
    congr 1
    rw[bx rfl,jT]
   rw[←dE]
   simp(maxDischargeDepth:=12) (maxSteps:=1000000) -implicitDefEqProofs only[go_sem,Nat.reduceAdd,Nat.reduceSub,Nat.reduceMul,Nat.reduceLeDiff,Nat.reduceEqDiff,Nat.reduceGT,Nat.reduceBEq,reduceCtorEq,↓reduceIte,Int.reduceToNat,Int.reduceLE,Int.reduceLT,Int.reduceNe,Int.reduceEq,gi,hb,ha,rE,hml]
   exact⟨hlt,hlt,fun _ _=>⟨hlt,cm k (by omega)⟩⟩
  ·have:k=l.length:=by omega
   subst this
   rw[zf,List.take_length]
   exact⟨_,_,.refl _,.refl _,lc,rfl,rfl⟩
theorem VR(w0:W0)(hg:fw w0)(bs lw:Nat)(l:List C)(q:LS)(S:St)(h:mb S bs lw q.1 q.2)(hl:l.length≤1048576)(hk1:∀c,c∈l→∃k,c.kid=[k])
 (hv:∀k c,l[k]? =some c→∀S,mb S bs lw (ah false (l.take k) q).2.1 (ah false (l.take k) q).2.2→aa Tryz.prog w0 228 [.v (.pointer (some ⟨bs,0,none⟩)),eT (aA c)] S (fun e S'=>e=eT (bq (aA c) (ah false (l.take k) q).2).1∧S'=gi S bs lw (ah false (l.take (k+1)) q).2.1 (ah false (l.take (k+1)) q).2.2)):
 aa Tryz.prog w0 248 [dR 5 (dK l),.v (.func (.func 228) #[.pointer (some ⟨bs,0,none⟩)] #[])] S (fun d S'=>d=dR 5 (dK (ah false l q).1)∧S'=gi S bs lw (ah false l q).2.1 (ah false l q).2.2):=by
 refine lB (aa.mono (S7 w0 hg bs lw l q S h hl hk1 hv) ?_)
 rintro d S' ⟨b,rfl,rfl⟩
 have:=bW false l q
 (refine @ab _ ?_;exact mc @this)
theorem Sl(w0:W0)(bs lw:Nat)(left:List Int)(ws:List (Int×ByteArray))(S:St)(h:mb S bs lw left ws):aa Tryz.prog w0 249 [dR 2 [],.v (.func (.func 250) #[.pointer (some ⟨bs,0,none⟩)] #[])] S (fun d S'=>d=dR 2 []∧S'=S):=by
 refine lB (aa.mono (K:=fun d S'=>∃b:FN S.acc,d= .acc b.n 0∧S'=⟨S.box,(b.n,.arr 2 [])::S.acc⟩) ?_ ?_)
 ·refine vF [] mx Tryz.func249 rfl rfl (by kernel_rfl) ?_;(refine @ab _ ?_;refine an @Tryz.ntmps249 ?_)
  refine bA (xh w0 [] _ (by decide)) ?_
  rintro _ _ ⟨lc,rfl,rfl⟩
  (refine @ab _ ?_;refine au ?_)
  refine aF [] 0 [1,5,10,11,12] (fun k=>[(12,dI k)]) (fun k=>⟨S.box,(lc.n,.arr 2 [])::S.acc⟩) (fun _=>True) mx (by kernel_rfl) ?_ ?_
  ·(refine @ab _ ?_;exact aV)
  ·intro k hk _
   (refine @ab _ ?_;refine au ?_)
   exact⟨fun h=>by omega,fun _=>⟨_,_,.refl _,.refl _,lc,rfl,rfl⟩⟩
 ·rintro d S' ⟨b,rfl,rfl⟩
  (refine @ab _ ?_;exact aV)
theorem Tb(w0:W0)(bs lw:Nat)(left:List Int)(ws:List (Int×ByteArray))(S:St)(h:mb S bs lw left ws):aa Tryz.prog w0 248 [dR 5 [],.v (.func (.func 228) #[.pointer (some ⟨bs,0,none⟩)] #[])] S (fun d S'=>d=dR 5 []∧S'=S):=by
 refine lB (aa.mono (K:=fun d S'=>∃b:FN S.acc,d= .acc b.n 0∧S'=⟨S.box,(b.n,.arr 5 [])::S.acc⟩) ?_ ?_)
 ·refine vF [] mx Tryz.func248 rfl rfl (by kernel_rfl) ?_;(refine @ab _ ?_;refine an @Tryz.ntmps248 ?_)
  refine bA (xL w0 [] _ (by decide)) ?_
  rintro _ _ ⟨lc,rfl,rfl⟩
  (refine @ab _ ?_;refine au ?_)
  refine aF [] 0 [1,5,10,11,12] (fun k=>[(12,dI k)]) (fun k=>⟨S.box,(lc.n,.arr 5 [])::S.acc⟩) (fun _=>True) mx (by kernel_rfl) ?_ ?_
  ·(refine @ab _ ?_;exact aV)
  ·intro k hk _
   (refine @ab _ ?_;refine au ?_)
   exact⟨fun h=>by omega,fun _=>⟨_,_,.refl _,.refl _,lc,rfl,rfl⟩⟩
 ·rintro d S' ⟨b,rfl,rfl⟩
  (refine @ab _ ?_;exact aV)
theorem qG(b:Bool):∀(l:List C) (q:LS),((ah b l q).1.map fun c=>dS c.key)=l.map fun c=>dS c.key
 |[],_=>rfl
 |c::l,q=>by
  simp only[ah,List.map_cons,qG b l,(gp b c q).1]
theorem YG(w0:W0)(hgl:fw w0)(bs lw:Nat):∀(d:Nat) (n:N) (q:LS) (S:St),Good d n→k8 n→mb S bs lw q.1 q.2→bw n≤131072→(ae n).sum≤122→(n.leaf=true∨2≤n.l.length)→dG n≤q.1.length→q.1.length≤1024→q.1.Nodup→(∀x,x∈q.1→2≤x∧x≤999)→(∀p,p∈cf n→2≤p∧p≤999)→q.2.length+dG n≤65536→
 aa Tryz.prog w0 228 [.v (.pointer (some ⟨bs,0,none⟩)),eT n] S (fun e S'=>e=eT (bq n q).1∧S'=gi S bs lw (bq n q).2.1 (bq n q).2.2):=by
 intro d
 induction d with
 |zero=>
  intro n q S hg hla hI ht hs h2 hf hq hu hr hp hw
  have hn:=az hg
  have hlf:=hg.1
  have hlen:=df n
  have hq1:=tu (q:=q) hg hla hs h2 hf hr hp
  have hq2:=dJ n q
  have hq3:=fv hn
  have hlC:=qD hn
  have hwC:=EG hn
  obtain⟨left,ws⟩:=q
  simp only at hI hf hu hr hw hq
  have hb:=hI.box
  have ha:=hI.acc
  rw[hlf]at hq1 hq2 hq3 hlC hwC
  generalize bq n (left,ws)=R at*
  rw[bR hlf]
  refine vF [3,6] mx Tryz.func228 rfl rfl (by kernel_rfl) ?_;(refine @ab _ ?_;refine an @Tryz.ntmps228 ?_)
  intro b b1
  have fin1:n.aq≠0∨(true=true∧n.l=[])→R=(n,(left,ws)):=fun e=>by rw[hq2,if_pos e]
  refine⟨fun h0=>?_,fun h0=>⟨fun h1=>?_,fun h1=>?_⟩⟩
  ·rw[fin1 (.inl h0)]
   refine⟨_,_,.refl _,?_,(bR hlf).symm,rfl⟩
   rw[oX hI]
   exact⟨(List.sublist_cons_self _ _).trans (List.sublist_cons_self _ _),List.Sublist.refl _⟩
  ·rw[fin1 (.inr ⟨rfl,List.eq_nil_of_length_eq_zero (by omega)⟩)]
   refine⟨_,_,.refl _,?_,(bR hlf).symm,rfl⟩
   rw[oX hI]
   exact⟨(List.sublist_cons_self _ _).trans (List.sublist_cons_self _ _),List.Sublist.refl _⟩
  ·have h0:n.aq=0:=Classical.not_not.1 h0
   have h00:¬(n.aq≠0∨true=true∧n.l=[]):=fun e=>e.elim (fun e=>e h0) fun e=>h1 (by rw[e.2];rfl)
   rw[if_neg h00]at hq2
   rw[if_neg (fun e=>h00 (.inl e)),if_neg (fun e=>h00 (.inr e))]at hq3
   replace hq1:=hq1 h00
   refine Kw ⟨[(b.n,[dI n.aq,dB true,.sl 1 false (n.l.map fun c=>dS c.key),.sl 2 false (n.l.map fS),.sl 5 false []])],[]⟩ [4,9] [11,13] [0,2,3,5,7,8,1,6,4,10,9,11,12,13] mx (by kernel_rfl) ?_
   (refine @ab _ ?_;refine au ?_)
   have hone:∀k c,n.l[k]? =some c→∀S,mb S bs lw (ah true (n.l.take k) (left,ws)).2.1 (ah true (n.l.take k) (left,ws)).2.2→aa Tryz.prog w0 250 [.v (.pointer (some ⟨bs,0,none⟩)),.agg [dS c.data,dL c.ak]] S (fun e S'=>e= .agg [dS c.data,dL (eX c.data c.ak (ah true (n.l.take k) (left,ws)).2).1]∧S'=gi S bs lw (ah true (n.l.take (k+1)) (left,ws)).2.1 (ah true (n.l.take (k+1)) (left,ws)).2.2):=fun k c hc T hT=>by
    have hdk:=eY (q:=(left,ws)) fun c hc=>hlC c (List.mem_of_mem_take (i:=k) hc)
    have hwk:=kZ (q:=(left,ws)) fun c hc=>hwC c (List.mem_of_mem_take (i:=k) hc)
    have htk:=ph true n.l k
    have hcm:=List.mem_of_getElem? hc
    have htk1:=ph true n.l (k+1)
    have hsu:=yU (b:=true) hc
    have hcn:=hn.2 c hcm
    have hrc:ko true c=if c.ak=[]then need (c.data.size:Int)else 0:=rfl
    rw[om hc,bX]
    generalize ah true (n.l.take k) (left,ws)=Pk at*
    obtain⟨Lk,lf,wk⟩:=Pk
    simp only at hdk hwk hT
    have hlfl:lf.length=left.length-gP true (n.l.take k):=by rw[hdk,List.length_drop]
    exact Th w0 hgl bs lw c.data c.ak (lf,wk) _ hT hcn.1.2.1 (by have:=hcn.1.2.2;omega) (by show lf.length≤_;omega) (by show wk.length≤_;omega) (by
     by_cases e:c.ak=[]
     ·rw[if_pos e]at hrc
      exact .inl (by show _≤lf.length;omega)
     ·exact .inr e) (fun x hx=>hr x (by rw[hdk]at hx;exact List.mem_of_mem_drop hx)) (by show lf.Nodup;rw[hdk];exact hu.sublist (List.drop_sublist _ _))
   refine⟨l7 (by(refine @ab _ ?_;exact aV)),l7 (by(refine @ab _ ?_;exact aV)),bA (Tb w0 bs lw left ws _ ⟨by(refine @ab _ ?_;exact mc @hb),ha⟩) ?_⟩
   rintro _ _ ⟨rfl,rfl⟩
   (refine @ab _ ?_;refine au ?_)
   have heach:=fun S h=>VM w0 hgl bs lw n.l (left,ws) S h (by omega) hone
   have hlk:(ah true n.l (left,ws)).1.length=n.l.length:=bW _ _ _
   have hdk:=eY (q:=(left,ws)) hlC
   have hwk:=kZ (q:=(left,ws)) hwC
   have hkeys:(n.l.map fun c=>dS c.key)=(ah true n.l (left,ws)).1.map fun c=>dS c.key:=(qG true n.l (left,ws)).symm
   generalize ah true n.l (left,ws)=Pk at*
   obtain⟨Lk,lf,wk⟩:=Pk
   simp only at hlk hdk hwk hq1 hq2 heach hkeys
   have hlfl:lf.length=left.length-gP true n.l:=by rw[hdk,List.length_drop]
   refine⟨l7 (by(refine @ab _ ?_;exact aV)),bA (heach _ ⟨by(refine @ab _ ?_;exact mc @hb),ha⟩) ?_⟩
   rintro _ _ ⟨rfl,rfl⟩
   cases lf with
   |nil=>simp only[List.length_nil]at hlfl;omega
   |cons p lr=>
    simp only[List.headD_cons,List.tail_cons]at hq2
    subst hq2
    have e1:lk (up S.box bs [.acc lw wk.length,.sl 1 false ((p::lr).map dI)]) bs=some [.acc lw wk.length,.sl 1 false ((p::lr).map dI)]:=by rw[ax,hb];rfl
    have e2:lk (up S.acc lw (.arr 2 (wk.map nH))) lw=some (.arr 2 (wk.map nH)):=by rw[ax,ha];rfl
    have e3:lk (up S.box bs [.acc lw wk.length,.sl 1 false (lr.map dI)]) bs=some [.acc lw wk.length,.sl 1 false (lr.map dI)]:=by rw[ax,hb];rfl
    simp(maxDischargeDepth:=12) (maxSteps:=1000000) -implicitDefEqProofs only[go_sem,Nat.reduceAdd,Nat.reduceSub,Nat.reduceMul,Nat.reduceLeDiff,Nat.reduceEqDiff,Nat.reduceGT,Nat.reduceBEq,reduceCtorEq,↓reduceIte,Int.reduceToNat,Int.reduceLE,Int.reduceLT,Int.reduceNe,Int.reduceEq,gi,hb,ha]
    refine⟨l7 (by(refine @ab _ ?_;exact aV)),bA (KJ w0 bs lw (p::lr) wk 1 _ ⟨by(refine @ab _ ?_;exact qd @hb @e1),by(refine @ab _ ?_;exact qd @ha @e2)⟩ (by simp) (by omega)) ?_⟩
    rintro _ _ ⟨rfl,rfl⟩
    simp(maxDischargeDepth:=12) (maxSteps:=1000000) -implicitDefEqProofs only[go_sem,Nat.reduceAdd,Nat.reduceSub,Nat.reduceMul,Nat.reduceLeDiff,Nat.reduceEqDiff,Nat.reduceGT,Nat.reduceBEq,reduceCtorEq,↓reduceIte,Int.reduceToNat,Int.reduceLE,Int.reduceLT,Int.reduceNe,Int.reduceEq,gi,hb,ha,hlk,List.take_succ_cons,List.take_zero,List.drop_succ_cons,List.drop_zero,List.length_cons,List.length_nil,List.getElem?_cons_zero]
    have hent:∀S,aa Tryz.prog w0 253 [.agg [dI p,dB true,.sl 1 false (n.l.map fun c=>dS c.key),.sl 2 false (Lk.map fS),.sl 5 false []]] S (fun d S'=>d= .sl 5 false ((Lk.map (dV true)).map vp)∧S'=S):=fun S=>by
     rw[hkeys]
     have:=Aq w0 (.mk p true Lk) S (fun e=>by cases e) (by show Lk.length≤_;omega)
     rw[bR rfl]at this
     exact this
    have hput:=fun S=>Q8 w0 hgl true (Lk.map (dV true)) S (by rw[List.length_map];omega) hq1.ok hq1.bQ hq1.first hq1.fits hq1.many
    refine aS (hent _) ?_
    (refine @ab _ ?_;refine au ?_)
    refine aS (hput _) ?_
    (refine @ab _ ?_;refine au ?_)
    refine Y.l8 [] [10,13] [0,1,2,3,5,7,4,6,8,9,10,11,12,13] mx (by kernel_rfl) ?_
    (refine @ab _ ?_;refine eW @e3 @hb @ha ?_)
    have hm8:maxLen=9223372036854775807:=rfl
    refine⟨by omega,by omega,_,_,.refl _,?_,?_,rfl⟩
    ·have e5:(wk++[(p,Fo true Lk)]).length=wk.length+1:=List.length_append
     unfold gi
     rw[e5,List.map_append]
     exact⟨(List.sublist_cons_self _ _).trans (List.sublist_cons_self _ _),List.Sublist.refl _⟩
    ·show DV.agg [dI p,dB true,.sl 1 false (n.l.map fun c=>dS c.key),.sl 2 false (Lk.map fS),.sl 5 false []]=_
     rw[hkeys]
     exact(bR (n:= .mk p true Lk) rfl).symm
 |succ d ih=>
  intro n q S hg hla hI ht hs h2 hf hq hu hr hp hw
  have hn:=az hg
  have hlf:=hg.1
  have hlen:=df n
  have hq1:=tu (q:=q) hg hla hs h2 hf hr hp
  have hq2:=dJ n q
  have hq3:=fv hn
  have hlC:=qD hn
  have hwC:=EG hn
  obtain⟨left,ws⟩:=q
  simp only at hI hf hu hr hw hq
  have hb:=hI.box
  have ha:=hI.acc
  rw[hlf]at hq1 hq2 hq3 hlC hwC
  generalize bq n (left,ws)=R at*
  have hkid:=fun c hc=>(hn.2.2 c hc).2.imp fun k h=>h.1
  rw[eB hlf hkid]
  unfold yN
  refine vF [3,6] mx Tryz.func228 rfl rfl (by kernel_rfl) ?_;(refine @ab _ ?_;refine an @Tryz.ntmps228 ?_)
  intro b b1
  have fin1:n.aq≠0∨(false=true∧n.l=[])→R=(n,(left,ws)):=fun e=>by rw[hq2,if_pos e]
  refine⟨fun h0=>?_,fun h0=>?_⟩
  ·rw[fin1 (.inl h0)]
   refine⟨_,_,.refl _,?_,(eB hlf hkid).symm,rfl⟩
   rw[oX hI]
   exact⟨(List.sublist_cons_self _ _).trans (List.sublist_cons_self _ _),List.Sublist.refl _⟩
  ·have h0:n.aq=0:=Classical.not_not.1 h0
   have h00:¬(n.aq≠0∨false=true∧n.l=[]):=fun e=>e.elim (fun e=>e h0) fun e=>by cases e.1
   rw[if_neg h00]at hq2
   rw[if_neg (fun e=>h00 (.inl e)),if_neg (fun e=>h00 (.inr e))]at hq3
   replace hq1:=hq1 h00
   refine Kw ⟨[(b.n,[dI n.aq,dB false,.sl 1 false (n.l.map fun c=>dS c.key),.sl 2 false [],.sl 5 false (dK n.l)])],[]⟩ [4,9] [11,13] [0,2,3,5,7,8,1,6,4,10,9,11,12,13] mx (by kernel_rfl) ?_
   (refine @ab _ ?_;refine au ?_)
   have hone:∀k c,n.l[k]? =some c→∀S,mb S bs lw (ah false (n.l.take k) (left,ws)).2.1 (ah false (n.l.take k) (left,ws)).2.2→aa Tryz.prog w0 228 [.v (.pointer (some ⟨bs,0,none⟩)),eT (aA c)] S (fun e S'=>e=eT (bq (aA c) (ah false (n.l.take k) (left,ws)).2).1∧S'=gi S bs lw (ah false (n.l.take (k+1)) (left,ws)).2.1 (ah false (n.l.take (k+1)) (left,ws)).2.2):=fun k c hc T hT=>by
    have hdk:=eY (q:=(left,ws)) fun c hc=>hlC c (List.mem_of_mem_take (i:=k) hc)
    have hwk:=kZ (q:=(left,ws)) fun c hc=>hwC c (List.mem_of_mem_take (i:=k) hc)
    have htk:=ph false n.l k
    have hcm:=List.mem_of_getElem? hc
    have htk1:=ph false n.l (k+1)
    have hsu:=yU (b:=false) hc
    obtain⟨hsh,_,kid,hkid,hkg,hkf⟩:=hg.2.2.cell c hcm
    have hnd:=az hkg
    have htk2:=gF hcm hkid
    have hrc:ko false c=dG kid:=by rw[←bx hkid];rfl
    rw[om hc,dg hkid,bx hkid]
    generalize ah false (n.l.take k) (left,ws)=Pk at*
    obtain⟨Lk,lf,wk⟩:=Pk
    simp only at hdk hwk hT
    have hlfl:lf.length=left.length-gP false (n.l.take k):=by rw[hdk,List.length_drop]
    have hal:∀p,p∈cf kid→p∈cf n:=fun p hp=>by
     rw[fN n,hlf]
     exact List.mem_append_right _ (List.mem_flatMap.2 ⟨c,hcm,by rw[fJ hkid];exact List.mem_append_right _ hp⟩)
    have hkl2:kid.leaf=true∨2≤kid.l.length:=by
     cases d with
     |zero=>exact .inl hkg.1
     |succ d=>
      refine .inr ?_
      have h30:=hkf.1
      have hsz:=gV hkg
      unfold ae at h30 hsz
      match hm:kid.l with
      |[]=>rw[hm]at h30;simp at h30
      |[x]=>
       rw[hm]at h30 hsz
       have:=hsz _ (List.mem_map_of_mem List.mem_cons_self)
       simp only[List.map_cons,List.map_nil,List.sum_cons,List.sum_nil]at h30 this
       rw[if_neg (by omega)]at this
       omega
      |x::y::r=>simp
    exact ih kid (lf,wk) _ hkg (by
     cases hla with|mk _ _ _ h3=>exact h3 hlf c hcm kid hkid) hT (by omega) hkf.2 hkl2 (by show _≤lf.length;omega) (by show lf.length≤_;omega) (by show lf.Nodup;rw[hdk];exact hu.sublist (List.drop_sublist _ _)) (fun x hx=>hr x (by rw[hdk]at hx;exact List.mem_of_mem_drop hx)) (fun p hp'=>hp p (hal p hp')) (by show wk.length+_≤_;omega)
   have heach:=fun S h=>VR w0 hgl bs lw n.l (left,ws) S h (by omega) hkid hone
   have hlk:(ah false n.l (left,ws)).1.length=n.l.length:=bW _ _ _
   have hdk:=eY (q:=(left,ws)) hlC
   have hwk:=kZ (q:=(left,ws)) hwC
   have hkeys:(n.l.map fun c=>dS c.key)=(ah false n.l (left,ws)).1.map fun c=>dS c.key:=(qG false n.l (left,ws)).symm
   have hkL:∀c,c∈(ah false n.l (left,ws)).1→∃k,c.kid=[k]:=fun x hx=>by
    obtain⟨c,q',hc,rfl⟩:=hJ hx
    obtain⟨k,hk⟩:=hkid c hc
    rw[dg hk]
    exact⟨_,rfl⟩
   generalize ah false n.l (left,ws)=Pk at*
   obtain⟨Lk,lf,wk⟩:=Pk
   simp only at hlk hdk hwk hq1 hq2 heach hkeys hkL
   have hlfl:lf.length=left.length-gP false n.l:=by rw[hdk,List.length_drop]
   refine⟨l7 (by(refine @ab _ ?_;exact aV)),l7 (by(refine @ab _ ?_;exact aV)),bA (heach _ ⟨by(refine @ab _ ?_;exact mc @hb),ha⟩) ?_⟩
   rintro _ _ ⟨rfl,rfl⟩
   simp(maxDischargeDepth:=12) (maxSteps:=1000000) -implicitDefEqProofs only[go_sem,Nat.reduceAdd,Nat.reduceSub,Nat.reduceMul,Nat.reduceLeDiff,Nat.reduceEqDiff,Nat.reduceGT,Nat.reduceBEq,reduceCtorEq,↓reduceIte,Int.reduceToNat,Int.reduceLE,Int.reduceLT,Int.reduceNe,Int.reduceEq,gi,hb,ha]
   have e0:lk (up S.box bs [.acc lw wk.length,.sl 1 false (lf.map dI)]) bs=some [.acc lw wk.length,.sl 1 false (lf.map dI)]:=by rw[ax,hb];rfl
   have e00:lk (up S.acc lw (.arr 2 (wk.map nH))) lw=some (.arr 2 (wk.map nH)):=by rw[ax,ha];rfl
   refine⟨l7 (by(refine @ab _ ?_;exact aV)),bA (Sl w0 bs lw lf wk _ ⟨by(refine @ab _ ?_;exact qd @hb @e0),by(refine @ab _ ?_;exact qd @ha @e00)⟩) ?_⟩
   rintro _ _ ⟨rfl,rfl⟩
   cases lf with
   |nil=>simp only[List.length_nil]at hlfl;omega
   |cons p lr=>
    simp only[List.headD_cons,List.tail_cons]at hq2
    subst hq2
    have e1:lk (up S.box bs [.acc lw wk.length,.sl 1 false ((p::lr).map dI)]) bs=some [.acc lw wk.length,.sl 1 false ((p::lr).map dI)]:=by rw[ax,hb];rfl
    have e2:lk (up S.acc lw (.arr 2 (wk.map nH))) lw=some (.arr 2 (wk.map nH)):=by rw[ax,ha];rfl
    have e3:lk (up S.box bs [.acc lw wk.length,.sl 1 false (lr.map dI)]) bs=some [.acc lw wk.length,.sl 1 false (lr.map dI)]:=by rw[ax,hb];rfl
    simp(maxDischargeDepth:=12) (maxSteps:=1000000) -implicitDefEqProofs only[go_sem,Nat.reduceAdd,Nat.reduceSub,Nat.reduceMul,Nat.reduceLeDiff,Nat.reduceEqDiff,Nat.reduceGT,Nat.reduceBEq,reduceCtorEq,↓reduceIte,Int.reduceToNat,Int.reduceLE,Int.reduceLT,Int.reduceNe,Int.reduceEq,gi,hb,ha]
    refine⟨l7 (by(refine @ab _ ?_;exact aV)),bA (KJ w0 bs lw (p::lr) wk 1 _ ⟨by(refine @ab _ ?_;exact qd @hb @e1),by(refine @ab _ ?_;exact qd @ha @e2)⟩ (by simp) (by omega)) ?_⟩
    rintro _ _ ⟨rfl,rfl⟩
    simp(maxDischargeDepth:=12) (maxSteps:=1000000) -implicitDefEqProofs only[go_sem,Nat.reduceAdd,Nat.reduceSub,Nat.reduceMul,Nat.reduceLeDiff,Nat.reduceEqDiff,Nat.reduceGT,Nat.reduceBEq,reduceCtorEq,↓reduceIte,Int.reduceToNat,Int.reduceLE,Int.reduceLT,Int.reduceNe,Int.reduceEq,gi,hb,ha,hlk,List.take_succ_cons,List.take_zero,List.drop_succ_cons,List.drop_zero,List.length_cons,List.length_nil,List.getElem?_cons_zero]
    have hent:∀S,aa Tryz.prog w0 253 [.agg [dI p,dB false,.sl 1 false (n.l.map fun c=>dS c.key),.sl 2 false [],.sl 5 false (dK Lk)]] S (fun d S'=>d= .sl 5 false ((Lk.map (dV false)).map vp)∧S'=S):=fun S=>by
     rw[hkeys]
     have:=Aq w0 (.mk p false Lk) S (fun _=>hkL) (by show Lk.length≤_;omega)
     rw[eB (n:= .mk p false Lk) rfl hkL]at this;unfold yN at this
     exact this
    have hput:=fun S=>Q8 w0 hgl false (Lk.map (dV false)) S (by rw[List.length_map];omega) hq1.ok hq1.bQ hq1.first hq1.fits hq1.many
    refine aS (hent _) ?_
    (refine @ab _ ?_;refine au ?_)
    refine aS (hput _) ?_
    (refine @ab _ ?_;refine au ?_)
    refine Y.l8 [] [10,13] [0,1,2,3,5,7,4,6,8,9,10,11,12,13] mx (by kernel_rfl) ?_
    (refine @ab _ ?_;refine eW @e3 @hb @ha ?_)
    have hm8:maxLen=9223372036854775807:=rfl
    refine⟨by omega,by omega,_,_,.refl _,?_,?_,rfl⟩
    ·have e5:(wk++[(p,Fo false Lk)]).length=wk.length+1:=List.length_append
     unfold gi
     rw[e5,List.map_append]
     exact⟨(List.sublist_cons_self _ _).trans (List.sublist_cons_self _ _),List.Sublist.refl _⟩
    ·show DV.agg [dI p,dB false,.sl 1 false (n.l.map fun c=>dS c.key),.sl 2 false [],.sl 5 false (dK Lk)]=_
     rw[hkeys]
     exact(eB (n:= .mk p false Lk) rfl hkL).symm
end Go.Proofs.YtpjenciplibdnaaGreatDoor
namespace Go.Proofs.YtpjenciplibdnaaGreatDoor
open Aml Go
open Aml Go
end Go.Proofs.YtpjenciplibdnaaGreatDoor
namespace Go.Proofs.YtpjenciplibdnaaGreatDoor
open Aml Go
structure TG(n:N)(at_:List Int):Prop where
 tl:TL n
 kR:bw n≤131072
 dep:∀d,Nd d n→d≤100000
 len:at_.length≤1024
 fr:dG n≤at_.length
 nd:(at_++cf n).Nodup
 re:∀p,p∈at_++cf n→2≤p∧p≤999
theorem Ub(w0:W0):∀(d:Nat) (n:N) (lo hi:ByteArray) (r:Bool) (S:St),Good d n→bw n≤131072→d≤100000→(ae n).sum≤122→(r=true∨30≤(ae n).sum)→n.l≠[]→(n.leaf=true∨2≤n.l.length)→(∀x,x∈di n→mg lo x.key=true)→(hi≠aJ→∀x,x∈di n→cH x.key hi=true)→
 aa Tryz.prog w0 258 [eT n,.agg [dS lo,dS hi],dB r] S (fun e S'=>e=dI d∧S'=S):=by
 intro d
 induction d with
 |zero=>
  intro n lo hi r S hg ht hd hsum hr hne h2 hlo hhi
  have hn:=az hg
  have hlen:=df n
  have hlf:=hg.1
  have hsm:=tA hn
  have hfk:=p9 hg hlo hhi
  rw[hlf]at hfk
  have hfit:=fun S=>VX w0 n lo hi S hlf hfk (JL hg) (by omega)
  have hsz:=fun S=>qo w0 n S hsm (by omega)
  have hbd:=lj n hsm (by omega)
  have hpos:=List.length_pos_iff.2 hne
  rw[bR hlf]at*
  refine aZ [] mx Tryz.func258 rfl rfl (by kernel_rfl) ?_;(refine @ab _ ?_;refine an @Tryz.ntmps258 ?_)
  intro b b1
  refine ao (hfit _) ?_
  (refine @ab _ ?_;refine au ?_)
  refine⟨fun h=>absurd h (by omega),fun _=>ao (hsz _) ?_⟩
  (refine @ab _ ?_;refine au ?_)
  refine ao (IJ w0 _ _ hbd) ?_
  (refine @ab _ ?_;refine au ?_)
  have hlow:r=false→BR (ae n)=false:=fun e=>decide_eq_false (by rcases hr with h|h;· rw[e]at h;cases h
                                                                ·omega)
  refine⟨fun h=>absurd h (by omega),fun _=>⟨fun hrf=>ao (hsz _) ?_,fun hrt=>?_⟩⟩
  ·(refine @ab _ ?_;refine au ?_)
   refine ao (TR w0 _ _ hbd) ?_
   rw[hlow hrf]
   (refine @ab _ ?_;refine au ?_)
   refine aF [] 0 [3,4,8,42,43,44] (fun k=>[(8,dI 0),(44,dI k)]) (fun k=>⟨(b1.n,[dS lo,dS hi])::(b.n,[dI n.aq,dB true,.sl 1 false (n.l.map fun c=>dS c.key),.sl 2 false (n.l.map fS),.sl 5 false []])::S.box,S.acc⟩) (fun _=>True) mx (by kernel_rfl) ?_ ?_
   ·(refine @ab _ ?_;exact aV)
   ·intro k hk' _
    (refine @ab _ ?_;exact aV)
  ·refine aF [] 0 [3,4,8,42,43,44] (fun k=>[(8,dI 0),(44,dI k)]) (fun k=>⟨(b1.n,[dS lo,dS hi])::(b.n,[dI n.aq,dB true,.sl 1 false (n.l.map fun c=>dS c.key),.sl 2 false (n.l.map fS),.sl 5 false []])::S.box,S.acc⟩) (fun _=>True) mx (by kernel_rfl) ?_ ?_
   ·(refine @ab _ ?_;exact aV)
   ·intro k hk' _
    (refine @ab _ ?_;exact aV)
 |succ d ih=>
  intro n lo hi r S hg ht hd hsum hr hne h2 hlo hhi
  have hn:=az hg
  have hlen:=df n
  have hlf:=hg.1
  have hsm:=tA hn
  have hfk:=p9 hg hlo hhi
  have hone:=iF hn hlf
  rw[hlf]at hfk
  have hfit:=fun S=>W2 w0 n lo hi S hlf hfk hone (by omega)
  have hsz:=fun S=>qo w0 n S hsm (by omega)
  have hbd:=lj n hsm (by omega)
  have hpos:=h2.resolve_left (by rw[hlf];simp)
  have hkn:=po hn
  have hres:eT n= .agg [dI n.aq,dB false,.sl 1 false (n.l.map fun c=>dS c.key),.sl 2 false [],.sl 5 false ((n.l.map aA).map dT)]:=by
   show DV.agg _=_
   rw[hkn,hlf];rfl
  rw[hres]at hfit hsz ⊢
  clear hres
  have hlow:r=false→BR (ae n)=false:=fun e=>decide_eq_false (by rcases hr with h|h;· rw[e]at h;cases h
                                                                ·omega)
  have hB:=hg.2.2
  have hkid:∀(k:Nat) c,n.l[k]? =some c→∀lo' hi',(if k=0 then lo'=lo else lo'=c.key)→(match n.l[k+1]? with
   |some c'=>hi'=c'.key
   |none=>hi'=hi)→∀T,aa Tryz.prog w0 258 [eT (aA c),.agg [dS lo',dS hi'],dB false] T (fun e S'=>e=dI d∧S'=T):=by
   intro k c hc lo' hi' hl' hh' T
   have hcm:=List.mem_of_getElem? hc
   obtain⟨s1,s2,kd,hkid,hkg,hkf⟩:=hB.cell c hcm
   rw[bx hkid]
   have htk:=gF hcm hkid
   have hin:∀x,x∈di kd→x∈di n:=fun x hx=>by rw[cF,hlf];exact List.mem_flatMap.2 ⟨c,hcm,by rw[bf hkid];exact hx⟩
   refine ih kd lo' hi' false T hkg (by omega) (by omega) hkf.2 (.inr hkf.1) (oT hkf) (tF hkg hkf) (fun x hx=>?_) fun hne' x hx=>?_
   ·split at hl'
    ·rw[hl'];exact hlo x (hin x hx)
    ·rw[hl'];exact s2 x (by rw[bf hkid];exact hx)
   ·split at hh'
    ·rename_i c' hc'
     obtain⟨q1,rfl⟩:=List.getElem?_eq_some_iff.1 hc
     obtain⟨q2,rfl⟩:=List.getElem?_eq_some_iff.1 hc'
     rw[hh']
     exact(List.pairwise_iff_getElem.1 hB.pw k (k+1) q1 q2 (by omega)).2 x (by rw[bf hkid];exact hx)
    ·rw[hh']at hne' ⊢;exact hhi hne' x (hin x hx)
  refine aZ [] mx Tryz.func258 rfl rfl (by kernel_rfl) ?_;(refine @ab _ ?_;refine an @Tryz.ntmps258 ?_)
  intro b b1
  refine ao (hfit _) ?_
  (refine @ab _ ?_;refine au ?_)
  refine⟨fun h=>absurd h (by omega),fun _=>ao (hsz _) ?_⟩
  (refine @ab _ ?_;refine au ?_)
  refine ao (IJ w0 _ _ hbd) ?_
  (refine @ab _ ?_;refine au ?_)
  refine⟨fun h=>absurd h (by omega),fun _=>⟨fun hrf=>ao (hsz _) ?_,fun hrt=>?_⟩⟩
  ·(refine @ab _ ?_;refine au ?_)
   refine ao (TR w0 _ _ hbd) ?_
   rw[hlow hrf]
   (refine @ab _ ?_;refine au ?_)
   refine aF [] n.l.length [3,4,8,42,43,44] (fun k=>[(8,dI (if k=0 then 0 else(d+1:Nat))),(44,dI k)]) (fun k=>⟨(b1.n,[dS lo,dS hi])::(b.n,[dI n.aq,dB false,.sl 1 false (n.l.map fun c=>dS c.key),.sl 2 false [],.sl 5 false ((n.l.map aA).map dT)])::S.box,S.acc⟩) (fun _=>True) mx (by kernel_rfl) ?_ ?_
   ·(refine @ab _ ?_;exact aV)
   ·intro k hk' _
    (refine @ab _ ?_;refine au ?_)
    refine⟨fun hlt=>⟨hlt,fun c hc b2 b3=>?_⟩,fun hge=>?_⟩
    ·have e1:IntKind.i64.wrap ((d:Int)+1)=((d+1:Nat):Int):=by rw[aX (by omega) (by omega)];omega
     have e2:IntKind.i64.wrap ((k:Int)+1)=((k+1:Nat):Int):=cm k (by omega)
     have hk2:∀lo',(if k=0 then lo'=lo else lo'=c.key)→¬((k+1:Nat):Int)<n.l.length→∀T,aa Tryz.prog w0 258 [eT (aA c),.agg [dS lo',dS hi],dB false] T (fun e S'=>e=dI d∧S'=T):=fun lo' h1 h2 T=>hkid k c hc lo' hi h1 (by rw[List.getElem?_eq_none (by omega)]) T
     have hk1:∀lo' a,(if k=0 then lo'=lo else lo'=c.key)→n.l[k+1]? =some a→∀T,aa Tryz.prog w0 258 [eT (aA c),.agg [dS lo',dS a.key],dB false] T (fun e S'=>e=dI d∧S'=T):=fun lo' a h1 h2 T=>hkid k c hc lo' a.key h1 (by rw[h2]) T
     rw[e2]
     refine⟨fun hp=>⟨hlt,fun a ha=>?_⟩,fun hz=>?_⟩
     ·cases eE hc ha
      have hl0:(if k=0 then c.key=lo else c.key=c.key):=by rw[if_neg (by omega)]
      have hf:(if k=0 then(0:Int)else((d+1:Nat):Int))=((d+1:Nat):Int):=if_neg (by omega)
      have hf2:(if k+1=0 then(0:Int)else((d+1:Nat):Int))=((d+1:Nat):Int):=if_neg (by omega)
      have z2:((k:Int)>0)=True:=eq_true hp
      refine⟨fun h1=>⟨by omega,h1,fun a ha=>ao (hk1 c.key a hl0 ha _) ?_⟩,fun h1=>ao (hk2 c.key hl0 h1 _) ?_⟩
      ·(refine @ab _ ?_;refine DD @e1 @e2 @z2 @hf @hf2 @hlt ?_)
       exact fun h=>absurd h (by omega)
      ·(refine @ab _ ?_;refine DD @e1 @e2 @z2 @hf @hf2 @hlt ?_)
       exact fun h=>absurd h (by omega)
     ·have hl0:(if k=0 then lo=lo else lo=c.key):=by rw[if_pos (by omega)]
      have z2:((k:Int)>0)=False:=eq_false hz
      have hf2:(if k+1=0 then(0:Int)else((d+1:Nat):Int))=((d+1:Nat):Int):=if_neg (by omega)
      refine⟨fun h1=>⟨by omega,h1,fun a ha=>ao (hk1 lo a hl0 ha _) ?_⟩,fun h1=>ao (hk2 lo hl0 h1 _) ?_⟩
      ·(refine @ab _ ?_;refine y7 @e1 @e2 @z2 @hf2 @hlt ?_)
       exact fun h=>absurd h (by omega)
      ·(refine @ab _ ?_;refine y7 @e1 @e2 @z2 @hf2 @hlt ?_)
       exact fun h=>absurd h (by omega)
    ·exact if_neg (by omega)
  ·refine aF [] n.l.length [3,4,8,42,43,44] (fun k=>[(8,dI (if k=0 then 0 else(d+1:Nat))),(44,dI k)]) (fun k=>⟨(b1.n,[dS lo,dS hi])::(b.n,[dI n.aq,dB false,.sl 1 false (n.l.map fun c=>dS c.key),.sl 2 false [],.sl 5 false ((n.l.map aA).map dT)])::S.box,S.acc⟩) (fun _=>True) mx (by kernel_rfl) ?_ ?_
   ·(refine @ab _ ?_;exact aV)
   ·intro k hk' _
    (refine @ab _ ?_;refine au ?_)
    refine⟨fun hlt=>⟨hlt,fun c hc b2 b3=>?_⟩,fun hge=>?_⟩
    ·have e1:IntKind.i64.wrap ((d:Int)+1)=((d+1:Nat):Int):=by rw[aX (by omega) (by omega)];omega
     have e2:IntKind.i64.wrap ((k:Int)+1)=((k+1:Nat):Int):=cm k (by omega)
     have hk2:∀lo',(if k=0 then lo'=lo else lo'=c.key)→¬((k+1:Nat):Int)<n.l.length→∀T,aa Tryz.prog w0 258 [eT (aA c),.agg [dS lo',dS hi],dB false] T (fun e S'=>e=dI d∧S'=T):=fun lo' h1 h2 T=>hkid k c hc lo' hi h1 (by rw[List.getElem?_eq_none (by omega)]) T
     have hk1:∀lo' a,(if k=0 then lo'=lo else lo'=c.key)→n.l[k+1]? =some a→∀T,aa Tryz.prog w0 258 [eT (aA c),.agg [dS lo',dS a.key],dB false] T (fun e S'=>e=dI d∧S'=T):=fun lo' a h1 h2 T=>hkid k c hc lo' a.key h1 (by rw[h2]) T
     rw[e2]
     refine⟨fun hp=>⟨hlt,fun a ha=>?_⟩,fun hz=>?_⟩
     ·cases eE hc ha
      have hl0:(if k=0 then c.key=lo else c.key=c.key):=by rw[if_neg (by omega)]
      have hf:(if k=0 then(0:Int)else((d+1:Nat):Int))=((d+1:Nat):Int):=if_neg (by omega)
      have hf2:(if k+1=0 then(0:Int)else((d+1:Nat):Int))=((d+1:Nat):Int):=if_neg (by omega)
      have z2:((k:Int)>0)=True:=eq_true hp
      refine⟨fun h1=>⟨by omega,h1,fun a ha=>ao (hk1 c.key a hl0 ha _) ?_⟩,fun h1=>ao (hk2 c.key hl0 h1 _) ?_⟩
      ·(refine @ab _ ?_;refine DD @e1 @e2 @z2 @hf @hf2 @hlt ?_)
       exact fun h=>absurd h (by omega)
      ·(refine @ab _ ?_;refine DD @e1 @e2 @z2 @hf @hf2 @hlt ?_)
       exact fun h=>absurd h (by omega)
     ·have hl0:(if k=0 then lo=lo else lo=c.key):=by rw[if_pos (by omega)]
      have z2:((k:Int)>0)=False:=eq_false hz
      have hf2:(if k+1=0 then(0:Int)else((d+1:Nat):Int))=((d+1:Nat):Int):=if_neg (by omega)
      refine⟨fun h1=>⟨by omega,h1,fun a ha=>ao (hk1 lo a hl0 ha _) ?_⟩,fun h1=>ao (hk2 lo hl0 h1 _) ?_⟩
      ·(refine @ab _ ?_;refine y7 @e1 @e2 @z2 @hf2 @hlt ?_)
       exact fun h=>absurd h (by omega)
      ·(refine @ab _ ?_;refine y7 @e1 @e2 @z2 @hf2 @hlt ?_)
       exact fun h=>absurd h (by omega)
    ·exact if_neg (by omega)
theorem SM(w0:W0)(n:N)(S:St)(h:gQ n)(hz:PZ n)(ht:∀d,Nd d n→bw n≤131072∧d≤100000):aa Tryz.prog w0 247 [eT n] S (fun e S'=>e=dB true∧S'=S):=by
 obtain⟨d,hg,hsum,h2⟩:=h
 have hn:=az hg
 obtain⟨ht1,ht2⟩:=ht d hn
 have hdep:=fun(hne:n.l≠[]) S=>Ub w0 d n aJ aJ true S hg ht1 ht2 hsum (.inl rfl) hne h2 (fun x _=>ot _) (fun e=>absurd rfl e)
 have hlen:=df n
 have hkl:n.leaf=false→n.l≠[]:=fun e he=>by
  have:=h2.resolve_left (by rw[e];simp)
  rw[he]at this;simp at this
 cases hlf:n.leaf with
 |true=>
  rw[bR hlf]at*
  refine aZ [] mx Tryz.func247 rfl rfl (by kernel_rfl) ?_;(refine @ab _ ?_;refine an @Tryz.ntmps247 ?_)
  intro b
  have hfin:(n.aq=0→¬n.l=[])→n.l≠[]:=fun h e=>h (hz e) e
  refine⟨fun hp hw=>?_,fun hp=>?_⟩
  ·have hne:n.l≠[]:=fun e=>hw (by rw[e];rfl)
   refine ao (hdep hne _) ?_
   (refine @ab _ ?_;exact aV)
  ·refine ao (hdep (fun e=>hp (hz e)) _) ?_
   (refine @ab _ ?_;exact aV)
 |false=>
  refine aZ [] mx Tryz.func247 rfl rfl (by kernel_rfl) ?_;(refine @ab _ ?_;refine ba @Tryz.ntmps247 @hlf ?_)
  intro b
  refine ao (hdep (hkl hlf) _) ?_ ⟨?_,.refl _,.refl _,trivial⟩
  ·(refine @ab _ ?_;exact aV)
  ·(refine @ab _ ?_;exact mc @hlf)
structure FF(n:N):Prop where
 tl:TL n
 kR:bw n≤131072
 dep:∀d,Nd d n→d≤100000
def oc(n:N)(at_:List Int):Prop:=(at_++cf n).Nodup∧(∀p,p∈at_++cf n→2≤p∧p≤999)∧dG n≤at_.length
noncomputable def yt(n:N)(at_:List Int):Bool:=@decide (oc n at_) (Classical.propDecidable _)
theorem xi{n:N}{at_:List Int}(h:oc n at_):yt n at_=true:=@decide_eq_true _ (Classical.propDecidable _) h
theorem tL{n:N}{at_:List Int}(h:¬oc n at_):yt n at_=false:=@decide_eq_false _ (Classical.propDecidable _) h
theorem TG.of{n:N}{at_:List Int}(h:FF n)(hl:at_.length≤1024)(hm:oc n at_):TG n at_:=⟨h.tl,h.kR,h.dep,hl,hm.2.2,hm.1,hm.2.1⟩
theorem SC{L:List Int}(hs:L.Pairwise (·≤·))(h:∀(j:Nat) x,L[j]? =some x→(2≤x∧x≤999)∧∀y,0<j→L[j-1]? =some y→x≠y):L.Nodup∧∀p,p∈L→2≤p∧p≤999:=by
 refine⟨?_,fun p hp=>?_⟩
 ·have:L.Pairwise (·<·):=by
   rw[List.pairwise_iff_getElem]
   intro i j hi hj hij
   have h1:=(h j _ (List.getElem?_eq_getElem hj)).2 L[j-1] (by omega) (List.getElem?_eq_getElem (by omega))
   have h2:L[j-1]≤L[j]:=List.pairwise_iff_getElem.1 hs _ _ (by omega) hj (by omega)
   have h3:L[i]≤L[j-1]:=by
    by_cases e:i=j-1
    ·subst e;exact Int.le_refl _
    ·exact List.pairwise_iff_getElem.1 hs _ _ hi (by omega) (by omega)
   omega
  exact this.imp fun{a b} h=>by omega
 ·obtain⟨j,hj⟩:=List.mem_iff_getElem?.1 hp
  exact(h j p hj).1
theorem Oa{l:List Int}(h:l.Nodup)(hr:∀p,p∈l→2≤p∧p≤999):l.length≤998:=by
 have hp:=bN l
 have hs:(dh l).Pairwise (·<·):=List.Pairwise.imp (R:=fun x y=>x≤y∧x≠y) (fun h=>by omega) ((qk l).and (hp.nodup_iff.2 h))
 have hr2:∀p,p∈dh l→2≤p∧p≤999:=fun p hp'=>hr p (hp.mem_iff.1 hp')
 rw[←hp.length_eq]
 generalize dh l=L at*
 have:∀i (hi:i<L.length),(2+i:Int)≤L[i]:=fun i=>by
  induction i with
  |zero=>intro hi;have:=(hr2 L[0] (List.getElem_mem _)).1;omega
  |succ i ih=>
   intro hi
   have h1:=ih (by omega)
   have h2:=List.pairwise_iff_getElem.1 hs i (i+1) (by omega) hi (by omega)
   omega
 rcases Nat.eq_zero_or_pos L.length with q|q
 ·omega
 ·have h1:=this (L.length-1) (by omega)
  have h2:=(hr2 L[L.length-1] (List.getElem_mem _)).2
  omega
theorem oc.len{n:N}{at_:List Int}(h:oc n at_):at_.length≤998:=Oa (List.nodup_append.1 h.1).1 fun p hp=>h.2.1 p (List.mem_append_left _ hp)
theorem Wo(w0:W0)(n:N)(at_:List Int)(S:St)(h:FF n)(hln:at_.length≤1100):aa Tryz.prog w0 226 [eT n,dL at_] S (fun d S'=>d=dB (yt n at_)∧S'=S):=by
 obtain⟨d,hn⟩:=sY h.tl
 have hfine:CL n:=⟨d,hn,h.kR⟩
 have hpg:=fun S=>Kv w0 n S hfine
 rw[Ka hn]at hpg
 have hck:=fun S=>SM w0 n S h.tl.root h.tl.pz fun d hd=>⟨h.kR,h.dep d hd⟩
 have hfs:=fun S=>MF w0 n S hfine
 have hal:=RU hn
 have ht:=h.kR
 have hp:(at_++dh (cf n)).Perm (at_++cf n):=List.Perm.append_left _ (bN _)
 have hfl:flat [at_,dh (cf n)]=at_++dh (cf n):=by simp[flat]
 have hlen:(at_++dh (cf n)).length=at_.length+(cf n).length:=by rw[hp.length_eq,List.length_append]
 have hcc:=fun S=>concat w0 [at_,dh (cf n)] S (by simp) (by rw[hfl,hlen];omega)
 rw[hfl]at hcc
 have hsp:(dh (at_++dh (cf n))).Perm (at_++cf n):=(bN _).trans hp
 have hup:=qk (at_++dh (cf n))
 have hll:(dh (at_++dh (cf n))).length=at_.length+(cf n).length:=by rw[hsp.length_eq,List.length_append]
 have hso:∀(l:Nat) (S:St),lk S.acc l=some (.arr 1 ((at_++dh (cf n)).map dI))→aa Tryz.prog w0 51 [.acc l (at_.length+(cf n).length)] S (fun d S'=>d= .bD []∧S'=⟨S.box,up S.acc l (.arr 1 ((dh (at_++dh (cf n))).map dI))⟩):=fun l S hl=>by
  have:=mS w0 hl (by rw[hlen];omega)
  rw[hlen]at this
  exact this
 rw[hlen]at hcc
 generalize dh (at_++dh (cf n))=L at*
 generalize at_++dh (cf n)=M at*
 generalize hA:dh (cf n)=A at*
 have hb1:(∀(j:Nat) x,L[j]? =some x→(2≤x∧x≤999)∧∀y,0<j→L[j-1]? =some y→x≠y)→dG n≤at_.length→yt n at_=true:=fun q1 q2=>xi (by
  obtain⟨z1,z2⟩:=SC hup q1
  exact⟨hsp.nodup_iff.1 z1,fun p hp=>z2 p (hsp.mem_iff.2 hp),q2⟩)
 have hb2:∀x,x∈L→¬(2≤x∧x≤999)→yt n at_=false:=fun x hx q=>tL fun c=>q (c.2.1 x (hsp.mem_iff.1 hx))
 have hb3:∀(j:Nat) x,0<j→L[j]? =some x→L[j-1]? =some x→yt n at_=false:=fun j x h0 h1 h2=>tL fun c=>by
  have:=hsp.nodup_iff.2 c.1
  obtain⟨u1,e1⟩:=List.getElem?_eq_some_iff.1 h1
  obtain⟨u2,e2⟩:=List.getElem?_eq_some_iff.1 h2
  exact(List.pairwise_iff_getElem.1 this) (j-1) j u2 u1 (by omega) (e2.trans e1.symm)
 have hb4:¬dG n≤at_.length→yt n at_=false:=fun q=>tL fun c=>q c.2.2
 generalize yt n at_=R at*
 refine aZ [] mx Tryz.func226 rfl rfl (by kernel_rfl) ?_;(refine @ab _ ?_;refine an @Tryz.ntmps226 ?_)
 intro b
 refine ao (hpg _) ?_
 (refine @ab _ ?_;refine au ?_)
 refine bA (hcc _) ?_ (.cons (Wk.full _ _ _) .nil)
 rintro _ _ ⟨la,rfl,rfl⟩
 (refine @ab _ ?_;refine au ?_)
 refine .inl (bA (hso la.n ⟨_,(la.n,.arr 1 (M.map dI))::S.acc⟩ (by simp[lk])) ?_)
 rintro _ _ ⟨rfl,rfl⟩
 (refine @ab _ ?_;refine au ?_)
 refine aF [] L.length [1,2,5,15,16,17] (fun k=>[(17,dI k)]) (fun _=>⟨(b.n,[dI n.aq,dB n.leaf,.sl 1 false (n.l.map fun c=>dS c.key),.sl 2 false ((if n.leaf then n.l else []).map fS),.sl 5 false ((aN n).map dT)])::S.box,(la.n,.arr 1 (L.map dI))::S.acc⟩) (fun k=>∀(j:Nat) x,j<k→L[j]? =some x→(2≤x∧x≤999)∧∀y,0<j→L[j-1]? =some y→x≠y) mx (by kernel_rfl) ?_ ?_
 ·(refine @ab _ ?_;refine an @hll ?_)
  exact fun j x hj=>absurd hj (by omega)
 ·intro k hk hinv
  have hstep:∀a,L[k]? =some a→¬a<2→¬a>999→(∀y,0<k→L[k-1]? =some y→a≠y)→∀(j:Nat) x,j<k+1→L[j]? =some x→(2≤x∧x≤999)∧∀y,0<j→L[j-1]? =some y→x≠y:=fun a ha q1 q2 q3 j x hj hx=>by
   rcases Nat.lt_succ_iff_lt_or_eq.1 hj with q|q
   ·exact hinv j x q hx
   ·subst q
    cases eE ha hx
    exact⟨by omega,q3⟩
  (refine @ab _ ?_;refine an @hll ?_)
  refine⟨fun hlt=>⟨hlt,hlt,fun a ha=>⟨fun q=>?_,fun q1=>⟨fun q=>?_,fun q2=>⟨fun hk0=>?_,fun hk0=>?_⟩⟩⟩⟩,fun hge=>?_⟩
  ·rw[hb2 a (List.mem_of_getElem? ha) (by omega)]
  ·rw[hb2 a (List.mem_of_getElem? ha) (by omega)]
  ·have ew:IntKind.i64.wrap ((k:Int)-1)=((k-1:Nat):Int):=by rw[aX (by omega) (by omega)];omega
   rw[ew,Int.toNat_natCast]
   refine⟨by omega,by omega,by omega,fun a2 ha2=>⟨fun he=>?_,fun he=>⟨hlt,?_,cm k (by omega)⟩⟩⟩
   ·subst he
    rw[hb3 k a (by omega) ha ha2]
   ·exact hstep a ha q1 q2 fun y _ hy=>by cases eE ha2 hy;exact he
  ·exact⟨hlt,hstep a ha q1 q2 (fun y h0=>absurd h0 (by omega)),cm k (by omega)⟩
  ·have hall:=fun(j:Nat) x (hx:L[j]? =some x)=>hinv j x (by have:=(List.getElem?_eq_some_iff.1 hx).1;omega) hx
   refine ao (hck _) ?_
   (refine @ab _ ?_;refine au ?_)
   refine ao (hfs _) ?_
   (refine @ab _ ?_;refine au ?_)
   by_cases q:dG n≤at_.length
   ·rw[hb1 hall q,decide_eq_true q]
   ·rw[hb4 q,decide_eq_false q]
theorem Qe(w0:W0)(l:List Int)(S:St)(h:l.length≤1048576):aa Tryz.prog w0 227 [dL l] S (fun d S'=>d=dL l∧S'=S):=by
 refine jv (aa.mono (EJ w0 l S h) ?_)
 rintro d S' ⟨b,rfl,rfl⟩
 (refine @ab _ ?_;exact aV)
noncomputable def BW(n:N)(at_:List Int):DV:=if yt n at_ then .bD [eT (bq n (at_,[])).1,.sl 2 false ((bq n (at_,[])).2.2.map nH),dL (bq n (at_,[])).2.1,dB true]else .bD [eT n,.sl 0 true [],.sl 0 true [],dB false]
theorem U4(w0:W0)(hgl:fw w0)(n:N)(at_:List Int)(S:St)(h:FF n)(hln:at_.length≤1100):aa Tryz.prog w0 181 [eT n,dL at_] S (fun d S'=>d=BW n at_∧S'=S):=by
 have hmay:=fun S=>Wo w0 n at_ S h hln
 have hcl:=fun S=>Qe w0 at_ S (by omega)
 by_cases hm:oc n at_
 ·have hL:=TG.of h (by have:=hm.len;omega) hm
  obtain⟨d,hg,hs,h2⟩:=h.tl.root
  have hfr:=hL.fr
  have hln:=hL.len
  have hnd:=List.nodup_append.1 hL.nd
  have hlay:=fun bs lw S (hI:mb S bs lw at_ [])=>YG w0 hgl bs lw d n (at_,[]) S hg h.tl.laid hI h.kR hs h2 hfr hln hnd.1 (fun x hx=>hL.re x (List.mem_append_left _ hx)) (fun x hx=>hL.re x (List.mem_append_right _ hx)) (by show 0+_≤_;omega)
  have e:BW n at_= .bD [eT (bq n (at_,[])).1,.sl 2 false ((bq n (at_,[])).2.2.map nH),dL (bq n (at_,[])).2.1,dB true]:=by unfold BW;rw[xi hm];rfl
  rw[e]
  rw[xi hm]at hmay
  generalize bq n (at_,[])=R at*
  refine aZ [4,5] mx Tryz.func181 rfl rfl (by kernel_rfl) ?_;(refine @ab _ ?_;refine an @Tryz.ntmps181 ?_)
  intro b b1
  refine ao (hmay _) ?_
  (refine @ab _ ?_;refine au ?_)
  refine ao (hcl _) ?_
  (refine @ab _ ?_;refine au ?_)
  intro b2
  refine ib b2.n 0 2 (by omega) (ds:=[.sl 0 true [],.sl 1 false (at_.map dI)]) (by(refine @ab _ ?_;exact aV)) rfl fun lw=>?_
  (refine @ab _ ?_;refine au ?_)
  refine lE [5] [] mx (by kernel_rfl) ?_
  (refine @ab _ ?_;refine au ?_)
  refine bA (hlay b2.n lw.n _ ⟨by(refine @ab _ ?_;exact aV),by(refine @ab _ ?_;exact aV)⟩) ?_
  rintro e S' ⟨rfl,rfl⟩
  simp(maxDischargeDepth:=12) (maxSteps:=1000000) -implicitDefEqProofs only[go_sem,Nat.reduceAdd,Nat.reduceSub,Nat.reduceMul,Nat.reduceLeDiff,Nat.reduceEqDiff,Nat.reduceGT,Nat.reduceBEq,reduceCtorEq,↓reduceIte,Int.reduceToNat,Int.reduceLE,Int.reduceLT,Int.reduceNe,Int.reduceEq,gi]
  intro b9
  refine Me b2.n 0 (l:=lw.n) (s:=2) (xs:=R.2.2.map nH) (ds:=[.acc lw.n R.2.2.length,.sl 1 false (R.2.1.map dI)]) (by(refine @ab _ ?_;exact aV)) (by simp) (by(refine @ab _ ?_;exact aV)) ?_
  (refine @ab _ ?_;refine au ?_)
  refine Y.Tz [b1.n] [9] [] [1,2,3,5,6,7,0,4,8,9,10,11,12] mx (by kernel_rfl) ?_
  (refine @ab _ ?_;exact aV)
 ·have e:BW n at_= .bD [eT n,.sl 0 true [],.sl 0 true [],dB false]:=by unfold BW;rw[tL hm];rfl
  rw[e]
  rw[tL hm]at hmay
  refine aZ [5] mx Tryz.func181 rfl rfl (by kernel_rfl) ?_;(refine @ab _ ?_;refine an @Tryz.ntmps181 ?_)
  intro b b1
  refine ao (hmay _) ?_
  (refine @ab _ ?_;refine au ?_)
  trivial
end Go.Proofs.YtpjenciplibdnaaGreatDoor
namespace Go.Proofs.YtpjenciplibdnaaGreatDoor
open Aml Go
open Aml Go
end Go.Proofs.YtpjenciplibdnaaGreatDoor
namespace Go.Proofs.YtpjenciplibdnaaGreatDoor
open Aml Go
mutual
def plN:N→N
 | .mk p b l=> .mk p b (Wg b l)
def Z5(b:Bool):C→C
 | .mk k d ps kid=>if b then .mk k d ps []else .mk k aJ [] (YB kid)
def Wg(b:Bool):List C→List C
 |[]=>[]
 |c::l=>Z5 b c::Wg b l
def YB:List N→List N
 |[]=>[]
 |n::_=>[plN n]
end
end Go.Proofs.YtpjenciplibdnaaGreatDoor
namespace Go.Proofs.YtpjenciplibdnaaGreatDoor
open Aml Go
open Aml Go
end Go.Proofs.YtpjenciplibdnaaGreatDoor
namespace Go.Proofs.YtpjenciplibdnaaGreatDoor
open Aml Go
structure BT(k:Nat)(n:N):Prop where
 tb:TB k n
 tl:TL n
 nd:(cf n).Nodup
 re:∀p,p∈cf n→2≤p∧p≤999
theorem AQ{k:Nat}{n:N}(h:BT k n)(hk:k≤116):FF n:=by
 obtain⟨hr,d,hg,hd,ht⟩:=h.tb
 exact⟨h.tl,by omega,fun e he=>by have:=oe he (az hg);omega⟩
theorem SB{k:Nat}{n:N}{at_:List Int}(h:BT k n)(hm:oc n at_):BT k (bq n (at_,[])).1:=by
 obtain⟨hr,d,hg,hd,ht⟩:=h.tb
 have hn:=az hg
 have hz:∀p,p∈at_→p≠0:=fun p hp=>by have:=hm.2.1 p (List.mem_append_left _ hp);omega
 have hfull:=uV (q:=(at_,[])) hn h.tl.laid hm.2.2 hz
 have hal:=CN (q:=(at_,[])) hn hm.2.2 hz
 have hsub:(at_.take (dG n)++cf n).Sublist (at_++cf n):=(List.take_sublist _ _).append (List.Sublist.refl _)
 refine⟨⟨zq _ hr,d,pW _ hg,hd,by rw[P4 _ hn];exact ht⟩,⟨zq _ hr,vM (yF _ hn) hfull,fun e=>Classical.not_not.1 fun z=>(wG (yF _ hn) hfull).1 z e⟩,?_,fun p hp=>?_⟩
 ·exact(hal.trans List.perm_append_comm).nodup_iff.2 (hm.1.sublist hsub)
 ·exact hm.2.1 p (hsub.subset ((hal.trans List.perm_append_comm).mem_iff.1 hp))
structure S19 where
 key:ByteArray
 size:Int
 lay:Bool
end Go.Proofs.YtpjenciplibdnaaGreatDoor
namespace Go.Proofs.YtpjenciplibdnaaGreatDoor
open Aml Go
end Go.Proofs.YtpjenciplibdnaaGreatDoor
namespace Go.Proofs.YtpjenciplibdnaaGreatDoor
open Aml Go
def yS(k:Nat)(q q':LS):Prop:=q'.1=q.1.drop k∧∃w:List (Int×ByteArray),q'.2=q.2++w∧w.map (·.1)=q.1.take k∧∀x,x∈w→x.2.size=128
theorem yS.none(q:LS):yS 0 q q:=⟨by simp,[],by simp,by simp,fun x hx=>by cases hx⟩
theorem yS.trans{k m:Nat}{q q1 q2:LS}(h:yS k q q1)(h':yS m q1 q2):yS (k+m) q q2:=by
 obtain⟨a1,w,a2,a3,a4⟩:=h
 obtain⟨b1,v,b2,b3,b4⟩:=h'
 exact⟨by rw[b1,a1,List.drop_drop],w++v,by rw[b2,a2,List.append_assoc],by rw[List.map_append,a3,b3,a1,List.take_add],fun x hx=>(List.mem_append.1 hx).elim (a4 x) (b4 x)⟩
theorem yS.aq{q:LS}{b:ByteArray}(hq:1≤q.1.length)(hb:b.size=128):yS 1 q (q.1.tail,q.2++[(q.1.headD 0,b)]):=by
 obtain⟨l,w⟩:=q
 cases l with
 |nil=>simp at hq
 |cons a l=>exact⟨rfl,[(a,b)],rfl,rfl,fun x hx=>by rw[List.mem_singleton.1 hx];exact hb⟩
theorem Nn{z i:Nat}(h:i<need (z:Int)):119*i<z:=by
 unfold need at h
 split at h <;>omega
theorem yS.value(d:ByteArray)(ps:List Int)(q:LS)(hq:(if ps=[]then need (d.size:Int)else 0)≤q.1.length):yS (if ps=[]then need (d.size:Int)else 0) q (eX d ps q).2:=by
 unfold eX
 by_cases h:need (d.size:Int)=0∨ps≠[]
 ·rw[if_pos h]
  have:(if ps=[]then need (d.size:Int)else 0)=0:=by
   by_cases e:ps=[]
   ·rw[if_pos e];exact h.resolve_right fun f=>f e
   ·rw[if_neg e]
  rw[this];exact .none q
 ·rw[if_neg h]
  have hp:ps=[]:=Classical.not_not.1 fun e=>h (.inr e)
  rw[if_pos hp]at hq ⊢
  have hl:(q.1.take (need (d.size:Int))).length=need (d.size:Int):=by rw[List.length_take];omega
  refine⟨rfl,_,rfl,?_,fun x hx=>?_⟩
  ·refine List.map_fst_zip ?_
   unfold bl;rw[List.length_map,List.length_range];exact Nat.le_refl _
  ·have hx2:=(List.of_mem_zip (a:=x.1) (b:=x.2) hx).2
   unfold bl at hx2
   rw[hl]at hx2
   obtain⟨i,hi,e⟩:=List.mem_map.1 hx2
   rw[←e]
   refine je 3 ?_
   have h1:=rr (v:=d) (at_:=q.1.take (need (d.size:Int))) (Nn (List.mem_range.1 hi))
   unfold bO
   rw[List.map_cons,List.map_nil,List.sum_cons,List.sum_nil,h1]
   unfold iC
   omega
theorem vU{b:Bool}:∀{l:List C} {q:LS},(∀c,c∈l→∀q':LS,ko b c≤q'.1.length→(∀x,x∈q'.1→x∈q.1)→yS (ko b c) q' (eU b c q').2)→gP b l≤q.1.length→yS (gP b l) q (ah b l q).2
 |[],q,_,_=>by simp only[ah,gP,List.map_nil,List.sum_nil];exact .none q
 |c::l,q,h,hq=>by
  have e:gP b (c::l)=ko b c+gP b l:=by unfold gP;rw[List.map_cons,List.sum_cons]
  rw[e]at hq ⊢
  have h1:=h c List.mem_cons_self q (by omega) fun x hx=>hx
  have hd:=h1.1
  simp only[ah]
  refine h1.trans (vU (fun c hc q' h2 h3=>h c (List.mem_cons_of_mem _ hc) q' h2 fun x hx=>?_) (by rw[hd,List.length_drop];omega))
  have:=h3 x hx
  rw[hd]at this
  exact List.mem_of_mem_drop this
theorem O6:∀{d:Nat} {kid:N},Good d kid→Fits kid→kid.leaf=true∨2≤kid.l.length
 |0,kid,hkg,_=> .inl hkg.1
 |d+1,kid,hkg,hkf=>by
  refine .inr ?_
  have h30:=hkf.1
  have hsz:=gV hkg
  unfold ae at h30 hsz
  match hm:kid.l with
  |[]=>rw[hm]at h30;simp at h30
  |[x]=>
   rw[hm]at h30 hsz
   have:=hsz _ (List.mem_map_of_mem List.mem_cons_self)
   simp only[List.map_cons,List.map_nil,List.sum_cons,List.sum_nil]at h30 this
   rw[if_neg (by omega)]at this
   omega
  |x::y::r=>simp
theorem M6:∀(d:Nat) {n:N} {q:LS},Good d n→k8 n→(ae n).sum≤122→(n.leaf=true∨2≤n.l.length)→dG n≤q.1.length→(∀x,x∈q.1→2≤x∧x≤999)→(∀p,p∈cf n→2≤p∧p≤999)→yS (dG n) q (bq n q).2:=by
 have fin:∀(d:Nat) {n:N} {q:LS},Good d n→k8 n→(ae n).sum≤122→(n.leaf=true∨2≤n.l.length)→dG n≤q.1.length→(∀x,x∈q.1→2≤x∧x≤999)→(∀p,p∈cf n→2≤p∧p≤999)→
  (∀c,c∈n.l→∀q':LS,ko n.leaf c≤q'.1.length→(∀x,x∈q'.1→x∈q.1)→yS (ko n.leaf c) q' (eU n.leaf c q').2)→yS (dG n) q (bq n q).2:=by
  intro d n q hg hla hs h2 hf hr hp h
  have hn:=az hg
  have h8:=tu (q:=q) hg hla hs h2 hf hr hp
  rw[fv hn]at hf
  rw[dJ,fv hn]
  by_cases hz0:n.aq≠0
  ·rw[if_pos hz0,if_pos (show n.aq≠0∨(n.leaf=true∧n.l=[])from .inl hz0)];exact .none q
  ·rw[if_neg hz0]at hf
   rw[if_neg hz0]
   by_cases hz:n.leaf=true∧n.l=[]
   ·rw[if_pos hz,if_pos (show n.aq≠0∨(n.leaf=true∧n.l=[])from .inr hz)];exact .none q
   ·rw[if_neg hz]at hf
    rw[if_neg hz,if_neg (show¬(n.aq≠0∨(n.leaf=true∧n.l=[]))from fun e=>e.elim hz0 hz),Nat.add_comm]
    have hw:=vU (q:=q) h (by omega)
    refine hw.trans (yS.aq (by rw[hw.1,List.length_drop];omega) ?_)
    exact je _ (h8 fun e=>e.elim hz0 hz).fits
 intro d
 induction d with
 |zero=>
  intro n q hg hla hs h2 hf hr hp
  refine fin 0 hg hla hs h2 hf hr hp fun c hc q' hq' _=>?_
  rw[hg.1]at hq' ⊢
  rw[bX]
  exact yS.value c.data c.ak q' hq'
 |succ d ih=>
  intro n q hg hla hs h2 hf hr hp
  refine fin (d+1) hg hla hs h2 hf hr hp fun c hc q' hq' hsub=>?_
  obtain⟨hsh,_,kid,hkid,hkg,hkf⟩:=hg.2.2.cell c hc
  have hrc:ko false c=dG kid:=by rw[←bx hkid];rfl
  have hal:∀p,p∈cf kid→p∈cf n:=fun p hp=>by
   rw[fN n,hg.1]
   exact List.mem_append_right _ (List.mem_flatMap.2 ⟨c,hc,by rw[fJ hkid];exact List.mem_append_right _ hp⟩)
  rw[hg.1]at hq' ⊢
  rw[hrc]at hq' ⊢
  rw[dg hkid]
  refine ih hkg ?_ hkf.2 (O6 hkg hkf) hq' (fun x hx=>hr x (hsub x hx)) fun p h=>hp p (hal p h)
  cases hla with|mk _ _ _ h3=>exact h3 hg.1 c hc kid hkid
theorem VT{k:Nat}{n:N}{at_:List Int}(h:BT k n)(hm:oc n at_):(bq n (at_,[])).2.1=at_.drop (dG n)∧(bq n (at_,[])).2.2.map (·.1)=at_.take (dG n)∧∀x,x∈(bq n (at_,[])).2.2→x.2.size=128:=by
 obtain⟨d,hg,hs,h2⟩:=h.tl.root
 obtain⟨a1,w,a2,a3,a4⟩:=M6 d (q:=(at_,[])) hg h.tl.laid hs h2 hm.2.2 (fun x hx=>hm.2.1 x (List.mem_append_left _ hx)) fun x hx=>hm.2.1 x (List.mem_append_right _ hx)
 rw[List.nil_append]at a2
 rw[a2]
 exact⟨a1,a3,a4⟩
structure Ld(k:Nat)(n:N)(at_:List Int)(M:N)(R:List Int)(W:List (Int×ByteArray)):Prop where
 eq:bq n (at_,[])=(M,(R,W))
 bt:BT k M
 fr:dG M=0
 left:R=at_.drop (dG n)
 pg:W.map (·.1)=at_.take (dG n)
 sz:∀x,x∈W→x.2.size=128
 al:(cf M).Perm (cf n++at_.take (dG n))
 en:tT M=tT n
theorem Ra{k:Nat}{n:N}{at_:List Int}(h:BT k n)(hm:oc n at_):∃M R W,Ld k n at_ M R W:=by
 obtain⟨a1,a2,a3⟩:=VT h hm
 have hb:=SB h hm
 obtain⟨d,hg,hs,h2⟩:=h.tl.root
 have hn:=az hg
 have hz:∀p,p∈at_→p≠0:=fun p hp=>by have:=hm.2.1 p (List.mem_append_left _ hp);omega
 refine⟨(bq n (at_,[])).1,(bq n (at_,[])).2.1,(bq n (at_,[])).2.2,rfl,hb,S3 hn hm.2.2 hz,a1,a2,a3,CN hn hm.2.2 hz,?_⟩
 have he:=DG (at_,[]) hn
 unfold tT
 have hm2:∀l:List C,l.map Ru=(l.map fun c=>(c.key,c.data)).map fun x=>C.mk x.1 x.2 [] []:=fun l=>by rw[List.map_map];rfl
 rw[hm2,hm2,he]
theorem HQ{d:Nat}{n:N}(hn:Nd d n)(h:dG n=0)(q:LS):bq n q=(n,q):=by
 rw[dJ,if_pos]
 rw[fv hn]at h
 by_cases h0:n.aq≠0
 ·exact .inl h0
 ·rw[if_neg h0]at h
  by_cases h1:n.leaf=true∧n.l=[]
  ·exact .inr h1
  ·rw[if_neg h1]at h;omega
theorem Mb{k:Nat}{n:N}{at_:List Int}{M:N}{R:List Int}{W:List (Int×ByteArray)}(hm:oc n at_)(h:Ld k n at_ M R W):BW n at_= .bD [eT M,.sl 2 false (W.map nH),dL R,dB true]:=by
 unfold BW;rw[xi hm,h.eq];rfl
end Go.Proofs.YtpjenciplibdnaaGreatDoor
