/-
  Views laid on pages: plain laws; Numbers and texts as bytes, rows of bytes put together: what the program computes; Sums of bytes by a table: what the program computes is what the reference does; Pages of cells: what the program computes is the reference's page; Nodes as pages: what the program computes is the reference's; Long values as pages: what the program computes is the reference's; A value laid over pages: what the program computes is the reference's; Values laid on pages: what the program computes is the reference's; A tree laid on pages: what the reference computes; What stands on a node's page: what the program computes is the reference's; Values and nodes laid one by one: what the program computes is the reference's; A tree laid on pages: what the program computes is the reference's; Whether a tree may be: what the reference computes; Whether a tree may be, whole: what the reference computes; Whether a tree may be laid, and the laid one: what the reference computes; How far a tree's leaves are; whether it may be: what the program computes; Whether a tree may be laid, and the laid one: what the program computes is the reference's; Whether a tree may be laid, and the laid one, whatever pages are given: what the reference computes; The law's trees, as the program has them, of the reference's, and back; pages that a tree hasn't; The law's trees back as the reference has them; What is the same is the same: what the program computes; The reference's views: what it computes; A good tree's copy is itself; the law's helpers, of trees that steps come to; The law's trees behind steps: what they are; The law's guard against a dead program; What is written when a tree is laid: the pages that are taken, in order, each of 128 bytes; A tree of steps, laid on pages: all that is known of it. By an AI agent.
-/
import Derived.Test.YtpjenciplibdnaaGreatDoorMM6
import Derived.Test.YtpjenciplibdnaaGreatDoorMM5
set_option linter.unusedVariables false
set_option linter.unusedSimpArgs false
set_option maxRecDepth 100000
set_option maxHeartbeats 16000000
namespace Go.Proofs.YtpjenciplibdnaaGreatDoor
open Aml Go
theorem wJ:∀{d:Nat} {n:N} (q:LS),Nd d n→(∀x,x∈df n→x.data.size≤16)→df (bk n q).1=df n
 |0,n,q,hn,hs=>by
  rcases dO n q with e|e
  ·rw[e]
  ·rw[cA hn.1]at hs
   rw[cA hn.1,cA (by rw[dZ];exact hn.1),e,hn.1]
   have:∀(l:List C) (q:LS),(∀c,c∈l→c.data.size≤16)→(ah true l q).1=l:=fun l=>by
    induction l with
    |nil=>intro q _;rfl
    |cons c l ih=>
     intro q h
     have h0:need (c.data.size:Int)=0:=by have:=h c List.mem_cons_self;unfold need;rw[if_neg (by omega)]
     have h1:(eP true c q).1=c:=by
      rw[bX]
      unfold eW
      rw[if_pos (.inl h0)]
      cases c;rfl
     simp only[ah]
     rw[ih _ fun c hc=>h c (List.mem_cons_of_mem _ hc),h1]
   exact this _ _ hs
 |d+1,n,q,hn,hs=>by
  rcases dO n q with e|e
  ·rw[e]
  ·rw[cE,hn.1]at hs
   rw[cE,cE n,dZ,e,hn.1]
   have:∀(l:List C) (q:LS),(∀c,c∈l→c∈n.l)→(ah false l q).1.flatMap (iW false)=l.flatMap (iW false):=by
    intro l
    induction l with
    |nil=>intro q _;rfl
    |cons c l ih=>
     intro q hl
     obtain⟨hsh,k,hk,hnd⟩:=hn.2.2 c (hl c List.mem_cons_self)
     simp only[ah,List.flatMap_cons]
     rw[ih _ fun c hc=>hl c (List.mem_cons_of_mem _ hc),dc hk,bc (k:=(bk k q).1) rfl,bc hk,wJ q hnd fun x hx=>hs x (List.mem_flatMap.2 ⟨c,hl c List.mem_cons_self,by rw[bc hk];exact hx⟩)]
   exact this n.l q fun _ h=>h
def nD(l:List C):Nat:=(l.map fun c=>dm (ay c)).sum
def ct(q:N×List C):Nat:=dm q.1+nD q.2
def pR(l:List C):List Int:=l.flatMap fun c=>cf (ay c)
def gM(q:N×List C):List Int:=cf q.1++pR q.2
theorem IC(l:List C)(c:C):nD (l++[c])=nD l+dm (ay c):=by simp[nD]
theorem J8(l:List C)(k:Nat):nD (l.take k)≤nD l:=by
 have:=congrArg nD (List.take_append_drop k l)
 simp only[nD,List.map_append,List.sum_append]at this ⊢
 omega
structure TL(n:N):Prop where
 root:gN n
 laid:kG n
 pz:PZ n
theorem tT{n:N}(h:TL n):∃d,Nd d n:=let⟨d,h1,_⟩:=h.root;⟨d,ax h1⟩
structure TV(q:N×List C):Prop where
 dir:TL q.1
 cell:∀c,c∈q.2→TL (ay c)
structure BI(k:Nat)(q o:N×List C)(f:Int):Prop where
 v:VI k q.1 q.2
 w:VI k o.1 o.2
 tv:TV q
 f0:ct o=0
 sub:∀p,(gM q).count p≤(gM o).count p
 one:∀p,(gM o).count p≤1
 qW:∀p,p∈gM o→2≤p∧p<f
 lo:2≤f
 hi:f≤1000
theorem O9{k m:Nat}{q o:N×List C}{f:Int}(h:BI k q o f)(hm:k≤m):BI m q o f:=⟨fF h.v hm,fF h.w hm,h.tv,h.f0,h.sub,h.one,h.qW,h.lo,h.hi⟩
theorem xn{n:N}{key val:ByteArray}(h:TL n)(h0:key≠aX)(h1:key.size≤16)(h2:val.size≤400):TL (kN key val n):=by
 obtain⟨d,hn⟩:=tT h
 exact⟨(lj h0 h1 h2 h.root).1,HQ uc h1 h2 (.inl rfl) hn h.laid,Sj h.root h0 h1 h2⟩
theorem Kl{n:N}{key:ByteArray}(h:TL n):TL (l7 key n):=by
 obtain⟨d,hn⟩:=tT h
 exact⟨(px key h.root).1,GO uc hn h.laid,T0 h.root h.pz⟩
theorem D8{n:N}{key val:ByteArray}(h:TL n)(h1:key.size≤16)(h2:val.size≤400)(p:Int):(cf (kN key val n)).count p≤(cf n).count p:=by
 obtain⟨d,hn⟩:=tT h
 exact SO h1 h2 p hn
theorem Mb{n:N}{key:ByteArray}(h:TL n)(p:Int):(cf (l7 key n)).count p≤(cf n).count p:=by
 obtain⟨d,hn⟩:=tT h
 exact Sm p hn
theorem xl{k:Nat}{q o q':N×List C}{f:Int}(h:BI k q o f)(h1:VI (k+1) q'.1 q'.2)(h2:TV q')(h3:∀p,(gM q').count p≤(gM q).count p):BI (k+1) q' o f:=
 ⟨h1,fF h.w (by omega),h2,h.f0,fun p=>Nat.le_trans (h3 p) (h.sub p),h.one,h.qW,h.lo,h.hi⟩
theorem pr(l m:List C):pR (l++m)=pR l++pR m:=by unfold pR;rw[List.flatMap_append]
theorem WU{k:Nat}{q o:N×List C}{f:Int}(h:BI k q o f)(hk:k≤116)(name:ByteArray):BI (k+1) (mu name q.1 q.2).1 o f:=by
 have hv:=Jh h.v hk name
 refine xl h hv ?_ ?_ <;>clear hv
 all_goals
  unfold mu
  cases hok:gI name with
  |false=>first|exact h.tv|exact fun p=>Nat.le_refl _
  |true=>
   cases hh:dF q.2 name with
   |true=>first|exact h.tv|exact fun p=>Nat.le_refl _
   |false=>
    obtain⟨hne,hsz⟩:=dw hok
    simp only[if_true,if_false,Bool.false_eq_true]
    first
    |refine⟨xn h.tv.dir hne hsz (by decide),fun c hc=>?_⟩
     rw[List.append_assoc]at hc
     rcases List.mem_append.1 hc with hc|hc
     ·exact h.tv.cell c (List.mem_of_mem_take hc)
     ·rcases List.mem_append.1 hc with hc|hc
      ·rw[List.mem_singleton]at hc;subst hc;exact⟨yE,uj,Q7⟩
      ·exact h.tv.cell c (List.mem_of_mem_drop hc)
    |intro p
     have a:=D8 (key:=name) (val:=yZ) h.tv.dir hsz (by decide) p
     have b:=congrArg (fun l=>(pR l).count p) (List.take_append_drop (aZ q.2 name) q.2)
     simp only[gM,pr,List.count_append]at b ⊢
     have e:(pR [af name l6]).count p=0:=by show List.count p []=0;simp
     omega
theorem VG{k:Nat}{q o:N×List C}{f:Int}(h:BI k q o f)(hk:k≤116)(name:ByteArray):BI (k+1) (vu name q.1 q.2).1 o f:=by
 have hv:=Rg h.v hk name
 refine xl h hv ?_ ?_ <;>clear hv
 all_goals
  unfold vu
  cases hh:dF q.2 name with
  |false=>first|exact h.tv|exact fun p=>Nat.le_refl _
  |true=>
   simp only[if_true]
   first
   |refine⟨Kl h.tv.dir,fun c hc=>?_⟩
    rcases List.mem_append.1 hc with hc|hc
    ·exact h.tv.cell c (List.mem_of_mem_take hc)
    ·exact h.tv.cell c (List.mem_of_mem_drop hc)
   |intro p
    have a:=Mb (key:=name) h.tv.dir p
    have b:=congrArg (fun l=>(pR l).count p) (List.take_append_drop (aZ q.2 name) q.2)
    have c:(pR (q.2.drop (aZ q.2 name+1))).count p≤(pR (q.2.drop (aZ q.2 name))).count p:=by
     rw[←List.drop_drop]
     have:=congrArg (fun l=>(pR l).count p) (List.take_append_drop 1 (q.2.drop (aZ q.2 name)))
     simp only[pr,List.count_append]at this
     omega
    simp only[gM,pr,List.count_append]at b ⊢
    omega
theorem QJ{k:Nat}{q o:N×List C}{f:Int}(h:BI k q o f)(hk:k≤116)(name:ByteArray)(g:N→N×Int)(hg:∀t,TB k t→TB (k+1) (g t).1)(ht:∀t,TL t→TL (g t).1)(hp:∀t,TL t→∀p,(cf (g t).1).count p≤(cf t).count p):BI (k+1) (sD name g q.1 q.2).1 o f:=by
 have hv:=QK h.v hk name g hg
 refine xl h hv ?_ ?_ <;>clear hv
 all_goals
  unfold sD
  cases hh:dF q.2 name with
  |false=>first|exact h.tv|exact fun p=>Nat.le_refl _
  |true=>
   obtain⟨c,hc,hck⟩:=Cq hh
   have hm:=List.mem_of_getElem? hc
   obtain⟨hne,hsz⟩:=dw (h.v.cell c hm).2.2
   rw[hck]at hne hsz
   simp only[if_true,hc]
   split
   ·first
    |refine⟨xn h.tv.dir hne hsz (by decide),fun x hx=>?_⟩
     rcases List.mem_or_eq_of_mem_set hx with hx|rfl
     ·exact h.tv.cell x hx
     ·exact ht _ (h.tv.cell c hm)
    |intro p
     have a:=D8 (key:=name) (val:=yZ) h.tv.dir hsz (by decide) p
     have b:=hp _ (h.tv.cell c hm) p
     obtain⟨hlt,he⟩:=List.getElem?_eq_some_iff.1 hc
     have e1:q.2.set (aZ q.2 name) (af c.key (g (ay c)).1)=q.2.take (aZ q.2 name)++af c.key (g (ay c)).1::q.2.drop (aZ q.2 name+1):=List.set_eq_take_append_cons_drop.trans (if_pos hlt)
     have e2:q.2=q.2.take (aZ q.2 name)++c::q.2.drop (aZ q.2 name+1):=by
      rw[←he,←List.drop_eq_getElem_cons hlt,List.take_append_drop]
     have e3:∀(x:C) (A B:List C),(pR (A++x::B)).count p=(pR A).count p+(cf (ay x)).count p+(pR B).count p:=fun x A B=>by
      unfold pR
      rw[List.flatMap_append,List.flatMap_cons,List.count_append,List.count_append]
      omega
     have e4:=congrArg (fun l=>(pR l).count p) e2
     simp only[e3]at e4
     simp only[gM,List.count_append]
     rw[e1,e3,wM]
     omega
   ·first|exact h.tv|exact fun p=>Nat.le_refl _
theorem Q4{k:Nat}{q o:N×List C}{f:Int}(h:BI k q o f)(hk:k≤116)(name key val:ByteArray):BI (k+1) (rU name key val q.1 q.2).1 o f:=by
 unfold rU
 split
 ·rename_i hc
  simp only[Bool.and_eq_true,decide_eq_true_eq]at hc
  obtain⟨hne,hsz⟩:=dw hc.1
  exact QJ h hk name _ (fun t ht=>tR ht hk hne hsz hc.2) (fun t ht=>xn ht hne hsz hc.2) fun t ht p=>D8 ht hsz hc.2 p
 ·exact O9 h (by omega)
theorem WD{k:Nat}{q o:N×List C}{f:Int}(h:BI k q o f)(hk:k≤116)(name key:ByteArray):BI (k+1) (OG name key q.1 q.2).1 o f:=by
 refine QJ h hk name _ (fun t ht=>?_) (fun t ht=>?_) fun t ht p=>?_
 ·split
  ·exact DX ht hk
  ·exact lJ ht (by omega)
 ·split
  ·exact Kl ht
  ·exact ht
 ·split
  ·exact Mb ht p
  ·exact Nat.le_refl _
def bY(s:ByteArray):List DV:=s.data.toList.map fun c=> .v (.int .u8 c.toNat)
theorem bd(s:ByteArray):(bY s).length=s.size:=by unfold bY;rw[List.length_map];rfl
theorem cQ(a b:ByteArray):bY (a++b)=bY a++bY b:=by
 unfold bY
 rw[←List.map_append]
 congr 1
theorem mK(x:Int)(h0:0≤x)(h1:x≤255):bY (strOfNums [x])=[.v (.int .u8 x)]:=by
 have e:bY (strOfNums [x])=[.v (.int .u8 ((UInt8.ofNat x.toNat).toNat:Nat))]:=rfl
 rw[e]
 have:(UInt8.ofNat x.toNat).toNat=x.toNat:=by
  rw[UInt8.toNat_ofNat'];omega
 rw[this]
 congr 4
 omega
@[go_sem] def fv (s:ByteArray):DV:= .sl 1 false (bY s)
theorem E9:∀(i:Nat) (x:Int),0≤x→x<18446744073709551616→kM i x=x.fdiv (2^(8*i))∧0≤kM i x∧kM i x<18446744073709551616
 |0,x,h0,h1=>⟨by simp[kM],h0,h1⟩
 |i+1,x,h0,h1=>by
  obtain⟨e,a,b⟩:=E9 i x h0 h1
  have e1:(kM i x).tdiv 256=kM i x/256:=Int.tdiv_eq_ediv_of_nonneg a
  have hw:IntKind.u64.wrap (kM i x/256)=kM i x/256:=kL (by omega) (by omega)
  rw[kM,e1,hw]
  refine⟨?_,by omega,by omega⟩
  rw[e,Int.fdiv_eq_ediv_of_nonneg _ (Int.le_of_lt (Int.pow_pos (by decide))),Int.fdiv_eq_ediv_of_nonneg _ (Int.le_of_lt (Int.pow_pos (by decide))),Int.ediv_ediv_of_nonneg (Int.le_of_lt (Int.pow_pos (by decide))),show(8*(i+1))=8*i+8 by omega,Int.pow_add]
  rfl
theorem ub(w0:W0)(x:Int)(k:Nat)(S:St)(h0:1≤k)(h1:k≤8)(hx:0≤x)(hx2:x<18446744073709551616):aa Tryz.prog w0 81 [dU x,dI k] S (fun d S'=>d=fv (bC k x)∧S'=S):=by
 refine ba [] mx Tryz.func81 rfl rfl (by kernel_rfl) ?_;simp(maxDischargeDepth:=12) (maxSteps:=1000000) -implicitDefEqProofs only[Tryz.ntmps81,go_sem,Nat.reduceAdd,Nat.reduceSub,Nat.reduceMul,Nat.reduceLeDiff,Nat.reduceEqDiff,Nat.reduceGT,Nat.reduceBEq,reduceCtorEq,↓reduceIte,Int.reduceToNat,Int.reduceLE,Int.reduceLT,Int.reduceNe,Int.reduceEq]
 refine⟨fun h=>absurd h (by omega),fun _=>⟨fun h=>absurd h (by omega),fun _=>?_⟩⟩
 refine⟨by omega,by omega,fun b=>?_⟩
 refine aE [] k [0,1,5,16,17] (fun i=>[(17,dI i)]) (fun i=>⟨S.box,(b.n,.arr 1 (List.replicate (k-i) (.v (.int .u8 0))++bY (bC i x)))::S.acc⟩) (fun _=>True) mx (by kernel_rfl) ?_ ?_
 ·have e0:bY (bC 0 x)=[]:=rfl
  simp(maxDischargeDepth:=12) (maxSteps:=1000000) -implicitDefEqProofs only[go_sem,Nat.reduceAdd,Nat.reduceSub,Nat.reduceMul,Nat.reduceLeDiff,Nat.reduceEqDiff,Nat.reduceGT,Nat.reduceBEq,reduceCtorEq,↓reduceIte,Int.reduceToNat,Int.reduceLE,Int.reduceLT,Int.reduceNe,Int.reduceEq,e0,Nat.sub_zero,List.append_nil]
 ·intro i hi _
  have hs:=bd (bC i x)
  rw[aA]at hs
  have e2:IntKind.i64.wrap ((i:Int)+1)=((i+1:Nat):Int):=by rw[bw (by omega) (by omega)];omega
  have e3:IntKind.i64.wrap (8*(i:Int))=8*i:=bw (by omega) (by omega)
  have e4:IntKind.i64.wrap ((k:Int)-1)=(k:Int)-1:=bw (by omega) (by omega)
  have e5:IntKind.i64.wrap ((k:Int)-1-i)=(k:Int)-1-i:=bw (by omega) (by omega)
  simp(maxDischargeDepth:=12) (maxSteps:=1000000) -implicitDefEqProofs only[go_sem,Nat.reduceAdd,Nat.reduceSub,Nat.reduceMul,Nat.reduceLeDiff,Nat.reduceEqDiff,Nat.reduceGT,Nat.reduceBEq,reduceCtorEq,↓reduceIte,Int.reduceToNat,Int.reduceLE,Int.reduceLT,Int.reduceNe,Int.reduceEq,hs,e3,e4,e5]
  have hl:(List.replicate (k-i) (DV.v (.int .u8 0))).length+i=k:=by rw[List.length_replicate];omega
  refine⟨fun hlt=>⟨by omega,by omega,by omega,hl,?_⟩,fun hge=>⟨hl,?_⟩⟩
  ·have ej:((k:Int)-1-i).toNat=k-1-i:=by omega
   have dD:(List.replicate (k-i) (DV.v (.int .u8 0))++bY (bC i x)).set ((k:Int)-1-i).toNat (.v (.int .u8 (IntKind.u8.wrap (x.fdiv (2^min (8*(i:Int)).toNat 64)))))=List.replicate (k-(i+1)) (DV.v (.int .u8 0))++bY (bC (i+1) x):=by
    have hx1:x.fdiv (2^min (8*(i:Int)).toNat 64)=kM i x:=by
     rw[(E9 i x hx hx2).1]
     congr 2
     omega
    have h8:bY (bC (i+1) x)= .v (.int .u8 (IntKind.u8.wrap (kM i x)))::bY (bC i x):=by
     have hb:0≤IntKind.u8.wrap (kM i x)∧IntKind.u8.wrap (kM i x)≤255:=by
      have e:IntKind.u8.wrap (kM i x)=kM i x%256:=rfl
      rw[e]
      have:=Int.emod_nonneg (kM i x) (by decide:(256:Int)≠0)
      have:=Int.emod_lt_of_pos (kM i x) (by decide:(0:Int)<256)
      omega
     rw[bC,cQ,mK _ hb.1 hb.2];rfl
    rw[hx1,h8,ej,show k-i=(k-(i+1))+1 by omega,List.replicate_succ',List.append_assoc,show k-1-i=k-(i+1)by omega]
    rw[List.set_append_right _ _ (by rw[List.length_replicate];exact Nat.le_refl _),List.length_replicate,Nat.sub_self]
    rfl
   rw[dD]
   refine⟨.v (.int .u8 0),?_,rfl,hlt,e2,.refl _⟩
   rw[ej,List.getElem?_append_left (by rw[List.length_replicate];omega),List.getElem?_replicate,if_pos (by omega)]
  ·have:k-i=0:=by omega
   rw[this,show i=k by omega]
   exact .refl _
theorem Uh(w0:W0)(x:Int)(S:St)(hx:0≤x)(hx2:x<65536):aa Tryz.prog w0 299 [dI x] S (fun d S'=>d=fv (bC 2 x)∧S'=S):=by
 have e:IntKind.u64.wrap x=x:=kL (by omega) (by omega)
 refine ba [] mx Tryz.func299 rfl rfl (by kernel_rfl) ?_;(refine @ab _ ?_;refine ao @Tryz.ntmps299 ?_)
 (refine @ab _ ?_;refine ao @e ?_)
 refine aq (ub w0 x 2 _ (by decide) (by decide) hx (by omega)) ?_
 (refine @ab _ ?_;exact aQ)
theorem Mh(w0:W0)(l:List ByteArray)(S:St)(h:de l≤1048576)(hl:l.length≤1048576):aa Tryz.prog w0 139 [.sl 1 false (l.map fv)] S (fun d S'=>d=dI (de l)∧S'=S):=by
 refine ba [] mx Tryz.func139 rfl rfl (by kernel_rfl) ?_;(refine @ab _ ?_;refine ao @Tryz.ntmps139 ?_)
 have hll:=yA l
 have hsl:∀k,((l.take k).map fun s=>s.size).sum+(l.take k).length=de (l.take k):=fun k=>by
  induction l.take k with
  |nil=>rfl
  |cons a m ih=>simp only[de,List.map_cons,List.sum_cons,List.length_cons]at *;omega
 refine aE [] l.length [3,8,9,10] (fun k=>[(3,dI ((l.length+((l.take k).map fun s=>s.size).sum:Nat):Int)),(10,dI k)]) (fun _=>S) (fun _=>True) mx (by kernel_rfl) ?_ ?_
 ·(refine @ab _ ?_;refine au ?_)
  simp
 ·intro k hk _
  have h1:=hsl k
  have h2:=iV l k
  have h4:=iV l (k+1)
  have h5:=hsl (k+1)
  (refine @ab _ ?_;refine au ?_)
  refine⟨fun hlt=>⟨hlt,fun s hs=>?_⟩,fun hge=>?_⟩
  ·have h3:((l.take (k+1)).map fun s=>s.size).sum=((l.take k).map fun s=>s.size).sum+s.size:=by rw[List.take_add_one,hs];simp
   have hb:=bd s
   rw[hb,h3]
   exact⟨hlt,by rw[bw (by omega) (by omega)];omega,by rw[bw (by omega) (by omega)];omega⟩
  ·have:=hsl l.length
   rw[List.take_of_length_le (Nat.le_refl _)]at this
   rw[List.take_of_length_le (by omega)]
   omega
theorem Tl(w0:W0)(n:Int)(S:St)(h0:0≤n)(h1:n≤1099511627776):aa Tryz.prog w0 274 [.sl 0 true [],dI n] S (fun d S'=>∃l:FN S.acc,d= .acc l.n 0∧S'=⟨S.box,(l.n,.arr 1 [])::S.acc⟩):=by
 refine gS (K':=fun d S'=>(d= .sl 0 true []∧S'=S)∨∃l:FN S.acc,d= .acc l.n 0∧S'=⟨S.box,(l.n,.arr 1 [])::S.acc⟩) ?_ 1 (by omega) ?_
 ·refine nB [] mx Tryz.func274 rfl rfl (by kernel_rfl) ?_;(refine @ab _ ?_;refine ao @Tryz.ntmps274 ?_)
  have e1:IntKind.i64.wrap (0-0)=0:=bw (by omega) (by omega)
  rw[e1,Int.sub_zero,bw (by omega) (by omega)]
  refine⟨fun h=>by omega,fun h h2=>⟨by omega,by omega,by omega,fun l=> .inl ⟨⟨_,_,_,rfl⟩,by simp,fun l'=>⟨⟨l'.n,l'.h.2.2⟩,rfl,rfl⟩⟩⟩⟩
 ·rintro d S' (⟨rfl,rfl⟩|h)
  ·exact .inr ⟨⟨0,rfl⟩,fun l hl=>⟨⟨l,hl⟩,rfl,rfl⟩⟩
  ·exact .inl h
theorem LM(w0:W0)(rows:List (List DV))(S:St)(h0:rows.length≤1099511627776)(h1:(fl rows).length≤1048576):
 aa Tryz.prog w0 268 [.sl 1 false (rows.map (dR 1))] S (fun d S'=>d=dR 1 (fl rows)∧S'=S):=by
 refine ba [] mx Tryz.func268 rfl rfl (by kernel_rfl) ?_;(refine @ab _ ?_;refine ao @Tryz.ntmps268 ?_)
 refine aE [] rows.length [0,3,9,10,11] (fun k=>[(3,dI (fl (rows.take k)).length),(11,dI k)]) (fun _=>S) (fun k=>True) mx (by kernel_rfl) ?_ ?_
 ·(refine @ab _ ?_;refine au ?_)
  simp[fl]
 ·intro k hk _
  (refine @ab _ ?_;refine au ?_)
  refine⟨fun hlt=>⟨hlt,fun a ha=>?_⟩,fun hge=>?_⟩
  ·have h2:=jV ha
   have h3:=ry rows (k+1)
   rw[h2,List.length_append]at h3
   rw[bw (by omega) (by omega)]
   refine⟨fun h=>by omega,fun h=>⟨hlt,?_,bw (by omega) (by omega)⟩⟩
   rw[h2,List.length_append];omega
  ·rw[List.take_of_length_le (by omega)]
   refine bA (Tl w0 (fl rows).length S (by omega) (by omega)) ?_
   rintro d S' ⟨l,rfl,rfl⟩
   (refine @ab _ ?_;refine au ?_)
   refine aE [] rows.length [6,25,26,27] (fun k=>[(6,.acc l.n (fl (rows.take k)).length),(27,dI k)]) (fun k=>⟨S.box,(l.n,.arr 1 (fl (rows.take k)))::S.acc⟩) (fun k=>True) mx (by kernel_rfl) ?_ ?_
   ·(refine @ab _ ?_;refine au ?_)
    simp[fl,Wk.refl,Sub.refl]
   ·intro k hk _
    (refine @ab _ ?_;refine au ?_)
    refine⟨fun hlt=>⟨hlt,fun a ha=>?_⟩,fun hge=>?_⟩
    ·have h2:=jV ha
     have h3:=ry rows (k+1)
     rw[h2,List.length_append]at h3
     refine⟨by omega,by unfold maxLen;omega,hlt,⟨?_,bw (by omega) (by omega)⟩,?_⟩
     ·rw[h2,List.length_append];exact .refl _
     ·rw[h2];exact .refl _
    ·rw[List.take_of_length_le (by omega)];exact .full _ _ _
theorem Qy(w0:W0)(a b:ByteArray)(S:St)(h:a.size+b.size≤1048576):aa Tryz.prog w0 268 [.sl 1 false [fv a,fv b]] S (fun d S'=>d=fv (a++b)∧S'=S):=by
 have:=LM w0 [bY a,bY b] S (by simp) (by simp[fl,bd];omega)
 have e:fl [bY a,bY b]=bY (a++b):=by simp[fl,cQ]
 rw[e]at this
 exact this
theorem G7(w0:W0)(s:ByteArray){S:St}{b n c o:Nat}{ds:List DV}(hb:lk S.box b=some ds)(hs:(ds.drop o).take n=bY s)(hn:o+n≤ds.length)(h:s.size≤1048576):
 aa Tryz.prog w0 141 [.v (.slice (some ⟨b,o,none⟩) n c)] S (fun d S'=>d=fv s∧S'=S):=by
 refine ba [] mx Tryz.func141 rfl rfl (by kernel_rfl) ?_;(refine @ab _ ?_;refine fc @Tryz.ntmps141 @hb @hs ?_)
 have hm8:maxLen=9223372036854775807:=rfl
 rw[bd]
 exact⟨hn,by omega,by omega⟩
def sY:List Int:=[0,498536548,997073096,651767980,1994146192,1802195444,1303535960,1342533948,3988292384,4027552580,3604390888,3412177804,2607071920,2262029012,2685067896,3183342108]
def nN:List Value:=sY.map fun z=> .int .u32 z
def fE(w0:W0):Prop:=wR w0 1 nN
def fB(x:BitVec 32):BitVec 32:=(x >>> 1) ^^^ (if x.getLsbD 0 then 3988292384#32 else 0#32)
theorem Sy(x y p:BitVec 32):x ^^^ (y ^^^ p)=y ^^^ (x ^^^ p):=by rw[←BitVec.xor_assoc,BitVec.xor_comm x y,BitVec.xor_assoc]
theorem SN(x y p:BitVec 32):(x ^^^ p) ^^^ (y ^^^ p)=x ^^^ y:=by
 rw[BitVec.xor_assoc,Sy p y p,BitVec.xor_self,BitVec.xor_zero]
theorem SI(a b:BitVec 32):fB (a ^^^ b)=fB a ^^^ fB b:=by
 unfold fB
 rw[BitVec.ushiftRight_xor_distrib,BitVec.getLsbD_xor]
 cases a.getLsbD 0 <;>cases b.getLsbD 0
 ·simp
 ·simp[BitVec.xor_assoc]
 ·simp only[Bool.xor_false,Bool.true_xor,Bool.not_false,if_true,Bool.false_eq_true,if_false,BitVec.xor_zero]
  rw[BitVec.xor_assoc,BitVec.xor_assoc,BitVec.xor_comm (b >>> 1)]
 ·simp only[bne_self_eq_false,Bool.xor_self,Bool.false_eq_true,if_false,if_true,BitVec.xor_zero]
  exact(SN _ _ _).symm
def Hi(x:BitVec 32):BitVec 32:=fB (fB (fB (fB x)))
theorem Oa(a b:BitVec 32):Hi (a ^^^ b)=Hi a ^^^ Hi b:=by unfold Hi;simp only[SI]
theorem sB{x:BitVec 32}(h:x.getLsbD 0=false):fB x=x >>> 1:=by unfold fB;rw[h];simp
theorem Kw(x:BitVec 32):x=((x >>> 4) <<< 4) ^^^ (x &&& 15#32):=by
 refine BitVec.eq_of_getLsbD_eq fun i hi=>?_
 rw[BitVec.getLsbD_xor,BitVec.getLsbD_shiftLeft,BitVec.getLsbD_ushiftRight,BitVec.getLsbD_and]
 have h15:(15#32:BitVec 32).getLsbD i=decide (i<4):=by
  revert hi
  have:∀j:Fin 32,(15#32:BitVec 32).getLsbD j=decide (j.val<4):=by decide
  exact fun hi=>this ⟨i,hi⟩
 rw[h15]
 by_cases h4:i<4
 ·simp[h4]
 ·simp[h4,hi,show 4+(i-4)=i by omega]
theorem Sw(x:BitVec 32):Hi ((x >>> 4) <<< 4)=x >>> 4:=by
 have hb:∀k,k<4→(((x >>> 4) <<< 4) >>> k).getLsbD 0=false:=fun k hk=>by
  rw[BitVec.getLsbD_ushiftRight,BitVec.getLsbD_shiftLeft]
  simp;intro _ h;omega
 unfold Hi
 have e0:fB ((x >>> 4) <<< 4)=((x >>> 4) <<< 4) >>> 1:=sB (by have:=hb 0 (by decide);simp at this ⊢)
 have e1:fB (((x >>> 4) <<< 4) >>> 1)=((x >>> 4) <<< 4) >>> 2:=by rw[sB (hb 1 (by decide)),←BitVec.shiftRight_add]
 have e2:fB (((x >>> 4) <<< 4) >>> 2)=((x >>> 4) <<< 4) >>> 3:=by rw[sB (hb 2 (by decide)),←BitVec.shiftRight_add]
 have e3:fB (((x >>> 4) <<< 4) >>> 3)=((x >>> 4) <<< 4) >>> 4:=by rw[sB (hb 3 (by decide)),←BitVec.shiftRight_add]
 rw[e0,e1,e2,e3]
 refine BitVec.eq_of_getLsbD_eq fun i hi=>?_
 rw[BitVec.getLsbD_ushiftRight,BitVec.getLsbD_shiftLeft,BitVec.getLsbD_ushiftRight,BitVec.getLsbD_ushiftRight]
 by_cases h:4+i<32
 ·simp[h]
 ·have:x.getLsbD (4+i)=false:=BitVec.getLsbD_of_ge _ _ (by omega)
  simp[h,this]
def R4(k:Nat):BitVec 32:=BitVec.ofInt 32 (sY.getD k 0)
theorem RG:∀r:Fin 16,Hi (BitVec.ofNat 32 r)=R4 r:=by decide
theorem Sd(x:BitVec 32):Hi x=(x >>> 4) ^^^ R4 (x &&& 15#32).toNat:=by
 have h:=Kw x
 have hlt:(x &&& 15#32).toNat<16:=by
  rw[BitVec.toNat_and]
  exact Nat.lt_of_le_of_lt Nat.and_le_right (by decide)
 have hr:=RG ⟨_,hlt⟩
 simp only at hr
 rw[BitVec.ofNat_toNat,BitVec.setWidth_eq]at hr
 conv=>lhs;rw[h]
 rw[Oa,Sw,hr]
def nv(b:BitVec 32):Int:=(b.toNat:Int)
theorem tr(b:BitVec 32):IntKind.u32.wrap (nv b)=nv b:=by
 have e:IntKind.u32.wrap (nv b)=nv b%4294967296:=rfl
 have:=b.isLt
 rw[e];unfold nv;omega
theorem xc(b:BitVec 32):BitVec.ofInt IntKind.u32.bits (nv b)=b:=by
 show BitVec.ofInt 32 (b.toNat:Int)=b
 rw[BitVec.ofInt_natCast,BitVec.ofNat_toNat,BitVec.setWidth_eq]
theorem mJ(x y:Int):fD .xor .u32 x y=nv (BitVec.ofInt 32 x ^^^ BitVec.ofInt 32 y):=tr (BitVec.ofInt 32 x ^^^ BitVec.ofInt 32 y)
theorem Bi(x y:Int):fD .and .u32 x y=nv (BitVec.ofInt 32 x &&& BitVec.ofInt 32 y):=tr (BitVec.ofInt 32 x &&& BitVec.ofInt 32 y)
theorem Nj(b:BitVec 32):RQ (nv b)=nv (fB b):=by
 have h2:(nv b).tdiv 2=nv (b >>> 1):=by
  unfold nv
  rw[BitVec.toNat_ushiftRight,Nat.shiftRight_eq_div_pow,Int.tdiv_eq_ediv_of_nonneg (by omega)]
  omega
 have h3:(nv b).tmod 2=((b.toNat%2:Nat):Int):=by
  unfold nv
  rw[Int.tmod_eq_emod_of_nonneg (by omega)];omega
 have h4:b.getLsbD 0=decide (b.toNat%2=1):=Nat.testBit_zero b.toNat
 unfold RQ fB
 rw[h2,h3,h4,tr]
 by_cases h:b.toNat%2=1
 ·rw[if_pos (by omega),mJ,decide_eq_true h,if_pos rfl]
  have:BitVec.ofInt 32 (nv (b >>> 1))=b >>> 1:=xc _
  rw[this];rfl
 ·rw[if_neg (by omega),decide_eq_false h]
  simp
theorem AD(b:BitVec 32):zc 8 (nv b)=nv (Hi (Hi b)):=by
 simp only[zc,Nj]
 rfl
def vZ(x:Int):Int:=fD .xor .u32 (x.fdiv (2^4)) (sY.getD (fD .and .u32 x 15).toNat 0)
theorem AM(b:BitVec 32):vZ (nv b)=nv (Hi b):=by
 unfold vZ
 have h1:(nv b).fdiv (2^4)=nv (b >>> 4):=by
  unfold nv
  rw[BitVec.toNat_ushiftRight,Nat.shiftRight_eq_div_pow,Int.fdiv_eq_ediv_of_nonneg _ (by decide)]
  omega
 have h2:fD .and .u32 (nv b) 15=nv (b &&& 15#32):=by
  rw[Bi]
  have:BitVec.ofInt 32 (nv b)=b:=xc b
  rw[this];rfl
 rw[h1,h2,mJ,Sd]
 have:BitVec.ofInt 32 (nv (b >>> 4))=b >>> 4:=xc _
 rw[this]
 unfold R4 nv
 rw[Int.toNat_natCast]
theorem IH(x:Int)(c:Int):zc 8 (fD .xor .u32 x (IntKind.u32.wrap c))=vZ (vZ (fD .xor .u32 x (IntKind.u32.wrap c))):=by
 rw[mJ,AD,AM,AM]
theorem uQ(x:Int):0≤fD .and .u32 x 15∧fD .and .u32 x 15<16:=by
 rw[Bi]
 unfold nv
 have:(BitVec.ofInt 32 x &&& BitVec.ofInt 32 15).toNat<16:=by
  rw[BitVec.toNat_and]
  exact Nat.lt_of_le_of_lt Nat.and_le_right (by decide)
 omega
theorem MO:∀r:Fin 16,(nN.map DV.v).drop r.val= .v (.int .u32 (sY.getD r.val 0))::(nN.map DV.v).drop (r.val+1)
 |⟨0,_⟩=>rfl
 |⟨1,_⟩=>rfl
 |⟨2,_⟩=>rfl
 |⟨3,_⟩=>rfl
 |⟨4,_⟩=>rfl
 |⟨5,_⟩=>rfl
 |⟨6,_⟩=>rfl
 |⟨7,_⟩=>rfl
 |⟨8,_⟩=>rfl
 |⟨9,_⟩=>rfl
 |⟨10,_⟩=>rfl
 |⟨11,_⟩=>rfl
 |⟨12,_⟩=>rfl
 |⟨13,_⟩=>rfl
 |⟨14,_⟩=>rfl
 |⟨15,_⟩=>rfl
 |⟨n+16,h⟩=>absurd h (by omega)
theorem NC{z:Int}(h0:0≤z)(h1:z<16):(nN.map DV.v).drop z.toNat= .v (.int .u32 (sY.getD z.toNat 0))::(nN.map DV.v).drop (z.toNat+1):=MO ⟨z.toNat,by omega⟩
theorem NQ(x:Int)(h0:0≤x)(h1:x≤4294967295):fD .xor .u32 4294967295 x=4294967295-x:=by
 have hx:x=nv (BitVec.ofNat 32 x.toNat):=by
  unfold nv
  rw[BitVec.toNat_ofNat];omega
 rw[mJ,hx]
 have e:BitVec.ofInt 32 (nv (BitVec.ofNat 32 x.toNat))=BitVec.ofNat 32 x.toNat:=xc _
 rw[e]
 have e2:(BitVec.ofInt 32 4294967295:BitVec 32)=BitVec.allOnes 32:=by decide
 rw[e2,BitVec.allOnes_xor]
 unfold nv
 rw[BitVec.toNat_not]
 have:=(BitVec.ofNat 32 x.toNat).isLt
 omega
theorem Ol(l:List Int)(x:Int)(h0:0≤x)(h1:x≤4294967295):0≤uB l x∧uB l x≤4294967295:=by
 unfold uB
 induction l generalizing x with
 |nil=>exact⟨h0,h1⟩
 |cons a l ih=>
  rw[List.foldl_cons]
  refine ih _ ?_ ?_ <;>rw[mJ,AD] <;>unfold nv <;>have:=(Hi (Hi (BitVec.ofInt 32 x ^^^ BitVec.ofInt 32 (IntKind.u32.wrap a)))).isLt <;>omega
theorem onP(w0:W0)(hg:fE w0)(s:ByteArray){S:St}{b n c o:Nat}{ds:List DV}(hb:lk S.box b=some ds)(hs:(ds.drop o).take n=bY s)(hn:o+n≤ds.length)(h:s.size≤1048576):
 aa Tryz.prog w0 196 [.v (.int .u32 0),.v (.slice (some ⟨b,o,none⟩) n c)] S (fun d S'=>d= .v (.int .u32 (MI 0 s))∧S'=S):=by
 have hG:=Jw hg
 have hns:n=s.size:=by
  have:=congrArg List.length hs
  rw[List.length_take,List.length_drop,bd]at this
  omega
 have e0:fD .xor .u32 (if IntKind.u32.signed=true then -1 else IntKind.u32.max) 0=4294967295:=by decide
 refine ba [] mx Tryz.func196 rfl rfl (by kernel_rfl) ?_;(refine @ab _ ?_;refine aY @Tryz.ntmps196 @e0 ?_)
 refine aE [] n [5,10,11,12] (fun k=>[(5,.v (.int .u32 (uB ((nF s).take k) 4294967295))),(12,dI k)]) (fun _=>S) (fun _=>True) mx (by kernel_rfl) ?_ ?_
 ·(refine @ab _ ?_;refine au ?_)
  rfl
 ·intro k hk _
  have e1:IntKind.i64.wrap ((k:Int)+1)=((k+1:Nat):Int):=by rw[bw (by omega) (by omega)];omega
  have ek:(k:Int).toNat*1=k:=by omega
  by_cases hlt:k<n
  ·have hc:s.data.toList[k]? =some s.data.toList[k]:=List.getElem?_eq_getElem (by have:s.data.toList.length=s.size:=rfl;omega)
   generalize s.data.toList[k]=c at hc
   have hd:ds.drop (o+k*1)= .v (.int .u8 c.toNat)::ds.drop (o+k+1):=by
    rw[Nat.mul_one]
    have h1:(bY s)[k]? =some (.v (.int .u8 c.toNat)):=by unfold bY;rw[List.getElem?_map,hc];rfl
    rw[←hs,List.getElem?_take,if_pos hlt,List.getElem?_drop]at h1
    obtain⟨hl,he⟩:=List.getElem?_eq_some_iff.1 h1
    rw[List.drop_eq_getElem_cons hl,he]
   have hh:∀x,(nN.map DV.v).drop ((fD .and .u32 x 15).toNat*1)= .v (.int .u32 (sY.getD (fD .and .u32 x 15).toNat 0))::(nN.map DV.v).drop ((fD .and .u32 x 15).toNat+1):=fun x=>by
    rw[Nat.mul_one]
    exact NC (uQ x).1 (uQ x).2
   have hh2:nN.length=16:=rfl
   have hcs:uB ((nF s).take (k+1)) 4294967295=vZ (vZ (fD .xor .u32 (uB ((nF s).take k) 4294967295) (IntKind.u32.wrap (c.toNat:Int)))):=by
    have hb':(nF s)[k]? =some (c.toNat:Int):=by unfold nF;rw[List.getElem?_map,hc];rfl
    have:(nF s).take (k+1)=(nF s).take k++[(c.toNat:Int)]:=by rw[List.take_add_one,hb'];rfl
    rw[this]
    unfold uB
    rw[List.foldl_append]
    exact IH _ _
   rw[hcs]
   have i3:∀x,(fD .and .u32 x 15).toNat*1≤16:=fun x=>by have:=uQ x;omega
   (refine @ab _ ?_;refine Ci @hb @hG @ek @hd @hh @hh2 ?_)
   exact⟨fun q=>⟨q,(uQ _).1,(uQ _).2,i3 _,(uQ _).1,(uQ _).2,i3 _,q,rfl,e1⟩,fun q=>absurd hlt q⟩
  ·have hend:fD .xor .u32 (if IntKind.u32.signed=true then -1 else IntKind.u32.max) (uB ((nF s).take k) 4294967295)=MI 0 s:=by
    have hk2:(nF s).take k=nF s:=List.take_of_length_le (by rw[KT];omega)
    rw[hk2]
    have hc:=Ol (nF s) 4294967295 (by decide) (by decide)
    have hif:(if IntKind.u32.signed=true then(-1:Int)else IntKind.u32.max)=4294967295:=by decide
    rw[hif,NQ _ hc.1 hc.2]
    unfold MI
    have e5:IntKind.u32.wrap (4294967295-0)=4294967295:=by decide
    rw[e5]
    have e:IntKind.u32.wrap (4294967295-uB (nF s) 4294967295)=(4294967295-uB (nF s) 4294967295)%4294967296:=rfl
    rw[e];omega
   (refine @ab _ ?_;refine fc @hb @hG @ek ?_)
   exact⟨fun q=>absurd q hlt,fun _=>hend⟩
theorem Z6(w0:W0)(hg:fE w0)(s:ByteArray){S:St}{b n c o:Nat}{ds:List DV}(hb:lk S.box b=some ds)(hs:(ds.drop o).take n=bY s)(hn:o+n≤ds.length)(h:s.size≤1048576):
 aa Tryz.prog w0 140 [.v (.slice (some ⟨b,o,none⟩) n c)] S (fun d S'=>d= .v (.int .u32 (MI 0 s))∧S'=S):=by
 refine ba [] mx Tryz.func140 rfl rfl (by kernel_rfl) ?_;(refine @ab _ ?_;refine ao @Tryz.ntmps140 ?_)
 refine aq (onP w0 hg s hb hs hn h) ?_
 (refine @ab _ ?_;exact aQ)
theorem mn(a:Int)(l:List Int):strOfNums (a::l)=strOfNums [a]++strOfNums l:=by
 apply ByteArray.ext
 simp[strOfNums,ByteArray.data_append]
def z8:DV:= .v (.int .u8 0)
def HF(kind:Int)(n k:Nat)(l:List ByteArray):List DV:=
 (List.replicate 4 z8++[.v (.int .u8 kind),.v (.int .u8 (IntKind.u8.wrap (n:Int)))]++bY (jk (l.take k) aX aX))++(List.replicate (122-de (l.take k)) z8++bY (cZ (l.take k) aX))
theorem Aa(l:List ByteArray):(bY (jk l aX aX)).length=l.length:=by rw[bd,vq,bu];omega
theorem tS(l:List ByteArray):(bY (cZ l aX)).length+l.length=de l:=by
 have:=wB l aX
 rw[bu]at this
 rw[bd];omega
theorem Jn{kind:Int}{n k:Nat}{l:List ByteArray}(h:de l≤122):(HF kind n k l).length=128:=by
 have h1:=Aa (l.take k)
 have h2:=tS (l.take k)
 have h3:=iV l k
 unfold HF
 simp only[List.length_append,List.length_replicate,List.length_cons,List.length_nil]
 omega
theorem Fz(s:ByteArray):(bY s).flatMap cd=bY s:=by
 unfold bY
 induction s.data.toList with
 |nil=>rfl
 |cons a m ih=>
  rw[List.map_cons,List.flatMap_cons,ih];rfl
theorem QU(s:ByteArray):∀d,d∈bY s→eI d=true:=fun d hd=>by
 unfold bY at hd
 obtain⟨c,_,rfl⟩:=List.mem_map.1 hd
 rfl
theorem AO(x:Int):0≤IntKind.u8.wrap x∧IntKind.u8.wrap x≤255:=by
 have e:IntKind.u8.wrap x=x%256:=rfl
 rw[e]
 have:=Int.emod_nonneg x (by decide:(256:Int)≠0)
 have:=Int.emod_lt_of_pos x (by decide:(0:Int)<256)
 omega
theorem PQ{kind:Int}{n k:Nat}{l:List ByteArray}{c:ByteArray}(h:de l≤122)(hc:l[k]? =some c)(e:Nat)(he:e+(bY (cZ (l.take k) aX)).length+c.size=128):
 (cj (HF kind n k l) e (bY c)).set (6+k) (.v (.int .u8 (IntKind.u8.wrap (e:Int))))=HF kind n (k+1) l:=by
 have h1:=Aa (l.take k)
 have h2:=tS (l.take k)
 have h3:=iV l (k+1)
 have h4:=vx hc
 have hk:k<l.length:=(List.getElem?_eq_some_iff.1 hc).1
 have htk:(l.take k).length=k:=by rw[List.length_take];omega
 have ht:l.take (k+1)=l.take k++[c]:=by rw[List.take_add_one,hc];rfl
 have hlen:=Jn (kind:=kind) (n:=n) (k:=k) h
 have hcl:=bd c
 have hbk:bY (cZ (l.take (k+1)) aX)=bY c++bY (cZ (l.take k) aX):=by
  rw[ht,zT]
  show bY (c++cZ (l.take k) aX)=_
  rw[cQ]
 have hbs:(bY (cZ (l.take k) aX)).length=(cZ (l.take k) aX).size:=bd _
 have hsl:bY (jk (l.take (k+1)) aX aX)=bY (jk (l.take k) aX aX)++[.v (.int .u8 (IntKind.u8.wrap (e:Int)))]:=by
  rw[ht,L1]
  show bY (jk (l.take k) aX aX++strOfNums [IntKind.u8.wrap (IntKind.i64.wrap (128-(((c++cZ (l.take k) aX).size:Nat):Int)))])=_
  have hw:=AO (e:Int)
  have e1:IntKind.i64.wrap (128-(((c++cZ (l.take k) aX).size:Nat):Int))=e:=by
   rw[ByteArray.size_append,bw (by omega) (by omega)];omega
  rw[e1,cQ,mK _ hw.1 hw.2]
 have hz:List.replicate (122-de (l.take k)) z8=z8::(List.replicate (122-de (l.take (k+1))) z8++List.replicate c.size z8):=by
  rw[List.replicate_append_replicate,←List.replicate_succ]
  congr 1;omega
 have hput:cj (HF kind n k l) e (bY c)=(List.replicate 4 z8++[.v (.int .u8 kind),.v (.int .u8 (IntKind.u8.wrap (n:Int)))]++bY (jk (l.take k) aX aX))++(z8::(List.replicate (122-de (l.take (k+1))) z8++(bY c++bY (cZ (l.take k) aX)))):=by
  unfold cj HF
  rw[hz]
  generalize hA:(List.replicate 4 z8++[DV.v (.int .u8 kind),.v (.int .u8 (IntKind.u8.wrap (n:Int)))]++bY (jk (l.take k) aX aX))=A
  have hAl:A.length=6+k:=by
   rw[←hA]
   simp only[List.length_append,List.length_replicate,List.length_cons,List.length_nil]
   omega
  generalize hB:bY (cZ (l.take k) aX)=B at*
  have e1:A++(z8::(List.replicate (122-de (l.take (k+1))) z8++List.replicate c.size z8)++B)=(A++(z8::List.replicate (122-de (l.take (k+1))) z8))++(List.replicate c.size z8++B):=by simp only[List.append_assoc,List.cons_append]
  have e2:A++(z8::(List.replicate (122-de (l.take (k+1))) z8++(bY c++B)))=(A++(z8::List.replicate (122-de (l.take (k+1))) z8))++(bY c++B):=by simp only[List.append_assoc,List.cons_append]
  have hPl:(A++(z8::List.replicate (122-de (l.take (k+1))) z8)).length=e:=by
   simp only[List.length_append,List.length_cons,List.length_replicate]
   omega
  rw[e1,e2]
  rw[List.take_left' hPl,List.append_assoc]
  congr 2
  rw[←hPl,List.drop_append,show(bY c).length=c.size from hcl,List.drop_of_length_le (by omega),List.nil_append]
  have hz0:List.drop (e+c.size-e) (List.replicate c.size z8++B)=B:=by
   rw[show e+c.size-e=(List.replicate c.size z8).length by simp,List.drop_left]
  rw[←hPl]at hz0
  exact hz0
 rw[hput]
 unfold HF
 rw[hsl,hbk]
 generalize hA:(List.replicate 4 z8++[DV.v (.int .u8 kind),.v (.int .u8 (IntKind.u8.wrap (n:Int)))])=A
 have hAl:A.length=6:=by rw[←hA];rfl
 have hl6:(A++bY (jk (l.take k) aX aX)).length=6+k:=by rw[List.length_append,hAl,h1,htk]
 rw[List.set_append_right _ _ (by omega),hl6,Nat.sub_self]
 simp
theorem SD(kind:Int)(l:List ByteArray)(h:de l≤122)(hk0:0≤kind)(hk1:kind≤255):HF kind l.length l.length l=List.replicate 4 z8++bY (fA kind l):=by
 have hz:∀m,bY (strOfNums (List.replicate m 0))=List.replicate m z8:=fun m=>by
  induction m with
  |zero=>rfl
  |succ m ih=>
   have e:strOfNums (List.replicate (m+1) 0)=strOfNums [0]++strOfNums (List.replicate m 0):=by
    rw[List.replicate_succ,mn]
   rw[e,cQ,ih,mK 0 (by decide) (by decide)];rfl
 have hw:=AO (l.length:Int)
 unfold HF fA
 rw[List.take_of_length_le (Nat.le_refl _),cQ,cQ,cQ,hz,mn,cQ,mK _ hk0 hk1,mK _ hw.1 hw.2]
 simp
theorem Fh(w0:W0)(hg:fE w0)(kind:Int)(l:List ByteArray)(S:St)(hk:kind≠0)(hk0:0≤kind)(hk1:kind≤255)(h:de l≤122):aa Tryz.prog w0 82 [dY kind,.sl 1 false (l.map fv)] S (fun d S'=>d= .bI [fv (gq kind l),dI 0]∧S'=S):=by
 have hll:=yA l
 refine ba [] mx Tryz.func82 rfl rfl (by kernel_rfl) ?_;(refine @ab _ ?_;refine ao @Tryz.ntmps82 ?_)
 refine⟨fun h0=>absurd h0 hk,fun _=>aq (Mh w0 l _ (by omega) (by omega)) ?_⟩
 (refine @ab _ ?_;refine au ?_)
 refine⟨fun h0=>by omega,fun _ b=>?_⟩
 refine aE [] l.length [6,7,23,24,25] (fun k=>[(7,dI ((128-(cZ (l.take k) aX).size:Nat):Int)),(25,dI k)]) (fun k=>⟨(b.n,HF kind l.length k l)::S.box,S.acc⟩) (fun _=>True) mx (by kernel_rfl) ?_ ?_
 ·(refine @ab _ ?_;refine au ?_)
  exact⟨rfl,.refl _⟩
 ·intro k hk' _
  have e1:IntKind.i64.wrap ((k:Int)+1)=((k+1:Nat):Int):=by rw[bw (by omega) (by omega)];omega
  have h1:=tS (l.take k)
  have hbs:=bd (cZ (l.take k) aX)
  have htk:(l.take k).length=k:=by rw[List.length_take];omega
  have h3:=iV l k
  have hpl:=Jn (kind:=kind) (n:=l.length) (k:=k) h
  have e6:IntKind.i64.wrap (6+(k:Int))=((6+k:Nat):Int):=by rw[bw (by omega) (by omega)];omega
  (refine @ab _ ?_;refine au ?_)
  refine⟨fun hlt=>⟨hlt,fun c hc=>?_⟩,fun hge=>?_⟩
  ·have h4:=vx hc
   have h5:=iV l (k+1)
   have hcl:=bd c
   have ht:l.take (k+1)=l.take k++[c]:=by rw[List.take_add_one,hc];rfl
   have hb2:(cZ (l.take (k+1)) aX).size=(cZ (l.take k) aX).size+c.size:=by
    rw[ht,zT]
    show(c++cZ (l.take k) aX).size=_
    rw[ByteArray.size_append];omega
   have e7:IntKind.i64.wrap (((128-(cZ (l.take k) aX).size:Nat):Int)-(c.size:Int))=((128-(cZ (l.take (k+1)) aX).size:Nat):Int):=by rw[bw (by omega) (by omega)];omega
   have hE:(128-(cZ (l.take (k+1)) aX).size)+(bY (cZ (l.take k) aX)).length+c.size=128:=by omega
   have hst:=PQ (kind:=kind) (n:=l.length) h hc _ hE
   rw[hcl,e7]
   generalize 128-(cZ (l.take (k+1)) aX).size=E at*
   have hput:cj (HF kind l.length k l) (if 128=(E:Int).toNat then 0 else(E:Int).toNat*1) ((bY c).flatMap cd)=cj (HF kind l.length k l) E (bY c):=by
    rw[Fz,Int.toNat_natCast,Nat.mul_one]
    split
    ·have hc0:bY c=[]:=List.eq_nil_of_length_eq_zero (by omega)
     rw[hc0]
     simp[cj]
    ·rfl
   have hpl2:(cj (HF kind l.length k l) E (bY c)).length=128:=by
    unfold cj
    simp only[List.length_append,List.length_take,List.length_drop]
    omega
   rw[hput,e6,hpl2,hpl,show((6+k:Nat):Int).toNat*1=6+k by omega,hst]
   refine⟨by omega,by omega,?_,QU c,by omega,by omega,by omega,by omega,hlt,⟨rfl,e1⟩,.refl _⟩
   split <;>omega
  ·have hkl:k=l.length:=by omega
   rw[hkl,SD kind l h hk0 hk1]
   have hbl:=wi kind h
   have hbd:(List.drop 4 (List.replicate 4 z8++bY (fA kind l))).take 124=bY (fA kind l):=by
    have e:List.drop 4 (List.replicate 4 z8++bY (fA kind l))=bY (fA kind l):=List.drop_left' rfl
    rw[e]
    exact List.take_of_length_le (by rw[bd];omega)
   refine aS (Z6 w0 hg (fA kind l) (b:=b.n) (S:=⟨(b.n,List.replicate 4 z8++bY (fA kind l))::S.box,S.acc⟩) (ds:=List.replicate 4 z8++bY (fA kind l)) (by simp[lk]) hbd (by simp[bd];omega) (by omega)) ?_
   (refine @ab _ ?_;refine au ?_)
   have hcr:0≤IntKind.u64.wrap (MI 0 (fA kind l))∧IntKind.u64.wrap (MI 0 (fA kind l))<18446744073709551616:=by
    have e:IntKind.u64.wrap (MI 0 (fA kind l))=MI 0 (fA kind l)%18446744073709551616:=rfl
    rw[e]
    exact⟨Int.emod_nonneg _ (by decide),Int.emod_lt_of_pos _ (by decide)⟩
   refine aS (ub w0 _ 4 _ (by decide) (by decide) hcr.1 hcr.2) ?_
   have hnl:(bY (bC 4 (IntKind.u64.wrap (MI 0 (fA kind l))))).length=4:=by rw[bd,aA]
   have hbl2:(bY (fA kind l)).length=124:=by rw[bd,hbl]
   have hput:cj (z8::z8::z8::z8::bY (fA kind l)) 0 ((bY (bC 4 (IntKind.u64.wrap (MI 0 (fA kind l))))).flatMap cd)=bY (gq kind l):=by
    rw[Fz]
    unfold gq cj
    rw[cQ,List.take_zero,List.nil_append,Nat.zero_add,hnl]
    rfl
   (refine @ab _ ?_;refine fc @hnl @hbl2 @hput ?_)
   have hpk:(bY (gq kind l)).length=128:=by rw[bd,k7 kind h]
   refine⟨QU _,aq (G7 w0 (gq kind l) (b:=b.n) (o:=0) (n:=128) (c:=128) (ds:=bY (gq kind l)) (by simp[lk]) ?_ (by omega) (by have:=k7 kind h;omega)) ?_⟩
   ·rw[List.drop_zero,List.take_of_length_le (by omega)]
   ·(refine @ab _ ?_;exact aQ)
theorem Vl{P:Program}{w0:W0}{S0:St}{fr:List DV}{S:St}{K:DV→St→Prop}(r:Operand)(m:String)(a:Array Operand)(ts:Array TypeId):Y.uU P w0 S0 (.call ⟨.invoke r m,a,ts⟩) fr S K=aJ P w0 (.call ⟨.invoke r m,a,ts⟩) fr S K:=rfl
attribute [go_sem ↓] Vl
theorem HH:rN Tryz.prog 376 "jalousie/node.may" =some 294:=by kernel_rfl
theorem Hq:rN Tryz.prog 376 "jalousie/node.put" =some 295:=by kernel_rfl
theorem A4:rN Tryz.prog 376 "jalousie/node.least" =some 293:=by kernel_rfl
theorem Ir:rN Tryz.prog 377 "jalousie/node.may" =some 301:=by kernel_rfl
theorem H6:rN Tryz.prog 377 "jalousie/node.put" =some 302:=by kernel_rfl
theorem AX:rN Tryz.prog 377 "jalousie/node.least" =some 300:=by kernel_rfl
attribute [go_sem] HH Hq A4 Ir H6 AX
theorem Mk(w0:W0)(b:Bool)(l:List E8)(S:St):aa Tryz.prog w0 261 [.agg [dB b,.sl 5 false (l.map vf)]] S (fun d S'=>d= .v (.int .u8 (if b then 1 else 2))∧S'=S):=by
 cases b with
 |true=>
  refine ba [] mx Tryz.func261 rfl rfl (by kernel_rfl) ?_;(refine @ab _ ?_;exact ma @Tryz.ntmps261)
 |false=>
  refine ba [] mx Tryz.func261 rfl rfl (by kernel_rfl) ?_;(refine @ab _ ?_;exact ma @Tryz.ntmps261)
theorem r8(w0:W0)(S:St):aa Tryz.prog w0 269 [] S (fun d S'=>d= .sl 1 false [.v .nilIface,.jH 376 (.agg []),.jH 377 (.agg [])]∧S'=S):=by
 refine ba [] mx Tryz.func269 rfl rfl (by kernel_rfl) ?_;(refine @ab _ ?_;exact ma @Tryz.ntmps269)
theorem Wc(w0:W0)(s:ByteArray)(S:St):aa Tryz.prog w0 297 [dS s] S (fun d S'=>d=dB (decide (s.size≠0)&&decide (s.size≤16))∧S'=S):=by
 refine ba [] mx Tryz.func297 rfl rfl (by kernel_rfl) ?_;(refine @ab _ ?_;refine ao @Tryz.ntmps297 ?_)
 refine⟨fun h=>?_,fun h=>?_⟩
 ·have:¬s.size=0:=fun e=>by
   rw[cP.2 (show s=(⟨#[]⟩:ByteArray)from ByteArray.ext (by have:s.data.size=0:=e;exact Array.eq_empty_of_size_eq_zero this))]at h
   cases h
  rw[decide_eq_true this,Bool.true_and]
  exact decide_eq_decide.2 (by omega)
 ·have:=cP.1 h
  subst this;rfl
theorem Q6(w0:W0)(n:Int)(S:St):aa Tryz.prog w0 298 [dI n] S (fun d S'=>d=dB (decide (2≤n)&&decide (n≤999))∧S'=S):=by
 refine ba [] mx Tryz.func298 rfl rfl (by kernel_rfl) ?_;(refine @ab _ ?_;refine ao @Tryz.ntmps298 ?_)
 refine⟨fun h=>?_,fun h=>?_⟩
 ·rw[decide_eq_true (show 2≤n from h),Bool.true_and]
 ·rw[decide_eq_false (show¬2≤n from h),Bool.false_and]
theorem P4(w0:W0)(S:St):aa Tryz.prog w0 293 [.agg []] S (fun d S'=>d=dI 1∧S'=S):=by
 refine ba [] mx Tryz.func293 rfl rfl (by kernel_rfl) ?_;(refine @ab _ ?_;exact ma @Tryz.ntmps293)
theorem O8(w0:W0)(S:St):aa Tryz.prog w0 300 [.agg []] S (fun d S'=>d=dI 2∧S'=S):=by
 refine ba [] mx Tryz.func300 rfl rfl (by kernel_rfl) ?_;(refine @ab _ ?_;exact ma @Tryz.ntmps300)
@[go_sem] def Zl (e:E8):DV:= .agg [dS e.data,dB e.Iv,dI e.size,dI e.an]
def rI(b:Bool)(e:E8):ByteArray:=if b then(if e.Iv then((⟨#[1]⟩:ByteArray)++bC 2 (IntKind.u64.wrap e.size))++bC 2 (IntKind.u64.wrap e.an)else(⟨#[0]⟩:ByteArray)++e.data)else bC 2 (IntKind.u64.wrap e.an)
theorem Mm(w0:W0)(e:E8)(S:St)(h:Nf true e):aa Tryz.prog w0 295 [.agg [],Zl e] S (fun d S'=>d=fv (rI true e)∧S'=S):=by
 have h2:=h.2
 simp only[if_true]at h2
 unfold rI
 simp only[if_true]
 have e1:(⟨#[1]⟩:ByteArray)=strOfNums [1]:=rfl
 have e0:(⟨#[0]⟩:ByteArray)=strOfNums [0]:=rfl
 have b1:=mK 1 (by decide) (by decide)
 have b0:=mK 0 (by decide) (by decide)
 have hm8:maxLen=9223372036854775807:=rfl
 cases hf:e.Iv with
 |true=>
  rw[if_pos hf]at h2
  have w1:IntKind.u64.wrap e.size=e.size:=kL (by omega) (by omega)
  have w2:IntKind.u64.wrap e.an=e.an:=kL (by omega) (by omega)
  have l1:(bY (bC 2 e.size)).length=2:=by rw[bd,aA]
  have l2:(bY (bC 2 e.an)).length=2:=by rw[bd,aA]
  rw[if_pos rfl,w1,w2,e1]
  refine ba [2] mx Tryz.func295 rfl rfl (by kernel_rfl) ?_;(refine @ab _ ?_;refine aY @Tryz.ntmps295 @hf ?_)
  intro c1 c2
  refine Y.l9 [4,8] [] [0,1,5,2,3,6,4,7,8,9] mx (by kernel_rfl) ?_
  (refine @ab _ ?_;refine au ?_)
  refine Y.tj (fun T _=>Uh w0 e.size T (by omega) (by omega)) ?_
  (refine @ab _ ?_;refine ao @l1 ?_)
  refine⟨by omega,fun b=>Y.tj (fun T _=>Uh w0 e.an T (by omega) (by omega)) ?_⟩
  (refine @ab _ ?_;refine aY @l1 @l2 ?_)
  rw[cQ,cQ,b1]
  exact⟨by omega,.refl _⟩
 |false=>
  rw[if_neg (by rw[hf];simp)]at h2
  have hb:=bd e.data
  have e9:e.data.data.toList.length=e.data.size:=rfl
  rw[if_neg (by simp),e0]
  refine ba [2] mx Tryz.func295 rfl rfl (by kernel_rfl) ?_;(refine @ab _ ?_;refine aY @Tryz.ntmps295 @hf ?_)
  intro c1 c2
  rw[e9,cQ,b0]
  exact⟨by omega,by omega,fun b=> .refl _⟩
theorem DS(w0:W0)(e:E8)(S:St)(h:Nf false e):aa Tryz.prog w0 302 [.agg [],Zl e] S (fun d S'=>d=fv (rI false e)∧S'=S):=by
 have h2:=h.2
 simp only[Bool.false_eq_true,if_false]at h2
 have w2:IntKind.u64.wrap e.an=e.an:=kL (by omega) (by omega)
 unfold rI
 rw[if_neg (by simp),w2]
 refine ba [] mx Tryz.func302 rfl rfl (by kernel_rfl) ?_;(refine @ab _ ?_;refine ao @Tryz.ntmps302 ?_)
 intro c1 c2
 refine aq (Uh w0 e.an _ (by omega) (by omega)) ?_
 (refine @ab _ ?_;exact aQ)
theorem MC(w0:W0)(i:Int)(e:E8)(S:St)(h:Nf true e)(hk:e.key≠aX):aa Tryz.prog w0 294 [.agg [],dI i,vf e] S (fun d S'=>d=dB true∧S'=S):=by
 have h1:=h.1
 have h2:=h.2
 simp only[if_true]at h2
 have hks:e.key.size≠0:=fun q=>hk (ByteArray.ext (Array.eq_empty_of_size_eq_zero q))
 have hkey:=fun S=>Wc w0 e.key S
 rw[decide_eq_true hks,decide_eq_true h1]at hkey
 cases hf:e.Iv with
 |true=>
  rw[if_pos hf]at h2
  have hp:=fun S=>Q6 w0 e.an S
  rw[decide_eq_true h2.2.2.2.1,decide_eq_true h2.2.2.2.2]at hp
  have hd:fb e.data {data:= #[]}=true:=cP.2 h2.1
  refine ba [] mx Tryz.func294 rfl rfl (by kernel_rfl) ?_;(refine @ab _ ?_;refine aY @Tryz.ntmps294 @hf ?_)
  intro c1 c2 c3
  refine aq (hkey _) ?_
  (refine @ab _ ?_;refine ao @hd ?_)
  refine⟨fun _=>⟨fun _=>aq (hp _) ?_,fun q=>absurd h2.2.2.1 q⟩,fun q=>absurd h2.2.1 q⟩
  (refine @ab _ ?_;exact aQ)
 |false=>
  rw[if_neg (by rw[hf];simp)]at h2
  refine ba [] mx Tryz.func294 rfl rfl (by kernel_rfl) ?_;(refine @ab _ ?_;refine aY @Tryz.ntmps294 @hf ?_)
  intro c1 c2 c3
  refine aq (hkey _) ?_
  (refine @ab _ ?_;refine au ?_)
  exact⟨fun _=>⟨fun _=>h2.2.2,fun q=>q h2.2.1⟩,fun q=>by omega⟩
theorem CX(w0:W0)(i:Nat)(e:E8)(S:St)(h:Nf false e)(hk:e.key=aX↔i=0):aa Tryz.prog w0 301 [.agg [],dI i,vf e] S (fun d S'=>d=dB true∧S'=S):=by
 have h1:=h.1
 have h2:=h.2
 simp only[Bool.false_eq_true,if_false]at h2
 have hp:=fun S=>Q6 w0 e.an S
 have hkey:=fun S=>Wc w0 e.key S
 have hfin:((decide (2≤e.an)&&decide (e.an≤999))=true→(decide (e.data.data.toList=ByteArray.empty.data.toList)&&!e.Iv&&decide (e.size=0))=true)∧((decide (2≤e.an)&&decide (e.an≤999))=false→False):=by
  rw[decide_eq_true h2.2.2.2.1,decide_eq_true h2.2.2.2.2,h2.1,h2.2.1,h2.2.2.1]
  exact⟨fun _=>by decide,fun q=>by cases q⟩
 rcases Nat.eq_zero_or_pos i with z|z
 ·have hkn:=hk.2 z
  have hd:fb e.key {data:= #[]}=true:=cP.2 hkn
  have zi:((i:Int)=0)=True:=eq_true (by omega)
  refine ba [] mx Tryz.func301 rfl rfl (by kernel_rfl) ?_;(refine @ab _ ?_;refine fc @Tryz.ntmps301 @zi @hd ?_)
  intro c1 c2
  refine aq (hp _) ?_
  (refine @ab _ ?_;refine au ?_)
  exact hfin
 ·have hks:¬e.key.size=0:=fun q=>absurd (hk.1 (ByteArray.ext (Array.eq_empty_of_size_eq_zero q))) (by omega)
  have hkk:(decide (¬e.key.size=0)&&decide (e.key.size≤16))=true:=by rw[decide_eq_true hks,decide_eq_true h1];rfl
  have zi:((i:Int)=0)=False:=eq_false (by omega)
  have zj:((i:Int)>0)=True:=eq_true (by omega)
  refine ba [] mx Tryz.func301 rfl rfl (by kernel_rfl) ?_;(refine @ab _ ?_;refine fc @Tryz.ntmps301 @zi @zj ?_)
  intro c1 c2
  refine aq (hkey _) ?_
  (refine @ab _ ?_;refine ao @hkk ?_)
  refine aq (hp _) ?_
  (refine @ab _ ?_;refine au ?_)
  exact hfin
theorem QT(w0:W0)(s:ByteArray)(S:St)(h:s.size≤255):aa Tryz.prog w0 270 [dS s] S (fun d S'=>∃r:FN S.acc,d= .acc r.n (lY s).size∧S'=⟨S.box,(r.n,.tl 1 (bY (lY s)))::S.acc⟩):=by
 have e0:(if(255:Int)<(s.size:Int)then 255 else(s.size:Int))=s.size:=if_neg (by omega)
 have e1:s.extract 0 (s.size:Int).toNat=s:=by rw[Int.toNat_natCast];exact ByteArray.extract_zero_size
 have e2:s.data.toList.length=s.size:=rfl
 have hm8:maxLen=9223372036854775807:=rfl
 have hts:=jq s
 have e3:bY (lY s)= .v (.int .u8 (IntKind.u8.wrap (s.size:Int)))::bY s:=by
  have hw:IntKind.u64.wrap (s.size:Int)=s.size:=kL (by omega) (by omega)
  have h8:IntKind.u8.wrap (s.size:Int)=s.size:=by
   have e:IntKind.u8.wrap (s.size:Int)=(s.size:Int)%256:=rfl
   rw[e];omega
  unfold lY
  rw[hw,cQ,bC,kM,cQ,h8,mK _ (by omega) (by omega)]
  rfl
 refine nB [] mx Tryz.func270 rfl rfl (by kernel_rfl) ?_;(refine @ab _ ?_;refine ao @Tryz.ntmps270 ?_)
 rw[e0,e1,e2,e3]
 refine⟨by omega,by omega,by omega,by omega,fun b=>⟨b,?_,?_⟩⟩
 ·rw[hts,Nat.add_comm]
 ·rfl
theorem IL(b:Bool)(e:E8):eG b e=lY e.key++rI b e:=rfl
theorem wK(b:Bool)(e:E8):(rI b e).size=if b then(if e.Iv then 5 else 1+e.data.size)else 2:=by
 have h:=nP b e
 rw[IL,ByteArray.size_append,jq]at h
 omega
theorem JL(w0:W0)(b:Bool)(l:List E8)(S:St)(hl:l.length≤1048576)(hk:∀e,e∈l→Nf b e):aa Tryz.prog w0 262 [.agg [dB b,.sl 5 false (l.map vf)]] S (fun d S'=>d= .sl 1 false ((l.map (eG b)).map fv)∧S'=S):=by
 have hkd:=fun S=>Mk w0 b l S
 cases b with
 |true=>
  refine ba [6] mx Tryz.func262 rfl rfl (by kernel_rfl) ?_;(refine @ab _ ?_;refine ao @Tryz.ntmps262 ?_)
  intro b1
  refine aS (r8 w0 _) ?_
  (refine @ab _ ?_;refine au ?_)
  refine aS (hkd _) ?_
  (refine @ab _ ?_;refine au ?_)
  refine o7 4 1 rfl (by omega) fun lp=>?_
  (refine @ab _ ?_;refine au ?_)
  refine aE [6] l.length [3,4,13,14,15] (fun k=>[(4,.acc lp.n k),(15,dI k)]) (fun k=>⟨(b1.n,[dB true,.sl 5 false (l.map vf)])::S.box,(lp.n,.arr 1 (((l.take k).map (eG true)).map fv))::S.acc⟩) (fun _=>True) mx (by kernel_rfl) ?_ ?_
  ·(refine @ab _ ?_;exact aQ)
  ·intro k hk' _
   have hml:(l.take k).length=k:=by rw[List.length_take];omega
   have e1:IntKind.i64.wrap ((k:Int)+1)=((k+1:Nat):Int):=by rw[bw (by omega) (by omega)];omega
   (refine @ab _ ?_;refine ao @hml ?_)
   refine⟨fun hlt=>⟨hlt,fun a ha b2=>?_⟩,fun hge=>?_⟩
   ·have hok:=hk a (List.mem_of_getElem? ha)
    have hk1:=hok.1
    refine Y.l9 [3,8,9] [10] [0,1,4,5,2,6,3,7,8,9,10,11] mx (by kernel_rfl) ?_
    (refine @ab _ ?_;refine au ?_)
    refine bA (QT w0 a.key _ (by omega)) ?_
    rintro _ _ ⟨r,rfl,rfl⟩
    (refine @ab _ ?_;refine au ?_)
    refine aq (Mm w0 a _ hok) ?_
    have hvs:=wK true a
    have hts:=jq a.key
    have l1:=bd (lY a.key)
    have l2:=bd (rI true a)
    have hm8:maxLen=9223372036854775807:=rfl
    have hda:a.data.size≤16∨a.data.size=0:=by
     have h2:=hok.2
     simp only[if_true]at h2
     by_cases q:a.Iv=true
     ·rw[if_pos q]at h2;right;rw[h2.1];rfl
     ·rw[if_neg q]at h2;left;exact h2.1
    have hsz:(rI true a).size≤17:=by
     rw[hvs]
     simp only[if_true]
     split <;>omega
    (refine @ab _ ?_;refine fc @l1 @l2 @hml ?_)
    have hrow:((l.take (k+1)).map (eG true)).map fv=((l.take k).map (eG true)).map fv++[.sl 1 false (bY (lY a.key)++bY (rI true a))]:=by
     rw[List.take_add_one,ha,Option.toList_some,List.map_append,List.map_append,←cQ]
     rfl
    rw[hrow]
    exact⟨by omega,by omega,by omega,by omega,hlt,e1,.bz (.pM (.refl _))⟩
   ·rw[List.take_of_length_le (by omega)]
    exact .refl _
 |false=>
  refine ba [6] mx Tryz.func262 rfl rfl (by kernel_rfl) ?_;(refine @ab _ ?_;refine ao @Tryz.ntmps262 ?_)
  intro b1
  refine aS (r8 w0 _) ?_
  (refine @ab _ ?_;refine au ?_)
  refine aS (hkd _) ?_
  (refine @ab _ ?_;refine au ?_)
  refine o7 4 1 rfl (by omega) fun lp=>?_
  (refine @ab _ ?_;refine au ?_)
  refine aE [6] l.length [3,4,13,14,15] (fun k=>[(4,.acc lp.n k),(15,dI k)]) (fun k=>⟨(b1.n,[dB false,.sl 5 false (l.map vf)])::S.box,(lp.n,.arr 1 (((l.take k).map (eG false)).map fv))::S.acc⟩) (fun _=>True) mx (by kernel_rfl) ?_ ?_
  ·(refine @ab _ ?_;exact aQ)
  ·intro k hk' _
   have hml:(l.take k).length=k:=by rw[List.length_take];omega
   have e1:IntKind.i64.wrap ((k:Int)+1)=((k+1:Nat):Int):=by rw[bw (by omega) (by omega)];omega
   (refine @ab _ ?_;refine ao @hml ?_)
   refine⟨fun hlt=>⟨hlt,fun a ha b2=>?_⟩,fun hge=>?_⟩
   ·have hok:=hk a (List.mem_of_getElem? ha)
    have hk1:=hok.1
    refine Y.l9 [3,8,9] [10] [0,1,4,5,2,6,3,7,8,9,10,11] mx (by kernel_rfl) ?_
    (refine @ab _ ?_;refine au ?_)
    refine bA (QT w0 a.key _ (by omega)) ?_
    rintro _ _ ⟨r,rfl,rfl⟩
    (refine @ab _ ?_;refine au ?_)
    refine aq (DS w0 a _ hok) ?_
    have hvs:=wK false a
    have hts:=jq a.key
    have l1:=bd (lY a.key)
    have l2:=bd (rI false a)
    have hm8:maxLen=9223372036854775807:=rfl
    have hsz:(rI false a).size≤17:=by
     rw[hvs]
     simp
    (refine @ab _ ?_;refine fc @l1 @l2 @hml ?_)
    have hrow:((l.take (k+1)).map (eG false)).map fv=((l.take k).map (eG false)).map fv++[.sl 1 false (bY (lY a.key)++bY (rI false a))]:=by
     rw[List.take_add_one,ha,Option.toList_some,List.map_append,List.map_append,←cQ]
     rfl
    rw[hrow]
    exact⟨by omega,by omega,by omega,by omega,hlt,e1,.bz (.pM (.refl _))⟩
   ·rw[List.take_of_length_le (by omega)]
    exact .refl _
theorem Of(w0:W0)(b:Bool)(l:List E8)(S:St)(hl:l.length≤1048576)(hk:∀e,e∈l→Nf b e)(hr:l.Pairwise fun x y=>cF x.key y.key=true)(h0:∀(i:Nat) e,l[i]? =some e→(e.key=aX↔i=0∧b=false))(hs:de (l.map (eG b))≤122)(h1:1<l.length∨(b=true∧l.length=1)):
 aa Tryz.prog w0 260 [.agg [dB b,.sl 5 false (l.map vf)]] S (fun d S'=>d=dB true∧S'=S):=by
 have hkd:=fun S=>Mk w0 b l S
 have hcl:=fun S=>JL w0 b l S hl hk
 cases b with
 |true=>
  refine ba [] mx Tryz.func260 rfl rfl (by kernel_rfl) ?_;(refine @ab _ ?_;refine ao @Tryz.ntmps260 ?_)
  intro b1
  refine aS (r8 w0 _) ?_
  (refine @ab _ ?_;refine au ?_)
  refine aS (hkd _) ?_
  (refine @ab _ ?_;refine au ?_)
  refine aE [] l.length [1,3,12,13,14] (fun k=>[(14,dI k)]) (fun k=>⟨(b1.n,[dB true,.sl 5 false (l.map vf)])::S.box,S.acc⟩) (fun _=>True) mx (by kernel_rfl) ?_ ?_
  ·(refine @ab _ ?_;exact aQ)
  ·intro k hk' _
   have e1:IntKind.i64.wrap ((k:Int)+1)=((k+1:Nat):Int):=by rw[bw (by omega) (by omega)];omega
   (refine @ab _ ?_;refine au ?_)
   refine⟨fun hlt=>⟨hlt,fun a ha b2=>?_⟩,fun hge=>?_⟩
   ·have hok:=hk a (List.mem_of_getElem? ha)
    have hkn:a.key≠aX:=fun e=>(by have:=((h0 k a ha).1 e).2;cases this)
    refine aS (MC w0 k a _ hok hkn) ?_
    rcases Nat.eq_zero_or_pos k with z0|z0
    ·have z2:((k:Int)>0)=False:=eq_false (by omega)
     (refine @ab _ ?_;refine ao @z2 ?_)
     exact⟨hlt,e1⟩
    ·have z2:((k:Int)>0)=True:=eq_true (by omega)
     have z3:IntKind.i64.wrap ((k:Int)-1)=((k-1:Nat):Int):=by rw[bw (by omega) (by omega)];omega
     obtain⟨c0,hc0⟩:∃c0,l[k-1]? =some c0:=⟨_,List.getElem?_eq_getElem (by omega)⟩
     have z4:mf a.key c0.key=false:=uM.2 (by obtain⟨u1,rfl⟩:=List.getElem?_eq_some_iff.1 hc0;obtain⟨u2,rfl⟩:=List.getElem?_eq_some_iff.1 ha;exact List.pairwise_iff_getElem.1 hr _ _ u1 u2 (by omega))
     (refine @ab _ ?_;refine aY @z2 @z3 ?_)
     refine⟨by omega,fun c1 hc1=>?_⟩
     cases cM hc0 hc1
     (refine @ab _ ?_;refine ao @z4 ?_)
     exact⟨hlt,e1⟩
   ·refine aS (P4 w0 _) ?_
    have hpos:((l.length:Int)≥1)=True:=eq_true (by
     rcases h1 with q|⟨_,q⟩ <;>omega)
    (refine @ab _ ?_;refine ao @hpos ?_)
    refine aS (hcl _) ?_
    (refine @ab _ ?_;refine au ?_)
    refine aS (Mh w0 (l.map (eG true)) _ (by omega) (by rw[List.length_map];exact hl)) ?_
    have hle:decide ((de (l.map (eG true)):Int)≤122)=true:=decide_eq_true (by omega)
    (refine @ab _ ?_;exact ma @hle)
 |false=>
  refine ba [] mx Tryz.func260 rfl rfl (by kernel_rfl) ?_;(refine @ab _ ?_;refine ao @Tryz.ntmps260 ?_)
  intro b1
  refine aS (r8 w0 _) ?_
  (refine @ab _ ?_;refine au ?_)
  refine aS (hkd _) ?_
  (refine @ab _ ?_;refine au ?_)
  refine aE [] l.length [1,3,12,13,14] (fun k=>[(14,dI k)]) (fun k=>⟨(b1.n,[dB false,.sl 5 false (l.map vf)])::S.box,S.acc⟩) (fun _=>True) mx (by kernel_rfl) ?_ ?_
  ·(refine @ab _ ?_;exact aQ)
  ·intro k hk' _
   have e1:IntKind.i64.wrap ((k:Int)+1)=((k+1:Nat):Int):=by rw[bw (by omega) (by omega)];omega
   (refine @ab _ ?_;refine au ?_)
   refine⟨fun hlt=>⟨hlt,fun a ha b2=>?_⟩,fun hge=>?_⟩
   ·have hok:=hk a (List.mem_of_getElem? ha)
    have hkn:a.key=aX↔k=0:=⟨fun e=>((h0 k a ha).1 e).1,fun e=>(h0 k a ha).2 ⟨e,rfl⟩⟩
    refine aS (CX w0 k a _ hok hkn) ?_
    rcases Nat.eq_zero_or_pos k with z0|z0
    ·have z2:((k:Int)>0)=False:=eq_false (by omega)
     (refine @ab _ ?_;refine ao @z2 ?_)
     exact⟨hlt,e1⟩
    ·have z2:((k:Int)>0)=True:=eq_true (by omega)
     have z3:IntKind.i64.wrap ((k:Int)-1)=((k-1:Nat):Int):=by rw[bw (by omega) (by omega)];omega
     obtain⟨c0,hc0⟩:∃c0,l[k-1]? =some c0:=⟨_,List.getElem?_eq_getElem (by omega)⟩
     have z4:mf a.key c0.key=false:=uM.2 (by obtain⟨u1,rfl⟩:=List.getElem?_eq_some_iff.1 hc0;obtain⟨u2,rfl⟩:=List.getElem?_eq_some_iff.1 ha;exact List.pairwise_iff_getElem.1 hr _ _ u1 u2 (by omega))
     (refine @ab _ ?_;refine aY @z2 @z3 ?_)
     refine⟨by omega,fun c1 hc1=>?_⟩
     cases cM hc0 hc1
     (refine @ab _ ?_;refine ao @z4 ?_)
     exact⟨hlt,e1⟩
   ·refine aS (O8 w0 _) ?_
    have hpos:((l.length:Int)≥2)=True:=eq_true (by
     rcases h1 with q|⟨q,_⟩
     ·omega
     ·cases q)
    (refine @ab _ ?_;refine ao @hpos ?_)
    refine aS (hcl _) ?_
    (refine @ab _ ?_;refine au ?_)
    refine aS (Mh w0 (l.map (eG false)) _ (by omega) (by rw[List.length_map];exact hl)) ?_
    have hle:decide ((de (l.map (eG false)):Int)≤122)=true:=decide_eq_true (by omega)
    (refine @ab _ ?_;exact ma @hle)
theorem Q0(w0:W0)(hg:fE w0)(b:Bool)(l:List E8)(S:St)(hl:l.length≤1048576)(hk:∀e,e∈l→Nf b e)(hr:l.Pairwise fun x y=>cF x.key y.key=true)(h0:∀(i:Nat) e,l[i]? =some e→(e.key=aX↔i=0∧b=false))(hs:de (l.map (eG b))≤122)(h1:1<l.length∨(b=true∧l.length=1)):
 aa Tryz.prog w0 252 [.agg [dB b,.sl 5 false (l.map vf)]] S (fun d S'=>d= .bI [fv (gq (if b then 1 else 2) (l.map (eG b))),dI 0]∧S'=S):=by
 have hkd:=fun S=>Mk w0 b l S
 have hcl:=fun S=>JL w0 b l S hl hk
 have hch:=fun S=>Of w0 b l S hl hk hr h0 hs h1
 have hpk:=fun S=>Fh w0 hg (if b then 1 else 2) (l.map (eG b)) S (by cases b <;>decide) (by cases b <;>decide) (by cases b <;>decide) hs
 generalize (if b then(1:Int)else 2)=kd at*
 refine ba [] mx Tryz.func252 rfl rfl (by kernel_rfl) ?_;(refine @ab _ ?_;refine ao @Tryz.ntmps252 ?_)
 intro b1
 refine aq (hch _) ?_
 (refine @ab _ ?_;refine au ?_)
 refine aS (hkd _) ?_
 (refine @ab _ ?_;refine au ?_)
 refine aS (hcl _) ?_
 (refine @ab _ ?_;refine au ?_)
 refine aS (hpk _) ?_
 (refine @ab _ ?_;exact aQ)
end Go.Proofs.YtpjenciplibdnaaGreatDoor
namespace Go.Proofs.YtpjenciplibdnaaGreatDoor
open Aml Go
section
variable (S:St) (l:Nat) (K:DV→St→Prop)
theorem SR:eI (.mp l)=true:=rfl
theorem U2:cd (.mp l)=[.mp l]:=rfl
theorem Ub:shr S (.mp l) K=K (.mp l) S:=rfl
end
attribute [go_sem] SR U2
attribute [go_sem ↓] Ub
@[go_sem] def BE (b:Nat):DV:= .v (.pointer (some ⟨b,0,none⟩))
def k9(a:Int):Value:= .int .i64 a
def Seen(es:List (Value×DV×Nat))(pre:List Int):Prop:=∀x,iI es (k9 x)=if x∈pre then some (dI 1)else none
theorem YF(w0:W0){S:St}{bp la m c:Nat}{pre:List Int}{es:List (Value×DV×Nat)}(hb:lk S.box bp=some [.acc la pre.length,.mp m])(ha:lk S.acc la=some (.arr 1 (pre.map dI)))(hm:lk S.acc m=some (.xo (.mp (.int .i64) es c)))(hs:Seen es pre)(hl:pre.length≤1000)
 (x:Int) (h1:2≤x) (h2:x≤999) (hx:x∉pre) (hne:¬la=m):
 aa Tryz.prog w0 266 [BE bp,dI x] S (fun d S'=>d=dB true∧S'=⟨up S.box bp [.acc la (pre++[x]).length,.mp m],up (up S.acc la (.arr 1 ((pre++[x]).map dI))) m (.xo (.mp (.int .i64) (jK es c (k9 x) (dI 1)) (qh es c (k9 x))))⟩):=by
 have hg:iI es (.int .i64 x)=none:=by have:=hs x;rw[if_neg hx]at this;exact this
 have f1:(x<2)=False:=eq_false (by omega)
 have f2:(x>999)=False:=eq_false (by omega)
 have hm8:maxLen=9223372036854775807:=rfl
 have ez:IntKind.i64.wrap (0+1)=1:=by decide
 have hmu:∀v,lk (up S.acc la v) m=some (.xo (.mp (.int .i64) es c)):=fun v=>by rw[aI hne];exact hm
 refine nB [] mx Tryz.func266 rfl rfl (by kernel_rfl) ?_;simp(maxDischargeDepth:=12) (maxSteps:=1000000) -implicitDefEqProofs only[Tryz.ntmps266,go_sem,Nat.reduceAdd,Nat.reduceSub,Nat.reduceMul,Nat.reduceLeDiff,Nat.reduceEqDiff,Nat.reduceGT,Nat.reduceBEq,reduceCtorEq,↓reduceIte,Int.reduceToNat,Int.reduceLE,Int.reduceLT,Int.reduceNe,Int.reduceEq,f1,f2,hb,hm,hg,ha,hmu,ez]
 have hmap:(pre++[x]).map dI=pre.map dI++[.v (.int .i64 x)]:=by simp[dI]
 refine⟨fun q=>absurd q (by decide),fun _=>⟨by omega,by omega,?_⟩⟩
 rw[hmap]
 rfl
theorem KL{es:List (Value×DV×Nat)}{pre:List Int}(h:Seen es pre)(c:Nat)(x:Int):Seen (jK es c (k9 x) (dI 1)) (pre++[x]):=fun y=>by
 by_cases q:y=x
 ·subst q
  rw[j9,if_pos (by simp)]
 ·rw[rD _ _ (k:=k9 x) (k':=k9 y) (fun e=>q (by unfold k9 at e;cases e;rfl)),h]
  simp[q]
structure QR(S:St)(bp la m:Nat)(pre:List Int):Prop where
 b:lk S.box bp=some [.acc la pre.length,.mp m]
 a:lk S.acc la=some (.arr 1 (pre.map dI))
 m:∃es c,lk S.acc m=some (.xo (.mp (.int .i64) es c))∧Seen es pre
structure It(S S':St)(bp la m:Nat):Prop where
 b:∀c x,c≠bp→lk S.box c=some x→lk S'.box c=some x
 a:∀c x,c≠la→c≠m→lk S.acc c=some x→lk S'.acc c=some x
theorem XS(w0:W0){S:St}{bp la m:Nat}{pre:List Int}(h:QR S bp la m pre)(hl:pre.length≤1000)(x:Int)(h1:2≤x)(h2:x≤999)(hx:x∉pre)(hne:¬la=m):
 aa Tryz.prog w0 266 [BE bp,dI x] S (fun d S'=>d=dB true∧QR S' bp la m (pre++[x])∧It S S' bp la m):=by
 obtain⟨es,c,hm,hs⟩:=h.m
 refine(YF w0 h.b h.a hm hs hl x h1 h2 hx hne).mono ?_
 rintro d S' ⟨rfl,rfl⟩
 refine⟨rfl,⟨?_,?_,jK es c (k9 x) (dI 1),qh es c (k9 x),?_,KL hs c x⟩,fun c x hc hx=>?_,fun c x hc hc2 hx=>?_⟩
 ·show lk (up S.box bp _) bp=_
  rw[aw,h.b];rfl
 ·show lk (up (up S.acc la _) m _) la=_
  rw[aI (fun e=>hne e.symm),aw,h.a];rfl
 ·show lk (up (up S.acc la _) m _) m=_
  rw[aw,aI hne,hm];rfl
 ·show lk (up S.box bp _) c=_
  rw[aI (fun e=>hc e.symm)];exact hx
 ·show lk (up (up S.acc la _) m _) c=_
  rw[aI (fun e=>hc2 e.symm),aI (fun e=>hc e.symm)];exact hx
theorem Vp(w0:W0){S:St}{b6 bp la m:Nat}{pre:List Int}(h6:lk S.box b6=some [BE bp])(h:QR S bp la m pre)(hl:pre.length≤1000)(x:Int)(h1:2≤x)(h2:x≤999)(hx:x∉pre)(hne:¬la=m):
 aa Tryz.prog w0 265 [dI x,BE b6] S (fun d S'=>d=dB false∧QR S' bp la m (pre++[x])∧It S S' bp la m):=by
 refine nB [] mx Tryz.func265 rfl rfl (by kernel_rfl) ?_;simp only[Tryz.ntmps265,List.length_cons,List.length_nil,Nat.reduceAdd,Nat.reduceSub,List.reduceReplicate,List.cons_append,List.nil_append];(refine @ab _ ?_;refine aY @Tryz.ntmps265 @h6 ?_)
 refine bA (XS w0 h hl x h1 h2 hx hne) ?_
 rintro _ S' ⟨rfl,hp,hf⟩
 (refine @ab _ ?_;refine au ?_)
 exact⟨hp,hf⟩
theorem It.refl(S:St)(bp la m:Nat):It S S bp la m:=⟨fun _ _ _ h=>h,fun _ _ _ _ h=>h⟩
theorem It.trans{S T U:St}{bp la m:Nat}(h:It S T bp la m)(k:It T U bp la m):It S U bp la m:=⟨fun c x hc hx=>k.b c x hc (h.b c x hc hx),fun c x hc hc2 hx=>k.a c x hc hc2 (h.a c x hc hc2 hx)⟩
theorem Oj(w0:W0){S:St}{b6 bp la m:Nat}(at_:List Int)(h6:lk S.box b6=some [BE bp])(h:QR S bp la m [])(hl:at_.length≤1000)(hr:∀x,x∈at_→2≤x∧x≤999)(hd:at_.Nodup)(hne:¬la=m)(hb6:b6≠bp):
 aa Tryz.prog w0 229 [dL at_,.v (.func (.func 265) #[] #[.pointer (some ⟨b6,0,none⟩)])] S (fun d S'=>d=dI (-1)∧QR S' bp la m at_∧It S S' bp la m):=by
 refine nB [] mx Tryz.func229 rfl rfl (by kernel_rfl) ?_;(refine @ab _ ?_;refine ao @Tryz.ntmps229 ?_)
 refine kO [] [0,1,7,8] (fun s:Nat×St=>[(8,dI s.1)]) (fun s=>s.2) (fun s=>s.1≤at_.length∧QR s.2 bp la m (at_.take s.1)∧It S s.2 bp la m) (fun s=>at_.length-s.1) (0,S) mx (by kernel_rfl) ?_ ?_
 ·refine⟨⟨by simp,h,It.refl _ _ _ _⟩,?_,?_⟩
  ·(refine @ab _ ?_;exact aQ)
  ·exact .refl _
 ·rintro⟨k,T⟩ ⟨hk,hT,hF⟩
  simp only at hk hT hF
  have e1:IntKind.i64.wrap ((k:Int)+1)=((k+1:Nat):Int):=by rw[bw (by omega) (by omega)];omega
  (refine @ab _ ?_;refine au ?_)
  refine⟨fun hlt=>⟨hlt,fun x hx=>?_⟩,fun hge=>?_⟩
  ·have ht:at_.take (k+1)=at_.take k++[x]:=by rw[List.take_add_one,hx];rfl
   have hm:=List.mem_of_getElem? hx
   have hno:x∉at_.take k:=fun q=>by
    have:=hd.sublist (List.take_sublist (k+1) at_)
    rw[ht,List.nodup_append]at this
    exact this.2.2 x q x (by simp) rfl
   refine bA (Vp w0 (hF.b b6 _ hb6 h6) hT (by rw[List.length_take];omega) x (hr x hm).1 (hr x hm).2 hno hne) ?_
   rintro _ T2 ⟨rfl,hT2,hF2⟩
   (refine @ab _ ?_;refine au ?_)
   exact⟨(k+1,T2),⟨hlt,ht▸hT2,hF.trans hF2⟩,by show at_.length-(k+1)<at_.length-k;omega,e1,.refl _⟩
  ·have hk2:at_.take k=at_:=List.take_of_length_le (by omega)
   rw[hk2]at hT
   exact⟨hT,hF⟩
theorem Dm(w0:W0){S:St}{b6 bp la m:Nat}(at_:List Int)(h6:lk S.box b6=some [BE bp])(h:QR S bp la m [])(hl:at_.length≤1000)(hr:∀x,x∈at_→2≤x∧x≤999)(hd:at_.Nodup)(hne:¬la=m)(hb6:b6≠bp):
 aa Tryz.prog w0 264 [dL at_,.v (.func (.func 265) #[] #[.pointer (some ⟨b6,0,none⟩)])] S (fun d S'=>d=dB false∧It S S' bp la m):=by
 refine nB [] mx Tryz.func264 rfl rfl (by kernel_rfl) ?_;(refine @ab _ ?_;refine ao @Tryz.ntmps264 ?_)
 refine bA (Oj w0 at_ h6 h hl hr hd hne hb6) ?_
 rintro _ T ⟨rfl,_,hF⟩
 (refine @ab _ ?_;refine au ?_)
 exact⟨rfl,hF⟩
end Go.Proofs.YtpjenciplibdnaaGreatDoor
namespace Go.Proofs.YtpjenciplibdnaaGreatDoor
open Aml Go
theorem EC(w0:W0)(l:List Int)(S:St)(h:l.length≤1048576):aa Tryz.prog w0 227 [dL l] S (fun d S'=>∃r:FN S.acc,d= .acc r.n l.length∧S'=⟨S.box,(r.n,.arr 1 (l.map dI))::S.acc⟩):=by
 have hm8:maxLen=9223372036854775807:=rfl
 cases l with
 |nil=>
  refine gS (K':=fun d S'=>(d= .sl 0 true []∧S'=S)∨∃r:FN S.acc,d= .acc r.n 0∧S'=⟨S.box,(r.n,.arr 1 [])::S.acc⟩) ?_ 1 (by omega) ?_
  ·refine nB [] mx Tryz.func227 rfl rfl (by kernel_rfl) ?_;(refine @ab _ ?_;refine ao @Tryz.ntmps227 ?_)
   exact⟨by omega,fun r=>⟨r,rfl,rfl⟩⟩
  ·rintro d S' (⟨rfl,rfl⟩|h)
   ·exact .inr ⟨⟨0,rfl⟩,fun l hl=>⟨⟨l,hl⟩,rfl,rfl⟩⟩
   ·exact .inl h
 |cons a t=>
  simp only[List.length_cons]at h
  refine nB [] mx Tryz.func227 rfl rfl (by kernel_rfl) ?_;(refine @ab _ ?_;refine ao @Tryz.ntmps227 ?_)
  exact⟨by omega,by omega,fun r=>⟨r,rfl,rfl⟩⟩
theorem TP(w0:W0)(v:ByteArray)(S:St):aa Tryz.prog w0 267 [fv v,dI 119] S (fun d S'=>∃(b:FN S.box) (c:FN ((b.n,[fv v])::S.box)),d= .v (.func (.func 273) #[] #[.pointer (some ⟨b.n,0,none⟩),.pointer (some ⟨c.n,0,none⟩)])∧S'=⟨(c.n,[dI 119])::(b.n,[fv v])::S.box,S.acc⟩):=by
 refine nB [] mx Tryz.func267 rfl rfl (by kernel_rfl) ?_;(refine @ab _ ?_;refine ao @Tryz.ntmps267 ?_)
 exact fun b c=>⟨b,c,rfl,rfl⟩
def Zw(v:ByteArray)(k:Nat):DV:= .sl 1 true (bY (v.extract (119*k) (119*k+iz v.size k)))
theorem R9(w0:W0)(l b c:Nat)(v:ByteArray)(n:Nat)(X:List Nat→St)(hn:119*n<v.size+119∧v.size≤119*n)(hv:v.size≤1048576)(hb:∀pre,lk (X pre).box b=some [fv v])(hc:∀pre,lk (X pre).box c=some [dI 119])
 (hy:YK Tryz.prog w0 l X (fun x=>[Zw v (x-1)]) (Vr n)):∀T,Has (X []) T→aa Tryz.prog w0 273 [.v (.func (.yield l) #[] #[]),.v (.pointer (some ⟨b,0,none⟩)),.v (.pointer (some ⟨c,0,none⟩))] T (fun _ T'=>Has (X (Vr n)) T'):=by
 intro T hT
 have t0:lk T.box b=some [fv v]:=hT.box _ _ (hb _)
 have t1:lk T.box c=some [dI 119]:=hT.box _ _ (hc _)
 have hs:(bY v).length=v.size:=bd v
 refine wm [] mx Tryz.func273 rfl rfl (by kernel_rfl) ?_;simp only[Tryz.ntmps273,List.length_cons,List.length_nil,Nat.reduceAdd,Nat.reduceSub,List.reduceReplicate,List.cons_append,List.nil_append];(refine @ab _ ?_;refine fc @Tryz.ntmps273 @t0 @t1 ?_)
 refine kO [] [0,1,2,4] (fun s:St×Nat=>[(4,dI (119*s.2:Nat))]) (fun s=>s.1) (fun s=>s.2≤n∧Has (X (Vr s.2)) s.1) (fun s=>n-s.2) (T,0) mx (by kernel_rfl) ?_ ?_
 ·(refine @ab _ ?_;refine au ?_)
  exact⟨Nat.zero_le _,hT⟩
 ·rintro⟨T,k⟩ ⟨hk,hT'⟩
  simp only at hk hT'
  have t0:lk T.box b=some [fv v]:=hT'.box _ _ (hb _)
  have t1:lk T.box c=some [dI 119]:=hT'.box _ _ (hc _)
  (refine @ab _ ?_;refine fc @t0 @t1 @hs ?_)
  have ec:(((119*k:Nat):Int)+if((v.size-119*k:Nat):Int)<119 then((v.size-119*k:Nat):Int)else 119)=((119*k+iz v.size k:Nat):Int):=by
   unfold iz
   split <;>omega
  have hp:iz v.size k≤119∧(119*k≤v.size→119*k+iz v.size k≤v.size):=by unfold iz;omega
  rw[ec,bw (by omega) (by omega),Int.toNat_natCast]
  refine⟨fun hlt=>⟨by omega,by omega,by have:=hp.2 (by omega);omega,?_⟩,fun hge=>?_⟩
  ·have ee:((bY v).take (119*k+iz v.size k)).drop (119*k)=bY (v.extract (119*k) (119*k+iz v.size k)):=by
    unfold bY
    rw[ByteArray.data_extract,Array.toList_extract,List.extract_eq_take_drop,List.map_take,List.map_drop,List.drop_take]
   rw[ee]
   refine MP (hy (Vr k) (k+1) T (by rw[←pE];exact MU (by omega)) hT') ?_
   rintro d T2 ⟨rfl,hT2,hK⟩
   have t2:lk T2.box c=some [dI 119]:=hT2.box _ _ (hc _)
   have e3:IntKind.i64.wrap (((119*k:Nat):Int)+119)=((119*(k+1):Nat):Int):=by rw[bw (by omega) (by omega)];omega
   (refine @ab _ ?_;refine ao @t2 ?_)
   exact⟨(T2,k+1),⟨by omega,by show Has (X (Vr (k+1))) T2;rw[pE];exact hT2⟩,by show n-(k+1)<n-k;omega,e3,.refl _⟩
  ·have:n=k:=by omega
   rw[this]
   refine⟨_,T,.refl _,.refl _,?_⟩
   exact hT'
theorem Gz{P:Program}{w0:W0}{f:FuncId}{args:List DV}{S:St}{K:DV→Prop}(h:aa P w0 f args S fun d T=>K d∧Has S T):aa P w0 f args S fun d S'=>K d∧S'=S:=by
 intro g vs w h1 h2
 refine(h g vs w h1 h2).mono ?_
 rintro e w' ⟨r,g',d,T,q1,q2,q3,q4,hk,hs⟩
 exact⟨r,g',d,S,q1,q2,q3.has hs h1.nb h1.na,q4,hk,rfl⟩
theorem fm{α:Type}{l:List (Nat×α)}(b:FN l){c:Nat}{x:α}(h:lk l c=some x):b.n≠c:=fun e=>by rw[←e,jl b]at h;cases h
theorem re{α:Type}{l:List (Nat×α)}(b:FN l){c:Nat}{x:α}(v:α)(h:lk l c=some x):lk ((b.n,v)::l) c=some x:=by simp only[lk];rw[if_neg (fm b h)];exact h
theorem oc{α:Type}{l:List (Nat×α)}{b c:Nat}{v:α}(h:b≠c):lk ((b,v)::l) c=lk l c:=by simp only[lk];rw[if_neg h]
theorem L2{P:Program}{w0:W0}(S0:St)(gs ns ord:List Nat){id:Nat}{l:List Oper}{fr:List DV}{S:St}{Q:Exit→List DV→St→Prop}(hm:P.follows .mixedOrders=true)(hB:Y.Uv l gs ns ord=true)(h:Y.wU P w0 S0 gs ns l.toArray (fun fr S=>jt fr fun fr=>Q .normal fr S) ord fr S):gk P w0 (.region id l.toArray true) fr S Q:=by
 simp only[Y.Uv,Bool.and_eq_true,beq_iff_eq]at hB
 refine Y.qD hm hB.1.2 hB.2 (Y.ju (fun i o ho=>?_) ord h)
 have:l[i]? =some o:=by simpa using ho
 exact List.all_eq_true.1 hB.1.1 o (List.mem_of_getElem? this)
theorem l4{b:Nat}{x:List DV}{U:St}(h:lk U.box b=some x):Has ⟨[(b,x)],[]⟩ U:=by
 constructor
 ·intro c y hc
  simp only[lk]at hc
  split at hc
  ·rename_i e;subst e;rw[h];exact hc
  ·cases hc
 ·intro c y hc
  simp only[lk]at hc
  cases hc
theorem YJ{X X' T T':St}{b c l:Nat}(hX:∀d x,lk X'.box d=some x→d≠b→d≠c→lk X.box d=some x)(hA:∀d x,lk X'.acc d=some x→d≠l→lk X.acc d=some x)(h:Has X T)
 (hb:∀x,lk X'.box b=some x→lk T'.box b=some x) (hc:∀x,lk X'.box c=some x→lk T'.box c=some x) (hl:∀x,lk X'.acc l=some x→lk T'.acc l=some x)
 (hT:∀d,d≠b→d≠c→lk T'.box d=lk T.box d) (hU:∀d,d≠l→lk T'.acc d=lk T.acc d):Has X' T':=⟨fun d x hx=>by
 by_cases e1:d=b
 ·subst e1;exact hb x hx
 by_cases e2:d=c
 ·subst e2;exact hc x hx
 rw[hT d e1 e2];exact h.box d x (hX d x hx e1 e2),fun d x hx=>by
 by_cases e1:d=l
 ·subst e1;exact hl x hx
 rw[hU d e1];exact h.acc d x (hA d x hx e1)⟩
theorem kp3{X T T':St}{b c l:Nat}(hb:lk X.box b≠none)(hc:lk X.box c≠none)(hl:lk X.acc l≠none)(hT:∀d,d≠b→d≠c→lk T'.box d=lk T.box d)(hU:∀d,d≠l→lk T'.acc d=lk T.acc d):Kp X T T':=⟨fun d x hd hx=>by
 rw[hT d (fun e=>hb (e▸hd)) (fun e=>hc (e▸hd))];exact hx,fun d x hd hx=>by
 rw[hU d (fun e=>hl (e▸hd))];exact hx⟩
def qk(at_:List Int):List Int:=at_.drop 1++[0]
theorem Wl(w0:W0)(hg:fE w0)(v:ByteArray)(at_:List Int)(S:St)(hv:v.size≤400)(hn:need (v.size:Int)=at_.length)(h0:at_≠[])(hr:∀x,x∈at_→2≤x∧x≤999)(hd:at_.Nodup):
 aa Tryz.prog w0 259 [dS v,dL at_] S (fun d S'=>d= .bI [.sl 1 false ((bf v at_).map fv),dI 0]∧Has S S'):=by
 have hpos:=List.length_pos_iff.2 h0
 have hneed:16<v.size∧119*(at_.length-1)<v.size∧v.size≤119*at_.length∧at_.length≤4:=by
  unfold need at hn
  split at hn
  ·omega
  ·omega
 have hcl:(bf v at_).length=at_.length:=by unfold bf;rw[List.length_map,List.length_range]
 refine nB [2,6,11,12] mx Tryz.func259 rfl rfl (by kernel_rfl) ?_;(refine @ab _ ?_;refine ao @Tryz.ntmps259 ?_)
 intro b1 b2 m b3 b6
 refine eJ b3.n 0 1 (by omega) (ds:=[.sl 0 true [],.mp m.n]) (by(refine @ab _ ?_;exact aQ)) rfl fun la=>?_
 refine jx [6,11,12] [] mx (by kernel_rfl) ?_
 (refine @ab _ ?_;refine au ?_)
 refine⟨fun h=>absurd h (by omega),fun _=>?_⟩
 refine aq (zS w0 _ _) ?_
 (refine @ab _ ?_;refine ao @hn ?_)
 have hne:¬la.n=m.n:=by(refine @ab _ ?_;exact aQ)
 refine bA (Dm w0 (b6:=b6.n) (bp:=b3.n) (la:=la.n) (m:=m.n) at_ (by(refine @ab _ ?_;exact aQ)) ⟨by(refine @ab _ ?_;exact aQ),by(refine @ab _ ?_;exact aQ),[],0,by(refine @ab _ ?_;exact aQ),fun x=>rfl⟩ (by omega) hr hd hne (by(refine @ab _ ?_;exact aQ))) ?_
 rintro _ T ⟨rfl,hF⟩
 have hST:Has S T:=⟨fun c x hx=>by
  have h1:=re b1 [.sl 0 true []] hx
  have h2:=re b2 [dI 0] h1
  have h3:=re b3 [.acc la.n 0,.mp m.n] h2
  have h4:=(oc (v:=[BE b3.n]) (fm b6 (re b3 [.sl 0 true [],.mp m.n] h2))).trans h3
  exact hF.b c x (fun e=>fm b3 h2 e.symm) h4,fun c x hx=>by
  have h1:=re m (.xo (.mp (.int .i64) [] 0)) hx
  have h2:=re la (.arr 1 []) h1
  exact hF.a c x (fun e=>fm la h1 e.symm) (fun e=>fm m hx e.symm) h2⟩
 have tb1:lk T.box b1.n=some [.sl 0 true []]:=hF.b _ _ (by(refine @ab _ ?_;exact aQ)) (by(refine @ab _ ?_;exact aQ))
 have tb2:lk T.box b2.n=some [dI 0]:=hF.b _ _ (by(refine @ab _ ?_;exact aQ)) (by(refine @ab _ ?_;exact aQ))
 clear hF
 (refine @ab _ ?_;refine au ?_)
 refine⟨by omega,?_⟩
 refine bA (EC w0 (at_.drop 1) _ (by rw[List.length_drop];omega)) ?_
 rintro _ _ ⟨r,rfl,rfl⟩
 have hdl:(at_.drop 1).length=at_.length-1:=List.length_drop ..
 have hm8:maxLen=9223372036854775807:=rfl
 (refine @ab _ ?_;refine au ?_)
 refine⟨by omega,by omega,fun b7 b8=>?_⟩
 refine eJ b8.n 0 1 (by omega) (ds:=[.sl 0 true []]) (by(refine @ab _ ?_;exact aQ)) rfl fun lo=>?_
 (refine @ab _ ?_;refine au ?_)
 have hnl:(qk at_).length=at_.length:=by unfold qk;simp;omega
 refine MA b7.n 0 (l:=r.n) (s:=1) (xs:=(qk at_).map dI) (ds:=[.acc r.n (at_.length-1+1)]) (by simp(maxDischargeDepth:=12) (maxSteps:=1000000) -implicitDefEqProofs only[go_sem,Nat.reduceAdd,Nat.reduceSub,Nat.reduceMul,Nat.reduceLeDiff,Nat.reduceEqDiff,Nat.reduceGT,Nat.reduceBEq,reduceCtorEq,↓reduceIte,Int.reduceToNat,Int.reduceLE,Int.reduceLT,Int.reduceNe,Int.reduceEq]) (by rw[List.length_map,hnl];simp;omega) (by unfold qk;simp(maxDischargeDepth:=12) (maxSteps:=1000000) -implicitDefEqProofs only[go_sem,Nat.reduceAdd,Nat.reduceSub,Nat.reduceMul,Nat.reduceLeDiff,Nat.reduceEqDiff,Nat.reduceGT,Nat.reduceBEq,reduceCtorEq,↓reduceIte,Int.reduceToNat,Int.reduceLE,Int.reduceLT,Int.reduceNe,Int.reduceEq,List.map_append]) ?_
 (refine @ab _ ?_;refine au ?_)
 refine jx [11,12] [] mx (by kernel_rfl) ?_
 (refine @ab _ ?_;refine au ?_)
 have hsv:=bd v
 unfold bY at hsv
 refine⟨by omega,bA (TP w0 v _) ?_⟩
 rintro _ _ ⟨bv,bn,rfl,rfl⟩
 (refine @ab _ ?_;refine au ?_)
 have hU:∀k,k<at_.length→(qk at_).drop k=(at_[k+1]?).getD 0::(qk at_).drop (k+1):=fun k hk=>by
  rw[List.drop_eq_getElem_cons (by omega)]
  congr 1
  unfold qk
  rw[List.getElem_append]
  split
  ·rename_i h;rw[List.getElem?_eq_getElem (by omega),Option.getD_some,List.getElem_drop]
   congr 1;omega
  ·rename_i h;rw[List.getElem?_eq_none (by omega),Option.getD_none];simp
 have n1:¬bv.n=b8.n:=fm bv (x:=[.acc lo.n 0]) (by simp[lk])
 have n6:¬b8.n=b7.n:=fm b8 (x:=[.acc r.n (at_.length-1+1)]) (by simp[lk])
 have n2:¬bv.n=b7.n:=fm bv (x:=[.sl 1 false ((qk at_).map dI)]) (by simp[lk,n6])
 have n3:¬bn.n=bv.n:=fm bn (x:=[fv v]) (by simp[lk])
 have n4:¬bn.n=b8.n:=fm bn (x:=[.acc lo.n 0]) (by simp[lk,n1])
 have n5:¬bn.n=b7.n:=fm bn (x:=[.sl 1 false ((qk at_).map dI)]) (by simp[lk,n6,n2])
 have hy9:∀i:Nat,0≤(at_[i]?).getD 0∧(at_[i]?).getD 0≤999:=fun i=>by
  cases q:at_[i]? with
  |none=>exact⟨by decide,by decide⟩
  |some x=>have:=hr x (List.mem_of_getElem? q);exact⟨by show 0≤x;omega,this.2⟩
 refine qK [11] (fun pre:List Nat=>⟨(bn.n,[dI 119])::(bv.n,[fv v])::(b8.n,[.acc lo.n pre.length])::(b7.n,[.sl 1 false (((qk at_).drop pre.length).map dI)])::T.box,(lo.n,.arr 1 (((bf v at_).take pre.length).map fv))::(r.n,.tl 1 ((qk at_).map dI))::T.acc⟩) (fun x:Nat=>[Zw v (x-1)]) (Vr at_.length) mx (by kernel_rfl) rfl rfl rfl (fun _=>rfl) (fun _=>rfl) (fun _=>rfl) ?_ ?_ ?_
 ·intro ly w1 hy U hU
  exact R9 w1 ly bv.n bn.n v at_.length _ ⟨by omega,by omega⟩ (by omega) (fun _=>by simp[lk,n1,n2,n3,n4,n5,n6]) (fun _=>by simp[lk,n1,n2,n3,n4,n5,n6]) hy U hU
 ·intro pre x U hp hU2
  obtain⟨rfl,hlt⟩:=Rh hp
  have t7:lk U.box b7.n=some [.sl 1 false (((qk at_).drop pre.length).map dI)]:=hU2.box _ _ (by simp[lk,n1,n2,n3,n4,n5,n6])
  have t8:lk U.box b8.n=some [.acc lo.n pre.length]:=hU2.box _ _ (by simp[lk,n1,n2,n3,n4,n5,n6])
  have tl:lk U.acc lo.n=some (.arr 1 (((bf v at_).take pre.length).map fv)):=hU2.acc _ _ (by(refine @ab _ ?_;exact aQ))
  rw[hU _ hlt]at t7
  simp only[jf]
  (refine @ab _ ?_;refine fc @t7 @t8 @tl ?_)
  have hy0:=hy9 (pre.length+1)
  have hc0:oC v at_ pre.length=bC 2 (IntKind.u64.wrap ((at_[pre.length+1]?).getD 0))++v.extract (119*pre.length) (119*pre.length+iz v.size pre.length):=rfl
  have hcs:=ru (v:=v) (at_:=at_) (i:=pre.length) (by omega)
  have hpl:iz v.size pre.length≤119:=by unfold iz;omega
  have hpk:=fun S=>Fh w0 hg 3 [oC v at_ pre.length] S (by decide) (by decide) (by decide) (by simp only[de,List.map_cons,List.map_nil,List.sum_cons,List.sum_nil];omega)
  have htk:(bf v at_).take (pre.length+1)=(bf v at_).take pre.length++[gq 3 [oC v at_ pre.length]]:=by
   rw[List.take_add_one];unfold bf;rw[List.getElem?_map,List.getElem?_range hlt];rfl
  have hes:(v.extract (119*pre.length) (119*pre.length+iz v.size pre.length)).size≤119:=by rw[ByteArray.size_extract];omega
  have hew:IntKind.u64.wrap ((at_[pre.length+1]?).getD 0)=(at_[pre.length+1]?).getD 0:=kL (by omega) (by omega)
  generalize gq 3 [oC v at_ pre.length]=PK at*
  rw[hew]at hc0 ⊢
  refine⟨by omega,aq (ub w0 _ 2 _ (by decide) (by decide) hy0.1 (by omega)) ?_⟩
  (refine @ab _ ?_;refine au ?_)
  refine aq (Qy w0 (bC 2 ((at_[pre.length+1]?).getD 0)) (v.extract (119*pre.length) (119*pre.length+iz v.size pre.length)) _ (by rw[aA];omega)) ?_ (.cons ((Wk.full _ _ _).trans (Wk.sl (.cons (.refl _) (.cons (Wk.full _ _ _) .nil)))) .nil)
  rw[←hc0]
  (refine @ab _ ?_;refine au ?_)
  refine aq (hpk _) ?_ (.cons (.refl _) (.cons (Wk.full _ _ _) .nil))
  (refine @ab _ ?_;refine au ?_)
  rw[List.map_cons]at t7
  generalize dI ((at_[pre.length+1]?).getD 0)=y at t7
  refine L2 ⟨[(b7.n,[.sl 1 false (y::((qk at_).drop (pre.length+1)).map dI)])],[]⟩ [0,3,6] [7] [1,2,4,5,0,3,6,7] mx (by kernel_rfl) ?_
  have em:min pre.length (bf v at_).length=pre.length:=by omega
  have et:((qk at_).drop (pre.length+1)).take ((qk at_).length-(pre.length+1))=(qk at_).drop (pre.length+1):=List.take_of_length_le (by rw[List.length_drop];omega)
  have hT:∀(u w:List DV) d,d≠b8.n→d≠b7.n→lk (up (up U.box b8.n u) b7.n w) d=lk U.box d:=fun u w d q1 q2=>by rw[aI (fun e=>q2 e.symm),aI (fun e=>q1 e.symm)]
  have hA:∀(u:Ob) d,d≠lo.n→lk (up U.acc lo.n u) d=lk U.acc d:=fun u d q=>aI (fun e=>q e.symm) ..
  have n6':¬b7.n=b8.n:=fun e=>n6 e.symm
  have hfin:Has ⟨(bn.n,[dI 119])::(bv.n,[fv v])::(b8.n,[.acc lo.n (pre.length+1)])::(b7.n,[.sl 1 false (((qk at_).drop (pre.length+1)).map dI)])::T.box,(lo.n,.arr 1 (((bf v at_).take (pre.length+1)).map fv))::(r.n,.tl 1 ((qk at_).map dI))::T.acc⟩ ⟨up (up U.box b8.n [.acc lo.n (pre.length+1)]) b7.n [.sl 1 false (((qk at_).drop (pre.length+1)).map dI)],up U.acc lo.n (.arr 1 (((bf v at_).take pre.length).map fv++[fv PK]))⟩:=by
   refine YJ (b:=b8.n) (c:=b7.n) (l:=lo.n) (fun d x hx q1 q2=>?_) (fun d x hx q1=>?_) hU2 (fun x hx=>?_) (fun x hx=>?_) (fun x hx=>?_) (hT _ _) (hA _)
   ·simpa[lk,q1.symm,q2.symm]using hx
   ·simpa[lk,q1.symm]using hx
   ·show lk (up (up U.box b8.n _) b7.n _) b8.n=_
    rw[aI n6',aw,t8]
    simpa[lk,n1,n4]using hx
   ·show lk (up (up U.box b8.n _) b7.n _) b7.n=_
    rw[aw,aI n6,t7]
    simpa[lk,n2,n5,n6]using hx
   ·show lk (up U.acc lo.n _) lo.n=_
    rw[aw,tl]
    rw[htk,List.map_append]at hx
    simpa[lk]using hx
  have hkp:=kp3 (X:=⟨(bn.n,[dI 119])::(bv.n,[fv v])::(b8.n,[.acc lo.n pre.length])::(b7.n,[.sl 1 false (((qk at_).drop pre.length).map dI)])::T.box,(lo.n,.arr 1 (((bf v at_).take pre.length).map fv))::(r.n,.tl 1 ((qk at_).map dI))::T.acc⟩) (T:=U) (T':=⟨up (up U.box b8.n [.acc lo.n (pre.length+1)]) b7.n [.sl 1 false (((qk at_).drop (pre.length+1)).map dI)],up U.acc lo.n (.arr 1 (((bf v at_).take pre.length).map fv++[fv PK]))⟩) (b:=b8.n) (c:=b7.n) (l:=lo.n) (by simp[lk,n1,n4]) (by simp[lk,n2,n5,n6]) (by simp[lk]) (hT _ _) (hA _)
  (refine @ab _ ?_;refine fc @t8 @tl @t7 ?_)
  rw[em,et]
  exact⟨l4 t7,by omega,l4 t7,rfl,by omega,by omega,l4 t7,l4 (by show lk (up U.box b8.n _) b7.n=_;rw[aI n6];exact t7),hfin,hkp⟩
 ·rw[Ce,List.take_of_length_le (by omega)]
  have hbs:∀(c:Nat) x,lk T.box c=some x→b7.n≠c∧b8.n≠c∧bv.n≠c∧bn.n≠c:=fun c x hx=>by
   have m7:=fm b7 hx
   have m8:=fm b8 (re b7 [.acc r.n (at_.length-1+1)] hx)
   have mv:=fm bv (c:=c) (x:=x) (by simp[lk,m7,m8,hx])
   exact⟨m7,m8,mv,fm bn (c:=c) (x:=x) (by simp[lk,m7,m8,mv,hx])⟩
  have u1:lk ((bn.n,[dI 119])::(bv.n,[fv v])::(b8.n,[.acc lo.n at_.length])::(b7.n,[.sl 1 false (((qk at_).drop at_.length).map dI)])::T.box) b8.n=some [.acc lo.n at_.length]:=by simp[lk,n1,n4]
  have u2:∀c x,lk T.box c=some x→lk ((bn.n,[dI 119])::(bv.n,[fv v])::(b8.n,[.acc lo.n at_.length])::(b7.n,[.sl 1 false (((qk at_).drop at_.length).map dI)])::T.box) c=some x:=fun c x hx=>by
   obtain⟨q1,q2,q3,q4⟩:=hbs c x hx
   simp[lk,q1,q2,q3,q4,hx]
  generalize ((bn.n,[dI 119])::(bv.n,[fv v])::(b8.n,[.acc lo.n at_.length])::(b7.n,[.sl 1 false (((qk at_).drop at_.length).map dI)])::T.box)=B at*
  have v1:=u2 _ _ tb1
  have v2:=u2 _ _ tb2
  have n12:¬b2.n=b1.n:=fm b2 (x:=[.sl 0 true []]) (by simp[lk])
  refine MA b8.n 0 (l:=lo.n) (s:=1) (xs:=(bf v at_).map fv) (ds:=[.acc lo.n at_.length]) u1 (by rw[List.length_map,hcl];rfl) (by simp[lk]) ?_
  have e0:[DV.acc lo.n at_.length].set 0 (.sl 1 false ((bf v at_).map fv))=[.sl 1 false ((bf v at_).map fv)]:=rfl
  rw[e0]
  have hA2:∀c x,lk T.acc c=some x→lk (up ((lo.n,.arr 1 ((bf v at_).map fv))::(r.n,.tl 1 ((qk at_).map dI))::T.acc) lo.n (.tl 1 ((bf v at_).map fv))) c=some x:=fun c x hx=>by
   have q1:=fm r hx
   have q2:=fm lo (c:=c) (x:=x) (by simp[lk,q1,hx])
   rw[aI q2]
   simp[lk,q1,q2,hx]
  have m1:=(hbs _ _ tb1).2.1
  have m2:=(hbs _ _ tb2).2.1
  have w1:lk (up B b8.n [.sl 1 false ((bf v at_).map fv)]) b1.n=some [.sl 0 true []]:=by rw[aI m1];exact v1
  have w2:lk (up B b8.n [.sl 1 false ((bf v at_).map fv)]) b2.n=some [dI 0]:=by rw[aI m2];exact v2
  have w8:lk (up B b8.n [.sl 1 false ((bf v at_).map fv)]) b8.n=some [.sl 1 false ((bf v at_).map fv)]:=by rw[aw,u1];rfl
  have u3:∀c x,lk S.box c=some x→lk (up B b8.n [.sl 1 false ((bf v at_).map fv)]) c=some x:=fun c x hx=>by
   have q:=hST.box c x hx
   rw[aI (hbs c x q).2.1]
   exact u2 c x q
  refine jx [] [] mx (by kernel_rfl) ?_
  simp only[]
  generalize up B b8.n [.sl 1 false ((bf v at_).map fv)]=B2 at*
  generalize up ((lo.n,.arr 1 ((bf v at_).map fv))::(r.n,.tl 1 ((qk at_).map dI))::T.acc) lo.n (.tl 1 ((bf v at_).map fv))=A2 at*
  have hH:∀u w,Has S ⟨up (up B2 b1.n u) b2.n w,A2⟩:=fun u w=>⟨fun c x hx=>by
   show lk (up (up B2 b1.n u) b2.n w) c=_
   rw[aI (fm b2 (re b1 _ hx)),aI (fm b1 hx)]
   exact u3 c x hx,fun c x hx=>hA2 c x (hST.acc c x hx)⟩
  (refine @ab _ ?_;refine CV @w8 @w1 @w2 @n12 ?_)
  exact hH _ _
theorem WS(w0:W0)(hg:fE w0)(v:ByteArray)(at_:List Int)(S:St)(hv:v.size≤400)(hn:need (v.size:Int)=at_.length)(h0:at_≠[])(hr:∀x,x∈at_→2≤x∧x≤999)(hd:at_.Nodup):
 aa Tryz.prog w0 259 [dS v,dL at_] S (fun d S'=>d= .bI [.sl 1 false ((bf v at_).map fv),dI 0]∧S'=S):=
 Gz (K:=fun d=>d= .bI [.sl 1 false ((bf v at_).map fv),dI 0]) (Wl w0 hg v at_ S hv hn h0 hr hd)
@[go_sem] def nH (w:Int×ByteArray):DV:= .agg [dI w.1,fv w.2]
def gl(S:St)(bs lw:Nat)(left:List Int)(ws:List (Int×ByteArray)):St:=⟨up S.box bs [.acc lw ws.length,.sl 1 false (left.map dI)],up S.acc lw (.arr 2 (ws.map nH))⟩
structure mb(S:St)(bs lw:Nat)(left:List Int)(ws:List (Int×ByteArray)):Prop where
 box:lk S.box bs=some [.acc lw ws.length,.sl 1 false (left.map dI)]
 acc:lk S.acc lw=some (.arr 2 (ws.map nH))
theorem oO{S:St}{bs lw:Nat}{left:List Int}{ws:List (Int×ByteArray)}(h:mb S bs lw left ws):gl S bs lw left ws=S:=by
 unfold gl
 rw[dv h.box,dv h.acc]
theorem Mi(w0:W0)(bs lw:Nat)(left:List Int)(ws:List (Int×ByteArray))(n:Nat)(S:St)(h:mb S bs lw left ws)(hn:n≤left.length)(hl:left.length≤1048576):
 aa Tryz.prog w0 251 [.v (.pointer (some ⟨bs,0,none⟩)),dI n] S (fun d S'=>d=dL (left.take n)∧S'=gl S bs lw (left.drop n) ws):=by
 have hb:=h.box
 have ha:=h.acc
 refine wm [] mx Tryz.func251 rfl rfl (by kernel_rfl) ?_;(refine @ab _ ?_;refine fc @Tryz.ntmps251 @hb @ha ?_)
 refine⟨hn,hn,⟨_,_,Wk.full _ _ _,.refl _,rfl,?_⟩⟩
 unfold gl
 rw[dv ha]
theorem Th(w0:W0)(hg:fE w0)(bs lw:Nat)(d:ByteArray)(ps:List Int)(q:LS)(S:St)(h:mb S bs lw q.1 q.2)(hd:d.size≤400)(hp:ps.length≤1048576)(hq:q.1.length≤65536)(hw:q.2.length≤65536)(hn:need (d.size:Int)≤q.1.length∨ps≠[])(hr:∀x,x∈q.1→2≤x∧x≤999)(hu:q.1.Nodup):
 aa Tryz.prog w0 250 [.v (.pointer (some ⟨bs,0,none⟩)),.agg [dS d,dL ps]] S (fun e S'=>e= .agg [dS d,dL (eW d ps q).1]∧S'=gl S bs lw (eW d ps q).2.1 (eW d ps q).2.2):=by
 obtain⟨left,ws⟩:=q
 simp only at h hq hw hn hr hu
 have hb:=h.box
 have ha:=h.acc
 have q1:need (d.size:Int)=0→eW d ps (left,ws)=(ps,(left,ws)):=fun e=>by unfold eW;rw[if_pos (.inl e)]
 have q2:ps≠[]→eW d ps (left,ws)=(ps,(left,ws)):=fun e=>by unfold eW;rw[if_pos (.inr e)]
 have q3:need (d.size:Int)≠0→ps=[]→eW d ps (left,ws)=(left.take (need (d.size:Int)),(left.drop (need (d.size:Int)),ws++(left.take (need (d.size:Int))).zip (bf d (left.take (need (d.size:Int)))))):=fun e f=>by unfold eW;rw[if_neg (by simp[e,f])]
 generalize eW d ps (left,ws)=R at*
 refine wm [5,9] mx Tryz.func250 rfl rfl (by kernel_rfl) ?_;(refine @ab _ ?_;refine ao @Tryz.ntmps250 ?_)
 intro b b1
 refine aq (zS w0 _ _) ?_
 (refine @ab _ ?_;refine au ?_)
 refine⟨fun hz=>?_,fun hz=>⟨fun hp0=>?_,fun hp0=>?_⟩⟩
 ·rw[q1 (by omega)]
  refine⟨_,_,.refl _,?_,rfl,rfl⟩
  rw[oO h]
  exact⟨(List.sublist_cons_self _ _).trans (List.sublist_cons_self _ _),List.Sublist.refl _⟩
 ·rw[q2 fun e=>by rw[e]at hp0;simp at hp0]
  refine⟨_,_,.refl _,?_,rfl,rfl⟩
  rw[oO h]
  exact⟨(List.sublist_cons_self _ _).trans (List.sublist_cons_self _ _),List.Sublist.refl _⟩
 ·have hps:ps=[]:=List.eq_nil_of_length_eq_zero (by omega)
  have hne:need (d.size:Int)≤left.length:=hn.resolve_right fun e=>e hps
  rw[q3 (by omega) hps]
  have hI:mb (⟨(b1.n,[dS ByteArray.empty,.sl 0 true []])::(b.n,[dS d,.sl 1 false (ps.map dI)])::S.box,S.acc⟩:St) bs lw left ws:=⟨by(refine @ab _ ?_;exact ma @hb),ha⟩
  refine bA (Mi w0 bs lw left ws (need (d.size:Int)) _ hI hne (by omega)) ?_
  rintro e S' ⟨rfl,rfl⟩
  have hTl:(left.take (need (d.size:Int))).length=need (d.size:Int):=by rw[List.length_take];omega
  have hT0:left.take (need (d.size:Int))≠[]:=fun e=>by rw[e]at hTl;simp at hTl;omega
  have hTr:∀x,x∈left.take (need (d.size:Int))→2≤x∧x≤999:=fun x hx=>hr x (List.mem_of_mem_take hx)
  have hTu:(left.take (need (d.size:Int))).Nodup:=hu.sublist (List.take_sublist _ _)
  have hput:=fun S=>WS w0 hg d (left.take (need (d.size:Int))) S hd hTl.symm hT0 hTr hTu
  have hcl:(bf d (left.take (need (d.size:Int)))).length=(left.take (need (d.size:Int))).length:=by unfold bf;rw[List.length_map,List.length_range]
  have hnl:=wO (d.size:Int)
  simp(maxDischargeDepth:=12) (maxSteps:=1000000) -implicitDefEqProofs only[go_sem,Nat.reduceAdd,Nat.reduceSub,Nat.reduceMul,Nat.reduceLeDiff,Nat.reduceEqDiff,Nat.reduceGT,Nat.reduceBEq,reduceCtorEq,↓reduceIte,Int.reduceToNat,Int.reduceLE,Int.reduceLT,Int.reduceNe,Int.reduceEq,gl,hb]
  generalize left.take (need (d.size:Int))=T at*
  generalize left.drop (need (d.size:Int))=L at*
  generalize need (d.size:Int)=nd at*
  generalize hC:bf d T=Ch at*
  refine jx [9] [] mx (by kernel_rfl) ?_
  (refine @ab _ ?_;refine ao @hb ?_)
  refine aq (hput _) ?_
  (refine @ab _ ?_;refine ao @hb ?_)
  refine aE [9] T.length [0,3,4,35,36,37] (fun k=>[(37,dI k)]) (fun k=>⟨(b1.n,[dS ByteArray.empty,.sl 0 true []])::(b.n,[dS d,.sl 1 false (T.map dI)])::up S.box bs [.acc lw (ws.length+k),.sl 1 false (L.map dI)],up S.acc lw (.arr 2 ((ws++(T.zip Ch).take k).map nH))⟩) (fun _=>True) mx (by kernel_rfl) ?_ ?_
  ·(refine @ab _ ?_;refine au ?_)
   exact .refl _
  ·intro k hk' _
   (refine @ab _ ?_;refine ao @hb ?_)
   refine⟨fun hlt=>?_,fun hge=>?_⟩
   ·refine⟨by omega,fun c hc=>?_⟩
    refine Y.l9 [] [13,16] [0,1,2,3,5,7,10,4,6,8,9,11,12,13,14,15,16] mx (by kernel_rfl) ?_
    have hm8:maxLen=9223372036854775807:=rfl
    have hzl:((T.zip Ch).take k).length=k:=by rw[List.length_take,List.length_zip];omega
    have hwl:(ws++(T.zip Ch).take k).length=ws.length+k:=by rw[List.length_append,hzl]
    have e:lk (up S.box bs [.acc lw (ws.length+k),.sl 1 false (L.map dI)]) bs=some [.acc lw (ws.length+k),.sl 1 false (L.map dI)]:=by rw[aw,hb];rfl
    have e2:lk (up S.acc lw (.arr 2 ((ws++(T.zip Ch).take k).map nH))) lw=some (.arr 2 ((ws++(T.zip Ch).take k).map nH)):=by rw[aw,ha];rfl
    have em:min k (T.zip Ch).length=k:=by rw[List.length_zip];omega
    (refine @ab _ ?_;refine fc @hb @e @e2 ?_)
    rw[em]
    refine⟨by omega,fun x hx=>⟨rfl,by omega,by omega,by omega,by rw[bw (by omega) (by omega)];rfl,?_⟩⟩
    have hzk:(T.zip Ch)[k]? =some (x,c):=List.getElem?_zip_eq_some.2 ⟨hx,hc⟩
    have hz1:(T.zip Ch).take (k+1)=(T.zip Ch).take k++[(x,c)]:=by rw[List.take_add_one,hzk];rfl
    rw[hz1,←List.append_assoc,List.map_append]
    exact .refl _
   ·have hkl:k=T.length:=by omega
    have hzt:(T.zip Ch).take k=T.zip Ch:=List.take_of_length_le (by rw[List.length_zip];omega)
    rw[hzt]
    refine⟨_,_,.refl _,?_,rfl,rfl⟩
    have hwl:(ws++T.zip Ch).length=ws.length+k:=by rw[List.length_append,List.length_zip];omega
    unfold gl
    rw[hwl]
    exact⟨(List.sublist_cons_self _ _).trans (List.sublist_cons_self _ _),List.Sublist.refl _⟩
theorem tx{d:Nat}{n:N}{q:LS}(hg:Good d n)(hla:kG n)(hs:(ae n).sum≤122)(h2:n.leaf=true∨2≤n.l.length)(hf:dm n≤q.1.length)(hr:∀x,x∈q.1→2≤x∧x≤999)(hp:∀p,p∈cf n→2≤p∧p≤999)(h0:¬(n.an≠0∨(n.leaf=true∧n.l=[]))):Wy n.leaf (ah n.leaf n.l q).1:=by
 have hn:=ax hg
 have hz:∀p,p∈q.1→p≠0:=fun p hp=>by have:=hr p hp;omega
 have hlen:=bW n.leaf n.l q
 have e1:=dZ n q
 have e2:=Cs n q
 rw[if_neg h0]at e2
 have hne:n.l≠[]:=fun e=>by
  cases d with
  |zero=>exact h0 (.inr ⟨hg.1,e⟩)
  |succ d=>exact hg.2.1 e
 have:=Pr (oX q hg) (tn hn hla hf hz) (PJ hn hf hz hp hr) (by rw[nw];exact hs) (by rw[e2];intro e;rw[e]at hlen;exact hne (List.eq_nil_of_length_eq_zero hlen.symm)) (by rw[e1,e2,hlen];exact h2)
 rw[e1,e2]at this
 exact this
theorem AA(w0:W0)(n:N)(S:St)(hn:n.leaf=false→∀c,c∈n.l→∃k,c.kid=[k])(hl:n.l.length≤1048576):
 aa Tryz.prog w0 253 [eT n] S (fun d S'=>d= .sl 5 false ((n.l.map (dV n.leaf)).map vf)∧S'=S):=by
 have hm8:maxLen=9223372036854775807:=rfl
 cases hlf:n.leaf with
 |true=>
  rw[bQ hlf]
  refine ba [2,10] mx Tryz.func253 rfl rfl (by kernel_rfl) ?_;(refine @ab _ ?_;refine ao @Tryz.ntmps253 ?_)
  intro b1
  refine o7 3 5 rfl (by omega) fun lp=>?_
  refine jx [10] [] mx (by kernel_rfl) ?_
  (refine @ab _ ?_;refine au ?_)
  refine aE [10] n.l.length [1,3,8,9,10] (fun k=>[(3,.acc lp.n k),(10,dI k)]) (fun k=>⟨(b1.n,[dI n.an,dB true,.sl 1 false (n.l.map fun c=>dS c.key),.sl 2 false (n.l.map fk),.sl 5 false []])::S.box,(lp.n,.arr 5 (((n.l.take k).map (dV true)).map vf))::S.acc⟩) (fun _=>True) mx (by kernel_rfl) ?_ ?_
  ·(refine @ab _ ?_;exact aQ)
  ·intro k hk' _
   have hml:(n.l.take k).length=k:=by rw[List.length_take];omega
   have e1:IntKind.i64.wrap ((k:Int)+1)=((k+1:Nat):Int):=by rw[bw (by omega) (by omega)];omega
   (refine @ab _ ?_;refine aY @hml @e1 ?_)
   refine⟨fun hlt=>⟨hlt,fun a ha b2=>⟨hlt,fun a2 ha2=>?_⟩⟩,fun hge=>?_⟩
   ·cases cM ha ha2
    have htk:((n.l.take (k+1)).map (dV true)).map vf=((n.l.take k).map (dV true)).map vf++[vf (dV true a)]:=by
     rw[List.take_add_one,ha,Option.toList_some,List.map_append,List.map_append];rfl
    rw[htk]
    refine⟨fun hp=>?_,fun hp=>⟨hlt,fun a3 ha3=>?_⟩⟩
    ·obtain⟨x,r,hx⟩:∃x r,a.aj=x::r:=by
      cases q:a.aj with
      |nil=>rw[q]at hp;simp at hp
      |cons x r=>exact⟨x,r,rfl⟩
     have he:dV true a=⟨a.key,aX,true,a.data.size,x⟩:=by unfold dV;rw[if_pos rfl,if_neg (by rw[hx];simp),hx];rfl
     rw[he]
     refine Y.l9 [] [] [0,2,7,9,1,3,4,5,6,8,10,11,12,13,14,15,16,17] mx (by kernel_rfl) ?_
     have em:min k n.l.length=k:=by omega
     (refine @ab _ ?_;refine aY @hml @em ?_)
     refine⟨hlt,fun c1 h1=>⟨hlt,fun c2 h2=>?_⟩⟩
     cases cM ha h1
     cases cM ha h2
     refine⟨by omega,fun y hy=>?_⟩
     rw[hx]at hy
     cases hy
     exact⟨by omega,by omega,hlt,e1,.bz (.refl _)⟩
    ·cases cM ha ha3
     have he:dV true a=⟨a.key,a.data,false,0,0⟩:=by unfold dV;rw[if_pos rfl,if_pos (List.eq_nil_of_length_eq_zero (by omega))]
     rw[he]
     exact⟨by omega,by omega,hlt,.bz (.refl _)⟩
   ·rw[List.take_of_length_le (by omega)]
    exact .refl _
 |false=>
  rw[eo hlf (hn hlf)]
  unfold yG
  refine ba [2] mx Tryz.func253 rfl rfl (by kernel_rfl) ?_;(refine @ab _ ?_;refine ao @Tryz.ntmps253 ?_)
  intro b1
  refine o7 3 5 rfl (by omega) fun lp=>?_
  refine jx [] [] mx (by kernel_rfl) ?_
  (refine @ab _ ?_;refine au ?_)
  refine aE [] n.l.length [1,3,8,9,10] (fun k=>[(3,.acc lp.n k),(10,dI k)]) (fun k=>⟨(b1.n,[dI n.an,dB false,.sl 1 false (n.l.map fun c=>dS c.key),.sl 2 false [],.sl 5 false (dK n.l)])::S.box,(lp.n,.arr 5 (((n.l.take k).map (dV false)).map vf))::S.acc⟩) (fun _=>True) mx (by kernel_rfl) ?_ ?_
  ·(refine @ab _ ?_;exact aQ)
  ·intro k hk' _
   have hml:(n.l.take k).length=k:=by rw[List.length_take];omega
   have e1:IntKind.i64.wrap ((k:Int)+1)=((k+1:Nat):Int):=by rw[bw (by omega) (by omega)];omega
   (refine @ab _ ?_;refine aY @hml @e1 ?_)
   refine⟨fun hlt=>⟨hlt,fun a ha b2=>⟨hlt,fun a2 ha2=>?_⟩⟩,fun hge=>?_⟩
   ·cases cM ha ha2
    have htk:((n.l.take (k+1)).map (dV false)).map vf=((n.l.take k).map (dV false)).map vf++[vf (dV false a)]:=by
     rw[List.take_add_one,ha,Option.toList_some,List.map_append,List.map_append];rfl
    rw[htk]
    have he:dV false a=⟨a.key,aX,false,0,(ay a).an⟩:=by unfold dV;rfl
    rw[he]
    exact⟨by omega,by omega,hlt,.bz (.refl _)⟩
   ·rw[List.take_of_length_le (by omega)]
    exact .refl _
theorem lF{P:Program}{w0:W0}{f:FuncId}{args:List DV}{S X:St}{r:DV}(h1:aa P w0 f args S (fun d S'=>oD S' d fun d S''=>Wk d r∧Aml.Sub X S'')):aa P w0 f args S (fun d S'=>d=r∧S'=X):=by
 intro g vs w k1 k2
 refine(h1 g vs w k1 k2).mono ?_
 rintro e w' ⟨v,g',d,S',q1,q2,q3,q4,q5⟩
 obtain⟨g2,d',S2,p1,p2,p3,p4,p5⟩:=rV q3 q4 q5
 exact⟨v,g2,r,X,q1,q2.trans p1,p2.forget p5.box p5.acc,p4 _ _ p3,rfl,rfl⟩
def mN(b:Bool)(l:List C)(q:LS)(k:Nat):List C:=(ah b (l.take k) q).1++l.drop k
theorem yL(b:Bool)(l:List C)(q:LS){k:Nat}(h:k≤l.length):(mN b l q k).length=l.length:=by
 unfold mN
 rw[List.length_append,bW,List.length_take,List.length_drop]
 omega
theorem wq(b:Bool)(l:List C)(q:LS):mN b l q 0=l:=by unfold mN;simp[ah]
theorem zw(b:Bool)(l:List C)(q:LS):mN b l q l.length=(ah b l q).1:=by unfold mN;simp
theorem Be{b:Bool}{l:List C}{q:LS}{k:Nat}{c:C}(h:l[k]? =some c):(mN b l q k)[k]? =some c:=by
 have hk:=(List.getElem?_eq_some_iff.1 h).1
 unfold mN
 rw[List.getElem?_append_right (by rw[bW,List.length_take];omega),bW,List.length_take,Nat.min_eq_left (by omega),Nat.sub_self,List.getElem?_drop]
 exact h
theorem AE{b:Bool}{l:List C}{q:LS}{k:Nat}{c:C}(h:l[k]? =some c):(mN b l q k).set k (eP b c (ah b (l.take k) q).2).1=mN b l q (k+1):=by
 have hk:=(List.getElem?_eq_some_iff.1 h).1
 unfold mN
 rw[List.set_append_right _ _ (by rw[bW,List.length_take];omega),bW,List.length_take,Nat.min_eq_left (by omega),Nat.sub_self,oa h]
 rw[List.drop_eq_getElem_cons hk,show l[k]=c from Option.some.inj ((List.getElem?_eq_getElem hk).symm.trans h)]
 simp
theorem Sl(w0:W0)(hg:fE w0)(bs lw:Nat)(l:List C)(q:LS)(S:St)(h:mb S bs lw q.1 q.2)(hl:l.length≤1048576)
 (hv:∀k c,l[k]? =some c→∀S,mb S bs lw (ah true (l.take k) q).2.1 (ah true (l.take k) q).2.2→aa Tryz.prog w0 250 [.v (.pointer (some ⟨bs,0,none⟩)),.agg [dS c.data,dL c.aj]] S (fun e S'=>e= .agg [dS c.data,dL (eW c.data c.aj (ah true (l.take k) q).2).1]∧S'=gl S bs lw (ah true (l.take (k+1)) q).2.1 (ah true (l.take (k+1)) q).2.2)):
 aa Tryz.prog w0 249 [dR 2 (l.map fk),.v (.func (.func 250) #[.pointer (some ⟨bs,0,none⟩)] #[])] S (fun d S'=>∃b:FN S.acc,d= .acc b.n l.length∧S'=⟨(gl S bs lw (ah true l q).2.1 (ah true l q).2.2).box,(b.n,.arr 2 ((ah true l q).1.map fk))::(gl S bs lw (ah true l q).2.1 (ah true l q).2.2).acc⟩):=by
 refine wm [] mx Tryz.func249 rfl rfl (by kernel_rfl) ?_;(refine @ab _ ?_;refine ao @Tryz.ntmps249 ?_)
 refine bA (yf w0 (l.map fk) _ (by rw[List.length_map];exact hl)) ?_
 rintro _ _ ⟨lc,rfl,rfl⟩
 (refine @ab _ ?_;refine au ?_)
 refine aE [] l.length [1,5,10,11,12] (fun k=>[(12,dI k)]) (fun k=>⟨up S.box bs [.acc lw (ah true (l.take k) q).2.2.length,.sl 1 false ((ah true (l.take k) q).2.1.map dI)],(lc.n,.arr 2 ((mN true l q k).map fk))::up S.acc lw (.arr 2 ((ah true (l.take k) q).2.2.map nH))⟩) (fun _=>True) mx (by kernel_rfl) ?_ ?_
 ·have h1:=dv h.box
  have h2:=dv h.acc
  have h3:(ah true (l.take 0) q)=([],q):=by simp[ah]
  rw[h3]
  (refine @ab _ ?_;exact WM @h1 @h2 @wq)
 ·intro k hk _
  have hml:=yL true l q hk
  have hb:=h.box
  have ha:=h.acc
  (refine @ab _ ?_;refine ao @hml ?_)
  refine⟨fun hlt=>⟨hlt,hlt,fun c hc b2=>?_⟩,fun hge=>?_⟩
  ·have hk1:∃c0,l[k]? =some c0:=⟨_,List.getElem?_eq_getElem hlt⟩
   obtain⟨c0,hc0⟩:=hk1
   cases cM (Be (b:=true) (q:=q) hc0) hc
   have hs:=AE (b:=true) (q:=q) hc0
   rw[bX]at hs
   have e1:lk (up S.box bs [.acc lw (ah true (l.take k) q).2.2.length,.sl 1 false ((ah true (l.take k) q).2.1.map dI)]) bs=some [.acc lw (ah true (l.take k) q).2.2.length,.sl 1 false ((ah true (l.take k) q).2.1.map dI)]:=by rw[aw,hb];rfl
   have e2:lk (up S.acc lw (.arr 2 ((ah true (l.take k) q).2.2.map nH))) lw=some (.arr 2 ((ah true (l.take k) q).2.2.map nH)):=by rw[aw,ha];rfl
   refine bA (hv k c hc0 _ ⟨by(refine @ab _ ?_;exact qP @hb @e1),by(refine @ab _ ?_;exact qP @ha @e2)⟩) ?_
   rintro _ _ ⟨rfl,rfl⟩
   simp(maxDischargeDepth:=12) (maxSteps:=1000000) -implicitDefEqProofs only[go_sem,Nat.reduceAdd,Nat.reduceSub,Nat.reduceMul,Nat.reduceLeDiff,Nat.reduceEqDiff,Nat.reduceGT,Nat.reduceBEq,reduceCtorEq,↓reduceIte,Int.reduceToNat,Int.reduceLE,Int.reduceLT,Int.reduceNe,Int.reduceEq,gl,hb,ha,rf,hml]
   have dD:((mN true l q k).map fk).set k (.agg [dS c.data,dL (eW c.data c.aj (ah true (l.take k) q).2).1])=(mN true l q (k+1)).map fk:=by
    rw[←hs,List.map_set];rfl
   rw[←dD]
   exact⟨hlt,hlt,fun _ _=>⟨hlt,bl k (by omega),.bz (.refl _)⟩⟩
  ·have:k=l.length:=by omega
   subst this
   rw[zw,List.take_length]
   exact⟨_,_,.refl _,.refl _,lc,rfl,rfl⟩
theorem Vd(w0:W0)(hg:fE w0)(bs lw:Nat)(l:List C)(q:LS)(S:St)(h:mb S bs lw q.1 q.2)(hl:l.length≤1048576)
 (hv:∀k c,l[k]? =some c→∀S,mb S bs lw (ah true (l.take k) q).2.1 (ah true (l.take k) q).2.2→aa Tryz.prog w0 250 [.v (.pointer (some ⟨bs,0,none⟩)),.agg [dS c.data,dL c.aj]] S (fun e S'=>e= .agg [dS c.data,dL (eW c.data c.aj (ah true (l.take k) q).2).1]∧S'=gl S bs lw (ah true (l.take (k+1)) q).2.1 (ah true (l.take (k+1)) q).2.2)):
 aa Tryz.prog w0 249 [dR 2 (l.map fk),.v (.func (.func 250) #[.pointer (some ⟨bs,0,none⟩)] #[])] S (fun d S'=>d=dR 2 ((ah true l q).1.map fk)∧S'=gl S bs lw (ah true l q).2.1 (ah true l q).2.2):=by
 refine lF (aa.mono (Sl w0 hg bs lw l q S h hl hv) ?_)
 rintro d S' ⟨b,rfl,rfl⟩
 have:=bW true l q
 (refine @ab _ ?_;exact ma @this)
theorem Un(w0:W0)(hg:fE w0)(bs lw:Nat)(l:List C)(q:LS)(S:St)(h:mb S bs lw q.1 q.2)(hl:l.length≤1048576)(hk1:∀c,c∈l→∃k,c.kid=[k])
 (hv:∀k c,l[k]? =some c→∀S,mb S bs lw (ah false (l.take k) q).2.1 (ah false (l.take k) q).2.2→aa Tryz.prog w0 228 [.v (.pointer (some ⟨bs,0,none⟩)),eT (ay c)] S (fun e S'=>e=eT (bk (ay c) (ah false (l.take k) q).2).1∧S'=gl S bs lw (ah false (l.take (k+1)) q).2.1 (ah false (l.take (k+1)) q).2.2)):
 aa Tryz.prog w0 248 [dR 5 (dK l),.v (.func (.func 228) #[.pointer (some ⟨bs,0,none⟩)] #[])] S (fun d S'=>∃b:FN S.acc,d= .acc b.n l.length∧S'=⟨(gl S bs lw (ah false l q).2.1 (ah false l q).2.2).box,(b.n,.arr 5 (dK (ah false l q).1))::(gl S bs lw (ah false l q).2.1 (ah false l q).2.2).acc⟩):=by
 refine wm [] mx Tryz.func248 rfl rfl (by kernel_rfl) ?_;(refine @ab _ ?_;refine ao @Tryz.ntmps248 ?_)
 refine bA (xr w0 (dK l) _ (by rw[iD];exact hl)) ?_
 rintro _ _ ⟨lc,rfl,rfl⟩
 (refine @ab _ ?_;refine au ?_)
 refine aE [] l.length [1,5,10,11,12] (fun k=>[(12,dI k)]) (fun k=>⟨up S.box bs [.acc lw (ah false (l.take k) q).2.2.length,.sl 1 false ((ah false (l.take k) q).2.1.map dI)],(lc.n,.arr 5 (dK (mN false l q k)))::up S.acc lw (.arr 2 ((ah false (l.take k) q).2.2.map nH))⟩) (fun _=>True) mx (by kernel_rfl) ?_ ?_
 ·have h1:=dv h.box
  have h2:=dv h.acc
  have h3:(ah false (l.take 0) q)=([],q):=by simp[ah]
  rw[h3]
  (refine @ab _ ?_;exact WM @h1 @h2 @wq)
 ·intro k hk _
  have hml:=yL false l q hk
  have hb:=h.box
  have ha:=h.acc
  (refine @ab _ ?_;refine ao @hml ?_)
  refine⟨fun hlt=>⟨hlt,hlt,fun c hc b2=>?_⟩,fun hge=>?_⟩
  ·obtain⟨c0,hc0⟩:∃c0,l[k]? =some c0:=⟨_,List.getElem?_eq_getElem hlt⟩
   cases cM (Be (b:=false) (q:=q) hc0) hc
   have hs:=AE (b:=false) (q:=q) hc0
   have e1:lk (up S.box bs [.acc lw (ah false (l.take k) q).2.2.length,.sl 1 false ((ah false (l.take k) q).2.1.map dI)]) bs=some [.acc lw (ah false (l.take k) q).2.2.length,.sl 1 false ((ah false (l.take k) q).2.1.map dI)]:=by rw[aw,hb];rfl
   have e2:lk (up S.acc lw (.arr 2 ((ah false (l.take k) q).2.2.map nH))) lw=some (.arr 2 ((ah false (l.take k) q).2.2.map nH)):=by rw[aw,ha];rfl
   refine bA (hv k c hc0 _ ⟨by(refine @ab _ ?_;exact qP @hb @e1),by(refine @ab _ ?_;exact qP @ha @e2)⟩) ?_
   rintro _ _ ⟨rfl,rfl⟩
   have dD:(dK (mN false l q k)).set k (eT (bk (ay c) (ah false (l.take k) q).2).1)=dK (mN false l q (k+1)):=by
    obtain⟨kid,hkid⟩:=hk1 c (List.mem_of_getElem? hc0)
    rw[←hs,dc hkid,bq hkid]
    unfold dK
    rw[List.map_set]
    congr 1
    rw[bq rfl,jM]
   rw[←dD]
   simp(maxDischargeDepth:=12) (maxSteps:=1000000) -implicitDefEqProofs only[go_sem,Nat.reduceAdd,Nat.reduceSub,Nat.reduceMul,Nat.reduceLeDiff,Nat.reduceEqDiff,Nat.reduceGT,Nat.reduceBEq,reduceCtorEq,↓reduceIte,Int.reduceToNat,Int.reduceLE,Int.reduceLT,Int.reduceNe,Int.reduceEq,gl,hb,ha,rf,hml]
   exact⟨hlt,hlt,fun _ _=>⟨hlt,bl k (by omega)⟩⟩
  ·have:k=l.length:=by omega
   subst this
   rw[zw,List.take_length]
   exact⟨_,_,.refl _,.refl _,lc,rfl,rfl⟩
theorem V6(w0:W0)(hg:fE w0)(bs lw:Nat)(l:List C)(q:LS)(S:St)(h:mb S bs lw q.1 q.2)(hl:l.length≤1048576)(hk1:∀c,c∈l→∃k,c.kid=[k])
 (hv:∀k c,l[k]? =some c→∀S,mb S bs lw (ah false (l.take k) q).2.1 (ah false (l.take k) q).2.2→aa Tryz.prog w0 228 [.v (.pointer (some ⟨bs,0,none⟩)),eT (ay c)] S (fun e S'=>e=eT (bk (ay c) (ah false (l.take k) q).2).1∧S'=gl S bs lw (ah false (l.take (k+1)) q).2.1 (ah false (l.take (k+1)) q).2.2)):
 aa Tryz.prog w0 248 [dR 5 (dK l),.v (.func (.func 228) #[.pointer (some ⟨bs,0,none⟩)] #[])] S (fun d S'=>d=dR 5 (dK (ah false l q).1)∧S'=gl S bs lw (ah false l q).2.1 (ah false l q).2.2):=by
 refine lF (aa.mono (Un w0 hg bs lw l q S h hl hk1 hv) ?_)
 rintro d S' ⟨b,rfl,rfl⟩
 have:=bW false l q
 (refine @ab _ ?_;exact ma @this)
theorem Tm(w0:W0)(bs lw:Nat)(left:List Int)(ws:List (Int×ByteArray))(S:St)(h:mb S bs lw left ws):aa Tryz.prog w0 249 [dR 2 [],.v (.func (.func 250) #[.pointer (some ⟨bs,0,none⟩)] #[])] S (fun d S'=>d=dR 2 []∧S'=S):=by
 refine lF (aa.mono (K:=fun d S'=>∃b:FN S.acc,d= .acc b.n 0∧S'=⟨S.box,(b.n,.arr 2 [])::S.acc⟩) ?_ ?_)
 ·refine wm [] mx Tryz.func249 rfl rfl (by kernel_rfl) ?_;(refine @ab _ ?_;refine ao @Tryz.ntmps249 ?_)
  refine bA (yf w0 [] _ (by decide)) ?_
  rintro _ _ ⟨lc,rfl,rfl⟩
  (refine @ab _ ?_;refine au ?_)
  refine aE [] 0 [1,5,10,11,12] (fun k=>[(12,dI k)]) (fun k=>⟨S.box,(lc.n,.arr 2 [])::S.acc⟩) (fun _=>True) mx (by kernel_rfl) ?_ ?_
  ·(refine @ab _ ?_;exact aQ)
  ·intro k hk _
   (refine @ab _ ?_;refine au ?_)
   exact⟨fun h=>by omega,fun _=>⟨_,_,.refl _,.refl _,lc,rfl,rfl⟩⟩
 ·rintro d S' ⟨b,rfl,rfl⟩
  (refine @ab _ ?_;exact aQ)
theorem RT(w0:W0)(bs lw:Nat)(left:List Int)(ws:List (Int×ByteArray))(S:St)(h:mb S bs lw left ws):aa Tryz.prog w0 248 [dR 5 [],.v (.func (.func 228) #[.pointer (some ⟨bs,0,none⟩)] #[])] S (fun d S'=>d=dR 5 []∧S'=S):=by
 refine lF (aa.mono (K:=fun d S'=>∃b:FN S.acc,d= .acc b.n 0∧S'=⟨S.box,(b.n,.arr 5 [])::S.acc⟩) ?_ ?_)
 ·refine wm [] mx Tryz.func248 rfl rfl (by kernel_rfl) ?_;(refine @ab _ ?_;refine ao @Tryz.ntmps248 ?_)
  refine bA (xr w0 [] _ (by decide)) ?_
  rintro _ _ ⟨lc,rfl,rfl⟩
  (refine @ab _ ?_;refine au ?_)
  refine aE [] 0 [1,5,10,11,12] (fun k=>[(12,dI k)]) (fun k=>⟨S.box,(lc.n,.arr 5 [])::S.acc⟩) (fun _=>True) mx (by kernel_rfl) ?_ ?_
  ·(refine @ab _ ?_;exact aQ)
  ·intro k hk _
   (refine @ab _ ?_;refine au ?_)
   exact⟨fun h=>by omega,fun _=>⟨_,_,.refl _,.refl _,lc,rfl,rfl⟩⟩
 ·rintro d S' ⟨b,rfl,rfl⟩
  (refine @ab _ ?_;exact aQ)
theorem qF(b:Bool):∀(l:List C) (q:LS),((ah b l q).1.map fun c=>dS c.key)=l.map fun c=>dS c.key
 |[],_=>rfl
 |c::l,q=>by
  simp only[ah,List.map_cons,qF b l,(gA b c q).1]
theorem YT(w0:W0)(hgl:fE w0)(bs lw:Nat):∀(d:Nat) (n:N) (q:LS) (S:St),Good d n→kG n→mb S bs lw q.1 q.2→bh n≤131072→(ae n).sum≤122→(n.leaf=true∨2≤n.l.length)→dm n≤q.1.length→q.1.length≤1024→q.1.Nodup→(∀x,x∈q.1→2≤x∧x≤999)→(∀p,p∈cf n→2≤p∧p≤999)→q.2.length+dm n≤65536→
 aa Tryz.prog w0 228 [.v (.pointer (some ⟨bs,0,none⟩)),eT n] S (fun e S'=>e=eT (bk n q).1∧S'=gl S bs lw (bk n q).2.1 (bk n q).2.2):=by
 intro d
 induction d with
 |zero=>
  intro n q S hg hla hI ht hs h2 hf hq hu hr hp hw
  have hn:=ax hg
  have hlf:=hg.1
  have hlen:=bT n
  have hq1:=tx (q:=q) hg hla hs h2 hf hr hp
  have hq2:=dH n q
  have hq3:=eR hn
  have hlC:=qg hn
  have hwC:=Fw hn
  obtain⟨left,ws⟩:=q
  simp only at hI hf hu hr hw hq
  have hb:=hI.box
  have ha:=hI.acc
  rw[hlf]at hq1 hq2 hq3 hlC hwC
  generalize bk n (left,ws)=R at*
  rw[bQ hlf]
  refine wm [3,6] mx Tryz.func228 rfl rfl (by kernel_rfl) ?_;(refine @ab _ ?_;refine ao @Tryz.ntmps228 ?_)
  intro b b1
  have fin1:n.an≠0∨(true=true∧n.l=[])→R=(n,(left,ws)):=fun e=>by rw[hq2,if_pos e]
  refine⟨fun h0=>?_,fun h0=>⟨fun h1=>?_,fun h1=>?_⟩⟩
  ·rw[fin1 (.inl h0)]
   refine⟨_,_,.refl _,?_,(bQ hlf).symm,rfl⟩
   rw[oO hI]
   exact⟨(List.sublist_cons_self _ _).trans (List.sublist_cons_self _ _),List.Sublist.refl _⟩
  ·rw[fin1 (.inr ⟨rfl,List.eq_nil_of_length_eq_zero (by omega)⟩)]
   refine⟨_,_,.refl _,?_,(bQ hlf).symm,rfl⟩
   rw[oO hI]
   exact⟨(List.sublist_cons_self _ _).trans (List.sublist_cons_self _ _),List.Sublist.refl _⟩
  ·have h0:n.an=0:=Classical.not_not.1 h0
   have h00:¬(n.an≠0∨true=true∧n.l=[]):=fun e=>e.elim (fun e=>e h0) fun e=>h1 (by rw[e.2];rfl)
   rw[if_neg h00]at hq2
   rw[if_neg (fun e=>h00 (.inl e)),if_neg (fun e=>h00 (.inr e))]at hq3
   replace hq1:=hq1 h00
   refine L2 ⟨[(b.n,[dI n.an,dB true,.sl 1 false (n.l.map fun c=>dS c.key),.sl 2 false (n.l.map fk),.sl 5 false []])],[]⟩ [4,9] [11,13] [0,2,3,5,7,8,1,6,4,10,9,11,12,13] mx (by kernel_rfl) ?_
   (refine @ab _ ?_;refine au ?_)
   have hone:∀k c,n.l[k]? =some c→∀S,mb S bs lw (ah true (n.l.take k) (left,ws)).2.1 (ah true (n.l.take k) (left,ws)).2.2→aa Tryz.prog w0 250 [.v (.pointer (some ⟨bs,0,none⟩)),.agg [dS c.data,dL c.aj]] S (fun e S'=>e= .agg [dS c.data,dL (eW c.data c.aj (ah true (n.l.take k) (left,ws)).2).1]∧S'=gl S bs lw (ah true (n.l.take (k+1)) (left,ws)).2.1 (ah true (n.l.take (k+1)) (left,ws)).2.2):=fun k c hc T hT=>by
    have hdk:=eQ (q:=(left,ws)) fun c hc=>hlC c (List.mem_of_mem_take (i:=k) hc)
    have hwk:=kA (q:=(left,ws)) fun c hc=>hwC c (List.mem_of_mem_take (i:=k) hc)
    have htk:=ph true n.l k
    have hcm:=List.mem_of_getElem? hc
    have htk1:=ph true n.l (k+1)
    have hsu:=Bb (b:=true) hc
    have hcn:=hn.2 c hcm
    have hrc:kg true c=if c.aj=[]then need (c.data.size:Int)else 0:=rfl
    rw[oa hc,bX]
    generalize ah true (n.l.take k) (left,ws)=Pk at*
    obtain⟨Lk,lf,wk⟩:=Pk
    simp only at hdk hwk hT
    have hlfl:lf.length=left.length-gO true (n.l.take k):=by rw[hdk,List.length_drop]
    exact Th w0 hgl bs lw c.data c.aj (lf,wk) _ hT hcn.1.2.1 (by have:=hcn.1.2.2;omega) (by show lf.length≤_;omega) (by show wk.length≤_;omega) (by
     by_cases e:c.aj=[]
     ·rw[if_pos e]at hrc
      exact .inl (by show _≤lf.length;omega)
     ·exact .inr e) (fun x hx=>hr x (by rw[hdk]at hx;exact List.mem_of_mem_drop hx)) (by show lf.Nodup;rw[hdk];exact hu.sublist (List.drop_sublist _ _))
   refine⟨l4 (by(refine @ab _ ?_;exact aQ)),l4 (by(refine @ab _ ?_;exact aQ)),bA (RT w0 bs lw left ws _ ⟨by(refine @ab _ ?_;exact ma @hb),ha⟩) ?_⟩
   rintro _ _ ⟨rfl,rfl⟩
   (refine @ab _ ?_;refine au ?_)
   have heach:=fun S h=>Vd w0 hgl bs lw n.l (left,ws) S h (by omega) hone
   have hlk:(ah true n.l (left,ws)).1.length=n.l.length:=bW _ _ _
   have hdk:=eQ (q:=(left,ws)) hlC
   have hwk:=kA (q:=(left,ws)) hwC
   have hkeys:(n.l.map fun c=>dS c.key)=(ah true n.l (left,ws)).1.map fun c=>dS c.key:=(qF true n.l (left,ws)).symm
   generalize ah true n.l (left,ws)=Pk at*
   obtain⟨Lk,lf,wk⟩:=Pk
   simp only at hlk hdk hwk hq1 hq2 heach hkeys
   have hlfl:lf.length=left.length-gO true n.l:=by rw[hdk,List.length_drop]
   refine⟨l4 (by(refine @ab _ ?_;exact aQ)),bA (heach _ ⟨by(refine @ab _ ?_;exact ma @hb),ha⟩) ?_⟩
   rintro _ _ ⟨rfl,rfl⟩
   cases lf with
   |nil=>simp only[List.length_nil]at hlfl;omega
   |cons p lr=>
    simp only[List.headD_cons,List.tail_cons]at hq2
    subst hq2
    have e1:lk (up S.box bs [.acc lw wk.length,.sl 1 false ((p::lr).map dI)]) bs=some [.acc lw wk.length,.sl 1 false ((p::lr).map dI)]:=by rw[aw,hb];rfl
    have e2:lk (up S.acc lw (.arr 2 (wk.map nH))) lw=some (.arr 2 (wk.map nH)):=by rw[aw,ha];rfl
    have e3:lk (up S.box bs [.acc lw wk.length,.sl 1 false (lr.map dI)]) bs=some [.acc lw wk.length,.sl 1 false (lr.map dI)]:=by rw[aw,hb];rfl
    simp(maxDischargeDepth:=12) (maxSteps:=1000000) -implicitDefEqProofs only[go_sem,Nat.reduceAdd,Nat.reduceSub,Nat.reduceMul,Nat.reduceLeDiff,Nat.reduceEqDiff,Nat.reduceGT,Nat.reduceBEq,reduceCtorEq,↓reduceIte,Int.reduceToNat,Int.reduceLE,Int.reduceLT,Int.reduceNe,Int.reduceEq,gl,hb,ha]
    refine⟨l4 (by(refine @ab _ ?_;exact aQ)),bA (Mi w0 bs lw (p::lr) wk 1 _ ⟨by(refine @ab _ ?_;exact qP @hb @e1),by(refine @ab _ ?_;exact qP @ha @e2)⟩ (by simp) (by omega)) ?_⟩
    rintro _ _ ⟨rfl,rfl⟩
    simp(maxDischargeDepth:=12) (maxSteps:=1000000) -implicitDefEqProofs only[go_sem,Nat.reduceAdd,Nat.reduceSub,Nat.reduceMul,Nat.reduceLeDiff,Nat.reduceEqDiff,Nat.reduceGT,Nat.reduceBEq,reduceCtorEq,↓reduceIte,Int.reduceToNat,Int.reduceLE,Int.reduceLT,Int.reduceNe,Int.reduceEq,gl,hb,ha,hlk,List.take_succ_cons,List.take_zero,List.drop_succ_cons,List.drop_zero,List.length_cons,List.length_nil,List.getElem?_cons_zero]
    have hent:∀S,aa Tryz.prog w0 253 [.agg [dI p,dB true,.sl 1 false (n.l.map fun c=>dS c.key),.sl 2 false (Lk.map fk),.sl 5 false []]] S (fun d S'=>d= .sl 5 false ((Lk.map (dV true)).map vf)∧S'=S):=fun S=>by
     rw[hkeys]
     have:=AA w0 (.mk p true Lk) S (fun e=>by cases e) (by show Lk.length≤_;omega)
     rw[bQ rfl]at this
     exact this
    have hput:=fun S=>Q0 w0 hgl true (Lk.map (dV true)) S (by rw[List.length_map];omega) hq1.ok hq1.bP hq1.first hq1.fits hq1.many
    refine aS (hent _) ?_
    (refine @ab _ ?_;refine au ?_)
    refine aS (hput _) ?_
    (refine @ab _ ?_;refine au ?_)
    refine Y.l9 [] [10,13] [0,1,2,3,5,7,4,6,8,9,10,11,12,13] mx (by kernel_rfl) ?_
    (refine @ab _ ?_;refine fc @e3 @hb @ha ?_)
    have hm8:maxLen=9223372036854775807:=rfl
    refine⟨by omega,by omega,_,_,.refl _,?_,?_,rfl⟩
    ·have e5:(wk++[(p,Ep true Lk)]).length=wk.length+1:=List.length_append
     unfold gl
     rw[e5,List.map_append]
     exact⟨(List.sublist_cons_self _ _).trans (List.sublist_cons_self _ _),List.Sublist.refl _⟩
    ·show DV.agg [dI p,dB true,.sl 1 false (n.l.map fun c=>dS c.key),.sl 2 false (Lk.map fk),.sl 5 false []]=_
     rw[hkeys]
     exact(bQ (n:= .mk p true Lk) rfl).symm
 |succ d ih=>
  intro n q S hg hla hI ht hs h2 hf hq hu hr hp hw
  have hn:=ax hg
  have hlf:=hg.1
  have hlen:=bT n
  have hq1:=tx (q:=q) hg hla hs h2 hf hr hp
  have hq2:=dH n q
  have hq3:=eR hn
  have hlC:=qg hn
  have hwC:=Fw hn
  obtain⟨left,ws⟩:=q
  simp only at hI hf hu hr hw hq
  have hb:=hI.box
  have ha:=hI.acc
  rw[hlf]at hq1 hq2 hq3 hlC hwC
  generalize bk n (left,ws)=R at*
  have hkid:=fun c hc=>(hn.2.2 c hc).2.imp fun k h=>h.1
  rw[eo hlf hkid]
  unfold yG
  refine wm [3,6] mx Tryz.func228 rfl rfl (by kernel_rfl) ?_;(refine @ab _ ?_;refine ao @Tryz.ntmps228 ?_)
  intro b b1
  have fin1:n.an≠0∨(false=true∧n.l=[])→R=(n,(left,ws)):=fun e=>by rw[hq2,if_pos e]
  refine⟨fun h0=>?_,fun h0=>?_⟩
  ·rw[fin1 (.inl h0)]
   refine⟨_,_,.refl _,?_,(eo hlf hkid).symm,rfl⟩
   rw[oO hI]
   exact⟨(List.sublist_cons_self _ _).trans (List.sublist_cons_self _ _),List.Sublist.refl _⟩
  ·have h0:n.an=0:=Classical.not_not.1 h0
   have h00:¬(n.an≠0∨false=true∧n.l=[]):=fun e=>e.elim (fun e=>e h0) fun e=>by cases e.1
   rw[if_neg h00]at hq2
   rw[if_neg (fun e=>h00 (.inl e)),if_neg (fun e=>h00 (.inr e))]at hq3
   replace hq1:=hq1 h00
   refine L2 ⟨[(b.n,[dI n.an,dB false,.sl 1 false (n.l.map fun c=>dS c.key),.sl 2 false [],.sl 5 false (dK n.l)])],[]⟩ [4,9] [11,13] [0,2,3,5,7,8,1,6,4,10,9,11,12,13] mx (by kernel_rfl) ?_
   (refine @ab _ ?_;refine au ?_)
   have hone:∀k c,n.l[k]? =some c→∀S,mb S bs lw (ah false (n.l.take k) (left,ws)).2.1 (ah false (n.l.take k) (left,ws)).2.2→aa Tryz.prog w0 228 [.v (.pointer (some ⟨bs,0,none⟩)),eT (ay c)] S (fun e S'=>e=eT (bk (ay c) (ah false (n.l.take k) (left,ws)).2).1∧S'=gl S bs lw (ah false (n.l.take (k+1)) (left,ws)).2.1 (ah false (n.l.take (k+1)) (left,ws)).2.2):=fun k c hc T hT=>by
    have hdk:=eQ (q:=(left,ws)) fun c hc=>hlC c (List.mem_of_mem_take (i:=k) hc)
    have hwk:=kA (q:=(left,ws)) fun c hc=>hwC c (List.mem_of_mem_take (i:=k) hc)
    have htk:=ph false n.l k
    have hcm:=List.mem_of_getElem? hc
    have htk1:=ph false n.l (k+1)
    have hsu:=Bb (b:=false) hc
    obtain⟨hsh,_,kid,hkid,hkg,hkf⟩:=hg.2.2.cell c hcm
    have hnd:=ax hkg
    have htk2:=fi hcm hkid
    have hrc:kg false c=dm kid:=by rw[←bq hkid];rfl
    rw[oa hc,dc hkid,bq hkid]
    generalize ah false (n.l.take k) (left,ws)=Pk at*
    obtain⟨Lk,lf,wk⟩:=Pk
    simp only at hdk hwk hT
    have hlfl:lf.length=left.length-gO false (n.l.take k):=by rw[hdk,List.length_drop]
    have hal:∀p,p∈cf kid→p∈cf n:=fun p hp=>by
     rw[fQ n,hlf]
     exact List.mem_append_right _ (List.mem_flatMap.2 ⟨c,hcm,by rw[fK hkid];exact List.mem_append_right _ hp⟩)
    have hkl2:kid.leaf=true∨2≤kid.l.length:=by
     cases d with
     |zero=>exact .inl hkg.1
     |succ d=>
      refine .inr ?_
      have h30:=hkf.1
      have hsz:=gZ hkg
      unfold ae at h30 hsz
      match hm:kid.l with
      |[]=>rw[hm]at h30;simp at h30
      |[x]=>
       rw[hm]at h30 hsz
       have:=hsz _ (List.mem_map_of_mem List.mem_cons_self)
       simp only[List.map_cons,List.map_nil,List.sum_cons,List.sum_nil]at h30 this
       rw[if_neg (by omega)]at this
       omega
      |x::y::r=>simp
    exact ih kid (lf,wk) _ hkg (by
     cases hla with|mk _ _ _ h3=>exact h3 hlf c hcm kid hkid) hT (by omega) hkf.2 hkl2 (by show _≤lf.length;omega) (by show lf.length≤_;omega) (by show lf.Nodup;rw[hdk];exact hu.sublist (List.drop_sublist _ _)) (fun x hx=>hr x (by rw[hdk]at hx;exact List.mem_of_mem_drop hx)) (fun p hp'=>hp p (hal p hp')) (by show wk.length+_≤_;omega)
   have heach:=fun S h=>V6 w0 hgl bs lw n.l (left,ws) S h (by omega) hkid hone
   have hlk:(ah false n.l (left,ws)).1.length=n.l.length:=bW _ _ _
   have hdk:=eQ (q:=(left,ws)) hlC
   have hwk:=kA (q:=(left,ws)) hwC
   have hkeys:(n.l.map fun c=>dS c.key)=(ah false n.l (left,ws)).1.map fun c=>dS c.key:=(qF false n.l (left,ws)).symm
   have hkL:∀c,c∈(ah false n.l (left,ws)).1→∃k,c.kid=[k]:=fun x hx=>by
    obtain⟨c,q',hc,rfl⟩:=gV hx
    obtain⟨k,hk⟩:=hkid c hc
    rw[dc hk]
    exact⟨_,rfl⟩
   generalize ah false n.l (left,ws)=Pk at*
   obtain⟨Lk,lf,wk⟩:=Pk
   simp only at hlk hdk hwk hq1 hq2 heach hkeys hkL
   have hlfl:lf.length=left.length-gO false n.l:=by rw[hdk,List.length_drop]
   refine⟨l4 (by(refine @ab _ ?_;exact aQ)),l4 (by(refine @ab _ ?_;exact aQ)),bA (heach _ ⟨by(refine @ab _ ?_;exact ma @hb),ha⟩) ?_⟩
   rintro _ _ ⟨rfl,rfl⟩
   simp(maxDischargeDepth:=12) (maxSteps:=1000000) -implicitDefEqProofs only[go_sem,Nat.reduceAdd,Nat.reduceSub,Nat.reduceMul,Nat.reduceLeDiff,Nat.reduceEqDiff,Nat.reduceGT,Nat.reduceBEq,reduceCtorEq,↓reduceIte,Int.reduceToNat,Int.reduceLE,Int.reduceLT,Int.reduceNe,Int.reduceEq,gl,hb,ha]
   have e0:lk (up S.box bs [.acc lw wk.length,.sl 1 false (lf.map dI)]) bs=some [.acc lw wk.length,.sl 1 false (lf.map dI)]:=by rw[aw,hb];rfl
   have e00:lk (up S.acc lw (.arr 2 (wk.map nH))) lw=some (.arr 2 (wk.map nH)):=by rw[aw,ha];rfl
   refine⟨l4 (by(refine @ab _ ?_;exact aQ)),bA (Tm w0 bs lw lf wk _ ⟨by(refine @ab _ ?_;exact qP @hb @e0),by(refine @ab _ ?_;exact qP @ha @e00)⟩) ?_⟩
   rintro _ _ ⟨rfl,rfl⟩
   cases lf with
   |nil=>simp only[List.length_nil]at hlfl;omega
   |cons p lr=>
    simp only[List.headD_cons,List.tail_cons]at hq2
    subst hq2
    have e1:lk (up S.box bs [.acc lw wk.length,.sl 1 false ((p::lr).map dI)]) bs=some [.acc lw wk.length,.sl 1 false ((p::lr).map dI)]:=by rw[aw,hb];rfl
    have e2:lk (up S.acc lw (.arr 2 (wk.map nH))) lw=some (.arr 2 (wk.map nH)):=by rw[aw,ha];rfl
    have e3:lk (up S.box bs [.acc lw wk.length,.sl 1 false (lr.map dI)]) bs=some [.acc lw wk.length,.sl 1 false (lr.map dI)]:=by rw[aw,hb];rfl
    simp(maxDischargeDepth:=12) (maxSteps:=1000000) -implicitDefEqProofs only[go_sem,Nat.reduceAdd,Nat.reduceSub,Nat.reduceMul,Nat.reduceLeDiff,Nat.reduceEqDiff,Nat.reduceGT,Nat.reduceBEq,reduceCtorEq,↓reduceIte,Int.reduceToNat,Int.reduceLE,Int.reduceLT,Int.reduceNe,Int.reduceEq,gl,hb,ha]
    refine⟨l4 (by(refine @ab _ ?_;exact aQ)),bA (Mi w0 bs lw (p::lr) wk 1 _ ⟨by(refine @ab _ ?_;exact qP @hb @e1),by(refine @ab _ ?_;exact qP @ha @e2)⟩ (by simp) (by omega)) ?_⟩
    rintro _ _ ⟨rfl,rfl⟩
    simp(maxDischargeDepth:=12) (maxSteps:=1000000) -implicitDefEqProofs only[go_sem,Nat.reduceAdd,Nat.reduceSub,Nat.reduceMul,Nat.reduceLeDiff,Nat.reduceEqDiff,Nat.reduceGT,Nat.reduceBEq,reduceCtorEq,↓reduceIte,Int.reduceToNat,Int.reduceLE,Int.reduceLT,Int.reduceNe,Int.reduceEq,gl,hb,ha,hlk,List.take_succ_cons,List.take_zero,List.drop_succ_cons,List.drop_zero,List.length_cons,List.length_nil,List.getElem?_cons_zero]
    have hent:∀S,aa Tryz.prog w0 253 [.agg [dI p,dB false,.sl 1 false (n.l.map fun c=>dS c.key),.sl 2 false [],.sl 5 false (dK Lk)]] S (fun d S'=>d= .sl 5 false ((Lk.map (dV false)).map vf)∧S'=S):=fun S=>by
     rw[hkeys]
     have:=AA w0 (.mk p false Lk) S (fun _=>hkL) (by show Lk.length≤_;omega)
     rw[eo (n:= .mk p false Lk) rfl hkL]at this;unfold yG at this
     exact this
    have hput:=fun S=>Q0 w0 hgl false (Lk.map (dV false)) S (by rw[List.length_map];omega) hq1.ok hq1.bP hq1.first hq1.fits hq1.many
    refine aS (hent _) ?_
    (refine @ab _ ?_;refine au ?_)
    refine aS (hput _) ?_
    (refine @ab _ ?_;refine au ?_)
    refine Y.l9 [] [10,13] [0,1,2,3,5,7,4,6,8,9,10,11,12,13] mx (by kernel_rfl) ?_
    (refine @ab _ ?_;refine fc @e3 @hb @ha ?_)
    have hm8:maxLen=9223372036854775807:=rfl
    refine⟨by omega,by omega,_,_,.refl _,?_,?_,rfl⟩
    ·have e5:(wk++[(p,Ep false Lk)]).length=wk.length+1:=List.length_append
     unfold gl
     rw[e5,List.map_append]
     exact⟨(List.sublist_cons_self _ _).trans (List.sublist_cons_self _ _),List.Sublist.refl _⟩
    ·show DV.agg [dI p,dB false,.sl 1 false (n.l.map fun c=>dS c.key),.sl 2 false [],.sl 5 false (dK Lk)]=_
     rw[hkeys]
     exact(eo (n:= .mk p false Lk) rfl hkL).symm
end Go.Proofs.YtpjenciplibdnaaGreatDoor
namespace Go.Proofs.YtpjenciplibdnaaGreatDoor
open Aml Go
open Aml Go
end Go.Proofs.YtpjenciplibdnaaGreatDoor
namespace Go.Proofs.YtpjenciplibdnaaGreatDoor
open Aml Go
structure Rv(n:N)(at_:List Int):Prop where
 tl:TL n
 kT:bh n≤131072
 dep:∀d,Nd d n→d≤100000
 len:at_.length≤1024
 fr:dm n≤at_.length
 nd:(at_++cf n).Nodup
 qW:∀p,p∈at_++cf n→2≤p∧p≤999
theorem SS(w0:W0):∀(d:Nat) (n:N) (lo hi:ByteArray) (r:Bool) (S:St),Good d n→bh n≤131072→d≤100000→(ae n).sum≤122→(r=true∨30≤(ae n).sum)→n.l≠[]→(n.leaf=true∨2≤n.l.length)→(∀x,x∈df n→mf lo x.key=true)→(hi≠aX→∀x,x∈df n→cF x.key hi=true)→
 aa Tryz.prog w0 258 [eT n,.agg [dS lo,dS hi],dB r] S (fun e S'=>e=dI d∧S'=S):=by
 intro d
 induction d with
 |zero=>
  intro n lo hi r S hg ht hd hsum hr hne h2 hlo hhi
  have hn:=ax hg
  have hlen:=bT n
  have hlf:=hg.1
  have hsm:=tA hn
  have hfk:=qp hg hlo hhi
  rw[hlf]at hfk
  have hfit:=fun S=>V5 w0 n lo hi S hlf hfk (Kb hg) (by omega)
  have hsz:=fun S=>qz w0 n S hsm (by omega)
  have hbd:=kq n hsm (by omega)
  have hpos:=List.length_pos_iff.2 hne
  rw[bQ hlf]at*
  refine ba [] mx Tryz.func258 rfl rfl (by kernel_rfl) ?_;(refine @ab _ ?_;refine ao @Tryz.ntmps258 ?_)
  intro b b1
  refine aq (hfit _) ?_
  (refine @ab _ ?_;refine au ?_)
  refine⟨fun h=>absurd h (by omega),fun _=>aq (hsz _) ?_⟩
  (refine @ab _ ?_;refine au ?_)
  refine aq (JS w0 _ _ hbd) ?_
  (refine @ab _ ?_;refine au ?_)
  have hlow:r=false→BR (ae n)=false:=fun e=>decide_eq_false (by rcases hr with h|h;· rw[e]at h;cases h
                                                                ·omega)
  refine⟨fun h=>absurd h (by omega),fun _=>⟨fun hrf=>aq (hsz _) ?_,fun hrt=>?_⟩⟩
  ·(refine @ab _ ?_;refine au ?_)
   refine aq (Tz w0 _ _ hbd) ?_
   rw[hlow hrf]
   (refine @ab _ ?_;refine au ?_)
   refine aE [] 0 [3,4,8,42,43,44] (fun k=>[(8,dI 0),(44,dI k)]) (fun k=>⟨(b1.n,[dS lo,dS hi])::(b.n,[dI n.an,dB true,.sl 1 false (n.l.map fun c=>dS c.key),.sl 2 false (n.l.map fk),.sl 5 false []])::S.box,S.acc⟩) (fun _=>True) mx (by kernel_rfl) ?_ ?_
   ·(refine @ab _ ?_;exact aQ)
   ·intro k hk' _
    (refine @ab _ ?_;exact aQ)
  ·refine aE [] 0 [3,4,8,42,43,44] (fun k=>[(8,dI 0),(44,dI k)]) (fun k=>⟨(b1.n,[dS lo,dS hi])::(b.n,[dI n.an,dB true,.sl 1 false (n.l.map fun c=>dS c.key),.sl 2 false (n.l.map fk),.sl 5 false []])::S.box,S.acc⟩) (fun _=>True) mx (by kernel_rfl) ?_ ?_
   ·(refine @ab _ ?_;exact aQ)
   ·intro k hk' _
    (refine @ab _ ?_;exact aQ)
 |succ d ih=>
  intro n lo hi r S hg ht hd hsum hr hne h2 hlo hhi
  have hn:=ax hg
  have hlen:=bT n
  have hlf:=hg.1
  have hsm:=tA hn
  have hfk:=qp hg hlo hhi
  have hone:=iH hn hlf
  rw[hlf]at hfk
  have hfit:=fun S=>UT w0 n lo hi S hlf hfk hone (by omega)
  have hsz:=fun S=>qz w0 n S hsm (by omega)
  have hbd:=kq n hsm (by omega)
  have hpos:=h2.resolve_left (by rw[hlf];simp)
  have hkn:=nh hn
  have hres:eT n= .agg [dI n.an,dB false,.sl 1 false (n.l.map fun c=>dS c.key),.sl 2 false [],.sl 5 false ((n.l.map ay).map dT)]:=by
   show DV.agg _=_
   rw[hkn,hlf];rfl
  rw[hres]at hfit hsz ⊢
  clear hres
  have hlow:r=false→BR (ae n)=false:=fun e=>decide_eq_false (by rcases hr with h|h;· rw[e]at h;cases h
                                                                ·omega)
  have hB:=hg.2.2
  have hkid:∀(k:Nat) c,n.l[k]? =some c→∀lo' hi',(if k=0 then lo'=lo else lo'=c.key)→(match n.l[k+1]? with
   |some c'=>hi'=c'.key
   |none=>hi'=hi)→∀T,aa Tryz.prog w0 258 [eT (ay c),.agg [dS lo',dS hi'],dB false] T (fun e S'=>e=dI d∧S'=T):=by
   intro k c hc lo' hi' hl' hh' T
   have hcm:=List.mem_of_getElem? hc
   obtain⟨s1,s2,kd,hkid,hkg,hkf⟩:=hB.cell c hcm
   rw[bq hkid]
   have htk:=fi hcm hkid
   have hin:∀x,x∈df kd→x∈df n:=fun x hx=>by rw[cE,hlf];exact List.mem_flatMap.2 ⟨c,hcm,by rw[bc hkid];exact hx⟩
   refine ih kd lo' hi' false T hkg (by omega) (by omega) hkf.2 (.inr hkf.1) (oU hkf) (uP hkg hkf) (fun x hx=>?_) fun hne' x hx=>?_
   ·split at hl'
    ·rw[hl'];exact hlo x (hin x hx)
    ·rw[hl'];exact s2 x (by rw[bc hkid];exact hx)
   ·split at hh'
    ·rename_i c' hc'
     obtain⟨q1,rfl⟩:=List.getElem?_eq_some_iff.1 hc
     obtain⟨q2,rfl⟩:=List.getElem?_eq_some_iff.1 hc'
     rw[hh']
     exact(List.pairwise_iff_getElem.1 hB.pw k (k+1) q1 q2 (by omega)).2 x (by rw[bc hkid];exact hx)
    ·rw[hh']at hne' ⊢;exact hhi hne' x (hin x hx)
  refine ba [] mx Tryz.func258 rfl rfl (by kernel_rfl) ?_;(refine @ab _ ?_;refine ao @Tryz.ntmps258 ?_)
  intro b b1
  refine aq (hfit _) ?_
  (refine @ab _ ?_;refine au ?_)
  refine⟨fun h=>absurd h (by omega),fun _=>aq (hsz _) ?_⟩
  (refine @ab _ ?_;refine au ?_)
  refine aq (JS w0 _ _ hbd) ?_
  (refine @ab _ ?_;refine au ?_)
  refine⟨fun h=>absurd h (by omega),fun _=>⟨fun hrf=>aq (hsz _) ?_,fun hrt=>?_⟩⟩
  ·(refine @ab _ ?_;refine au ?_)
   refine aq (Tz w0 _ _ hbd) ?_
   rw[hlow hrf]
   (refine @ab _ ?_;refine au ?_)
   refine aE [] n.l.length [3,4,8,42,43,44] (fun k=>[(8,dI (if k=0 then 0 else(d+1:Nat))),(44,dI k)]) (fun k=>⟨(b1.n,[dS lo,dS hi])::(b.n,[dI n.an,dB false,.sl 1 false (n.l.map fun c=>dS c.key),.sl 2 false [],.sl 5 false ((n.l.map ay).map dT)])::S.box,S.acc⟩) (fun _=>True) mx (by kernel_rfl) ?_ ?_
   ·(refine @ab _ ?_;exact aQ)
   ·intro k hk' _
    (refine @ab _ ?_;refine au ?_)
    refine⟨fun hlt=>⟨hlt,fun c hc b2 b3=>?_⟩,fun hge=>?_⟩
    ·have e1:IntKind.i64.wrap ((d:Int)+1)=((d+1:Nat):Int):=by rw[bw (by omega) (by omega)];omega
     have e2:IntKind.i64.wrap ((k:Int)+1)=((k+1:Nat):Int):=bl k (by omega)
     have hk2:∀lo',(if k=0 then lo'=lo else lo'=c.key)→¬((k+1:Nat):Int)<n.l.length→∀T,aa Tryz.prog w0 258 [eT (ay c),.agg [dS lo',dS hi],dB false] T (fun e S'=>e=dI d∧S'=T):=fun lo' h1 h2 T=>hkid k c hc lo' hi h1 (by rw[List.getElem?_eq_none (by omega)]) T
     have hk1:∀lo' a,(if k=0 then lo'=lo else lo'=c.key)→n.l[k+1]? =some a→∀T,aa Tryz.prog w0 258 [eT (ay c),.agg [dS lo',dS a.key],dB false] T (fun e S'=>e=dI d∧S'=T):=fun lo' a h1 h2 T=>hkid k c hc lo' a.key h1 (by rw[h2]) T
     rw[e2]
     refine⟨fun hp=>⟨hlt,fun a ha=>?_⟩,fun hz=>?_⟩
     ·cases cM hc ha
      have hl0:(if k=0 then c.key=lo else c.key=c.key):=by rw[if_neg (by omega)]
      have hf:(if k=0 then(0:Int)else((d+1:Nat):Int))=((d+1:Nat):Int):=if_neg (by omega)
      have hf2:(if k+1=0 then(0:Int)else((d+1:Nat):Int))=((d+1:Nat):Int):=if_neg (by omega)
      have z2:((k:Int)>0)=True:=eq_true hp
      refine⟨fun h1=>⟨by omega,h1,fun a ha=>aq (hk1 c.key a hl0 ha _) ?_⟩,fun h1=>aq (hk2 c.key hl0 h1 _) ?_⟩
      ·(refine @ab _ ?_;refine Ci @e1 @e2 @z2 @hf @hf2 @hlt ?_)
       exact fun h=>absurd h (by omega)
      ·(refine @ab _ ?_;refine Ci @e1 @e2 @z2 @hf @hf2 @hlt ?_)
       exact fun h=>absurd h (by omega)
     ·have hl0:(if k=0 then lo=lo else lo=c.key):=by rw[if_pos (by omega)]
      have z2:((k:Int)>0)=False:=eq_false hz
      have hf2:(if k+1=0 then(0:Int)else((d+1:Nat):Int))=((d+1:Nat):Int):=if_neg (by omega)
      refine⟨fun h1=>⟨by omega,h1,fun a ha=>aq (hk1 lo a hl0 ha _) ?_⟩,fun h1=>aq (hk2 lo hl0 h1 _) ?_⟩
      ·(refine @ab _ ?_;refine Bx @e1 @e2 @z2 @hf2 @hlt ?_)
       exact fun h=>absurd h (by omega)
      ·(refine @ab _ ?_;refine Bx @e1 @e2 @z2 @hf2 @hlt ?_)
       exact fun h=>absurd h (by omega)
    ·exact if_neg (by omega)
  ·refine aE [] n.l.length [3,4,8,42,43,44] (fun k=>[(8,dI (if k=0 then 0 else(d+1:Nat))),(44,dI k)]) (fun k=>⟨(b1.n,[dS lo,dS hi])::(b.n,[dI n.an,dB false,.sl 1 false (n.l.map fun c=>dS c.key),.sl 2 false [],.sl 5 false ((n.l.map ay).map dT)])::S.box,S.acc⟩) (fun _=>True) mx (by kernel_rfl) ?_ ?_
   ·(refine @ab _ ?_;exact aQ)
   ·intro k hk' _
    (refine @ab _ ?_;refine au ?_)
    refine⟨fun hlt=>⟨hlt,fun c hc b2 b3=>?_⟩,fun hge=>?_⟩
    ·have e1:IntKind.i64.wrap ((d:Int)+1)=((d+1:Nat):Int):=by rw[bw (by omega) (by omega)];omega
     have e2:IntKind.i64.wrap ((k:Int)+1)=((k+1:Nat):Int):=bl k (by omega)
     have hk2:∀lo',(if k=0 then lo'=lo else lo'=c.key)→¬((k+1:Nat):Int)<n.l.length→∀T,aa Tryz.prog w0 258 [eT (ay c),.agg [dS lo',dS hi],dB false] T (fun e S'=>e=dI d∧S'=T):=fun lo' h1 h2 T=>hkid k c hc lo' hi h1 (by rw[List.getElem?_eq_none (by omega)]) T
     have hk1:∀lo' a,(if k=0 then lo'=lo else lo'=c.key)→n.l[k+1]? =some a→∀T,aa Tryz.prog w0 258 [eT (ay c),.agg [dS lo',dS a.key],dB false] T (fun e S'=>e=dI d∧S'=T):=fun lo' a h1 h2 T=>hkid k c hc lo' a.key h1 (by rw[h2]) T
     rw[e2]
     refine⟨fun hp=>⟨hlt,fun a ha=>?_⟩,fun hz=>?_⟩
     ·cases cM hc ha
      have hl0:(if k=0 then c.key=lo else c.key=c.key):=by rw[if_neg (by omega)]
      have hf:(if k=0 then(0:Int)else((d+1:Nat):Int))=((d+1:Nat):Int):=if_neg (by omega)
      have hf2:(if k+1=0 then(0:Int)else((d+1:Nat):Int))=((d+1:Nat):Int):=if_neg (by omega)
      have z2:((k:Int)>0)=True:=eq_true hp
      refine⟨fun h1=>⟨by omega,h1,fun a ha=>aq (hk1 c.key a hl0 ha _) ?_⟩,fun h1=>aq (hk2 c.key hl0 h1 _) ?_⟩
      ·(refine @ab _ ?_;refine Ci @e1 @e2 @z2 @hf @hf2 @hlt ?_)
       exact fun h=>absurd h (by omega)
      ·(refine @ab _ ?_;refine Ci @e1 @e2 @z2 @hf @hf2 @hlt ?_)
       exact fun h=>absurd h (by omega)
     ·have hl0:(if k=0 then lo=lo else lo=c.key):=by rw[if_pos (by omega)]
      have z2:((k:Int)>0)=False:=eq_false hz
      have hf2:(if k+1=0 then(0:Int)else((d+1:Nat):Int))=((d+1:Nat):Int):=if_neg (by omega)
      refine⟨fun h1=>⟨by omega,h1,fun a ha=>aq (hk1 lo a hl0 ha _) ?_⟩,fun h1=>aq (hk2 lo hl0 h1 _) ?_⟩
      ·(refine @ab _ ?_;refine Bx @e1 @e2 @z2 @hf2 @hlt ?_)
       exact fun h=>absurd h (by omega)
      ·(refine @ab _ ?_;refine Bx @e1 @e2 @z2 @hf2 @hlt ?_)
       exact fun h=>absurd h (by omega)
    ·exact if_neg (by omega)
theorem TX(w0:W0)(n:N)(S:St)(h:gN n)(hz:PZ n)(ht:∀d,Nd d n→bh n≤131072∧d≤100000):aa Tryz.prog w0 247 [eT n] S (fun e S'=>e=dB true∧S'=S):=by
 obtain⟨d,hg,hsum,h2⟩:=h
 have hn:=ax hg
 obtain⟨ht1,ht2⟩:=ht d hn
 have hdep:=fun(hne:n.l≠[]) S=>SS w0 d n aX aX true S hg ht1 ht2 hsum (.inl rfl) hne h2 (fun x _=>oE _) (fun e=>absurd rfl e)
 have hlen:=bT n
 have hkl:n.leaf=false→n.l≠[]:=fun e he=>by
  have:=h2.resolve_left (by rw[e];simp)
  rw[he]at this;simp at this
 cases hlf:n.leaf with
 |true=>
  rw[bQ hlf]at*
  refine ba [] mx Tryz.func247 rfl rfl (by kernel_rfl) ?_;(refine @ab _ ?_;refine ao @Tryz.ntmps247 ?_)
  intro b
  have hfin:(n.an=0→¬n.l=[])→n.l≠[]:=fun h e=>h (hz e) e
  refine⟨fun hp hw=>?_,fun hp=>?_⟩
  ·have hne:n.l≠[]:=fun e=>hw (by rw[e];rfl)
   refine aq (hdep hne _) ?_
   (refine @ab _ ?_;exact aQ)
  ·refine aq (hdep (fun e=>hp (hz e)) _) ?_
   (refine @ab _ ?_;exact aQ)
 |false=>
  refine ba [] mx Tryz.func247 rfl rfl (by kernel_rfl) ?_;(refine @ab _ ?_;refine aY @Tryz.ntmps247 @hlf ?_)
  intro b
  refine aq (hdep (hkl hlf) _) ?_ ⟨?_,.refl _,.refl _,trivial⟩
  ·(refine @ab _ ?_;exact aQ)
  ·(refine @ab _ ?_;exact ma @hlf)
structure EI(n:N):Prop where
 tl:TL n
 kT:bh n≤131072
 dep:∀d,Nd d n→d≤100000
def oH(n:N)(at_:List Int):Prop:=(at_++cf n).Nodup∧(∀p,p∈at_++cf n→2≤p∧p≤999)∧dm n≤at_.length
noncomputable def xy(n:N)(at_:List Int):Bool:=@decide (oH n at_) (Classical.propDecidable _)
theorem xQ{n:N}{at_:List Int}(h:oH n at_):xy n at_=true:=@decide_eq_true _ (Classical.propDecidable _) h
theorem uw{n:N}{at_:List Int}(h:¬oH n at_):xy n at_=false:=@decide_eq_false _ (Classical.propDecidable _) h
theorem Rv.of{n:N}{at_:List Int}(h:EI n)(hl:at_.length≤1024)(hm:oH n at_):Rv n at_:=⟨h.tl,h.kT,h.dep,hl,hm.2.2,hm.1,hm.2.1⟩
theorem Tn{L:List Int}(hs:L.Pairwise (·≤·))(h:∀(j:Nat) x,L[j]? =some x→(2≤x∧x≤999)∧∀y,0<j→L[j-1]? =some y→x≠y):L.Nodup∧∀p,p∈L→2≤p∧p≤999:=by
 refine⟨?_,fun p hp=>?_⟩
 ·have:L.Pairwise (·<·):=by
   rw[List.pairwise_iff_getElem]
   intro i j hi hj hij
   have h1:=(h j _ (List.getElem?_eq_getElem hj)).2 L[j-1] (by omega) (List.getElem?_eq_getElem (by omega))
   have h2:L[j-1]≤L[j]:=List.pairwise_iff_getElem.1 hs _ _ (by omega) hj (by omega)
   have h3:L[i]≤L[j-1]:=by
    by_cases e:i=j-1
    ·subst e;exact Int.le_refl _
    ·exact List.pairwise_iff_getElem.1 hs _ _ hi (by omega) (by omega)
   omega
  exact this.imp fun{a b} h=>by omega
 ·obtain⟨j,hj⟩:=List.mem_iff_getElem?.1 hp
  exact(h j p hj).1
theorem NB{l:List Int}(h:l.Nodup)(hr:∀p,p∈l→2≤p∧p≤999):l.length≤998:=by
 have hp:=bJ l
 have hs:(cX l).Pairwise (·<·):=List.Pairwise.imp (R:=fun x y=>x≤y∧x≠y) (fun h=>by omega) ((qs l).and (hp.nodup_iff.2 h))
 have hr2:∀p,p∈cX l→2≤p∧p≤999:=fun p hp'=>hr p (hp.mem_iff.1 hp')
 rw[←hp.length_eq]
 generalize cX l=L at*
 have:∀i (hi:i<L.length),(2+i:Int)≤L[i]:=fun i=>by
  induction i with
  |zero=>intro hi;have:=(hr2 L[0] (List.getElem_mem _)).1;omega
  |succ i ih=>
   intro hi
   have h1:=ih (by omega)
   have h2:=List.pairwise_iff_getElem.1 hs i (i+1) (by omega) hi (by omega)
   omega
 rcases Nat.eq_zero_or_pos L.length with q|q
 ·omega
 ·have h1:=this (L.length-1) (by omega)
  have h2:=(hr2 L[L.length-1] (List.getElem_mem _)).2
  omega
theorem oH.len{n:N}{at_:List Int}(h:oH n at_):at_.length≤998:=NB (List.nodup_append.1 h.1).1 fun p hp=>h.2.1 p (List.mem_append_left _ hp)
theorem Wq(w0:W0)(n:N)(at_:List Int)(S:St)(h:EI n)(hln:at_.length≤1100):aa Tryz.prog w0 226 [eT n,dL at_] S (fun d S'=>d=dB (xy n at_)∧S'=S):=by
 obtain⟨d,hn⟩:=tT h.tl
 have hfine:DM n:=⟨d,hn,h.kT⟩
 have hpg:=fun S=>Jv w0 n S hfine
 rw[Jz hn]at hpg
 have hck:=fun S=>TX w0 n S h.tl.root h.tl.pz fun d hd=>⟨h.kT,h.dep d hd⟩
 have hfs:=fun S=>M8 w0 n S hfine
 have hal:=TI hn
 have ht:=h.kT
 have hp:(at_++cX (cf n)).Perm (at_++cf n):=List.Perm.append_left _ (bJ _)
 have hfl:flat [at_,cX (cf n)]=at_++cX (cf n):=by simp[flat]
 have hlen:(at_++cX (cf n)).length=at_.length+(cf n).length:=by rw[hp.length_eq,List.length_append]
 have hcc:=fun S=>concat w0 [at_,cX (cf n)] S (by simp) (by rw[hfl,hlen];omega)
 rw[hfl]at hcc
 have hsp:(cX (at_++cX (cf n))).Perm (at_++cf n):=(bJ _).trans hp
 have hup:=qs (at_++cX (cf n))
 have hll:(cX (at_++cX (cf n))).length=at_.length+(cf n).length:=by rw[hsp.length_eq,List.length_append]
 have hso:∀(l:Nat) (S:St),lk S.acc l=some (.arr 1 ((at_++cX (cf n)).map dI))→aa Tryz.prog w0 51 [.acc l (at_.length+(cf n).length)] S (fun d S'=>d= .bI []∧S'=⟨S.box,up S.acc l (.arr 1 ((cX (at_++cX (cf n))).map dI))⟩):=fun l S hl=>by
  have:=mi w0 hl (by rw[hlen];omega)
  rw[hlen]at this
  exact this
 rw[hlen]at hcc
 generalize cX (at_++cX (cf n))=L at*
 generalize at_++cX (cf n)=M at*
 generalize hA:cX (cf n)=A at*
 have hb1:(∀(j:Nat) x,L[j]? =some x→(2≤x∧x≤999)∧∀y,0<j→L[j-1]? =some y→x≠y)→dm n≤at_.length→xy n at_=true:=fun q1 q2=>xQ (by
  obtain⟨z1,z2⟩:=Tn hup q1
  exact⟨hsp.nodup_iff.1 z1,fun p hp=>z2 p (hsp.mem_iff.2 hp),q2⟩)
 have hb2:∀x,x∈L→¬(2≤x∧x≤999)→xy n at_=false:=fun x hx q=>uw fun c=>q (c.2.1 x (hsp.mem_iff.1 hx))
 have hb3:∀(j:Nat) x,0<j→L[j]? =some x→L[j-1]? =some x→xy n at_=false:=fun j x h0 h1 h2=>uw fun c=>by
  have:=hsp.nodup_iff.2 c.1
  obtain⟨u1,e1⟩:=List.getElem?_eq_some_iff.1 h1
  obtain⟨u2,e2⟩:=List.getElem?_eq_some_iff.1 h2
  exact(List.pairwise_iff_getElem.1 this) (j-1) j u2 u1 (by omega) (e2.trans e1.symm)
 have hb4:¬dm n≤at_.length→xy n at_=false:=fun q=>uw fun c=>q c.2.2
 generalize xy n at_=R at*
 refine ba [] mx Tryz.func226 rfl rfl (by kernel_rfl) ?_;(refine @ab _ ?_;refine ao @Tryz.ntmps226 ?_)
 intro b
 refine aq (hpg _) ?_
 (refine @ab _ ?_;refine au ?_)
 refine bA (hcc _) ?_ (.cons (Wk.full _ _ _) .nil)
 rintro _ _ ⟨la,rfl,rfl⟩
 (refine @ab _ ?_;refine au ?_)
 refine .inl (bA (hso la.n ⟨_,(la.n,.arr 1 (M.map dI))::S.acc⟩ (by simp[lk])) ?_)
 rintro _ _ ⟨rfl,rfl⟩
 (refine @ab _ ?_;refine au ?_)
 refine aE [] L.length [1,2,5,15,16,17] (fun k=>[(17,dI k)]) (fun _=>⟨(b.n,[dI n.an,dB n.leaf,.sl 1 false (n.l.map fun c=>dS c.key),.sl 2 false ((if n.leaf then n.l else []).map fk),.sl 5 false ((aF n).map dT)])::S.box,(la.n,.arr 1 (L.map dI))::S.acc⟩) (fun k=>∀(j:Nat) x,j<k→L[j]? =some x→(2≤x∧x≤999)∧∀y,0<j→L[j-1]? =some y→x≠y) mx (by kernel_rfl) ?_ ?_
 ·(refine @ab _ ?_;refine ao @hll ?_)
  exact fun j x hj=>absurd hj (by omega)
 ·intro k hk hinv
  have hstep:∀a,L[k]? =some a→¬a<2→¬a>999→(∀y,0<k→L[k-1]? =some y→a≠y)→∀(j:Nat) x,j<k+1→L[j]? =some x→(2≤x∧x≤999)∧∀y,0<j→L[j-1]? =some y→x≠y:=fun a ha q1 q2 q3 j x hj hx=>by
   rcases Nat.lt_succ_iff_lt_or_eq.1 hj with q|q
   ·exact hinv j x q hx
   ·subst q
    cases cM ha hx
    exact⟨by omega,q3⟩
  (refine @ab _ ?_;refine ao @hll ?_)
  refine⟨fun hlt=>⟨hlt,hlt,fun a ha=>⟨fun q=>?_,fun q1=>⟨fun q=>?_,fun q2=>⟨fun hk0=>?_,fun hk0=>?_⟩⟩⟩⟩,fun hge=>?_⟩
  ·rw[hb2 a (List.mem_of_getElem? ha) (by omega)]
  ·rw[hb2 a (List.mem_of_getElem? ha) (by omega)]
  ·have ew:IntKind.i64.wrap ((k:Int)-1)=((k-1:Nat):Int):=by rw[bw (by omega) (by omega)];omega
   rw[ew,Int.toNat_natCast]
   refine⟨by omega,by omega,by omega,fun a2 ha2=>⟨fun he=>?_,fun he=>⟨hlt,?_,bl k (by omega)⟩⟩⟩
   ·subst he
    rw[hb3 k a (by omega) ha ha2]
   ·exact hstep a ha q1 q2 fun y _ hy=>by cases cM ha2 hy;exact he
  ·exact⟨hlt,hstep a ha q1 q2 (fun y h0=>absurd h0 (by omega)),bl k (by omega)⟩
  ·have hall:=fun(j:Nat) x (hx:L[j]? =some x)=>hinv j x (by have:=(List.getElem?_eq_some_iff.1 hx).1;omega) hx
   refine aq (hck _) ?_
   (refine @ab _ ?_;refine au ?_)
   refine aq (hfs _) ?_
   (refine @ab _ ?_;refine au ?_)
   by_cases q:dm n≤at_.length
   ·rw[hb1 hall q,decide_eq_true q]
   ·rw[hb4 q,decide_eq_false q]
theorem Ny(w0:W0)(l:List Int)(S:St)(h:l.length≤1048576):aa Tryz.prog w0 227 [dL l] S (fun d S'=>d=dL l∧S'=S):=by
 refine jw (aa.mono (EC w0 l S h) ?_)
 rintro d S' ⟨b,rfl,rfl⟩
 (refine @ab _ ?_;exact aQ)
noncomputable def C6(n:N)(at_:List Int):DV:=if xy n at_ then .bI [eT (bk n (at_,[])).1,.sl 2 false ((bk n (at_,[])).2.2.map nH),dL (bk n (at_,[])).2.1,dB true]else .bI [eT n,.sl 0 true [],.sl 0 true [],dB false]
theorem UY(w0:W0)(hgl:fE w0)(n:N)(at_:List Int)(S:St)(h:EI n)(hln:at_.length≤1100):aa Tryz.prog w0 181 [eT n,dL at_] S (fun d S'=>d=C6 n at_∧S'=S):=by
 have hmay:=fun S=>Wq w0 n at_ S h hln
 have hcl:=fun S=>Ny w0 at_ S (by omega)
 by_cases hm:oH n at_
 ·have hL:=Rv.of h (by have:=hm.len;omega) hm
  obtain⟨d,hg,hs,h2⟩:=h.tl.root
  have hfr:=hL.fr
  have hln:=hL.len
  have hnd:=List.nodup_append.1 hL.nd
  have hlay:=fun bs lw S (hI:mb S bs lw at_ [])=>YT w0 hgl bs lw d n (at_,[]) S hg h.tl.laid hI h.kT hs h2 hfr hln hnd.1 (fun x hx=>hL.qW x (List.mem_append_left _ hx)) (fun x hx=>hL.qW x (List.mem_append_right _ hx)) (by show 0+_≤_;omega)
  have e:C6 n at_= .bI [eT (bk n (at_,[])).1,.sl 2 false ((bk n (at_,[])).2.2.map nH),dL (bk n (at_,[])).2.1,dB true]:=by unfold C6;rw[xQ hm];rfl
  rw[e]
  rw[xQ hm]at hmay
  generalize bk n (at_,[])=R at*
  refine ba [4,5] mx Tryz.func181 rfl rfl (by kernel_rfl) ?_;(refine @ab _ ?_;refine ao @Tryz.ntmps181 ?_)
  intro b b1
  refine aq (hmay _) ?_
  (refine @ab _ ?_;refine au ?_)
  refine aq (hcl _) ?_
  (refine @ab _ ?_;refine au ?_)
  intro b2
  refine eJ b2.n 0 2 (by omega) (ds:=[.sl 0 true [],.sl 1 false (at_.map dI)]) (by(refine @ab _ ?_;exact aQ)) rfl fun lw=>?_
  (refine @ab _ ?_;refine au ?_)
  refine jx [5] [] mx (by kernel_rfl) ?_
  (refine @ab _ ?_;refine au ?_)
  refine bA (hlay b2.n lw.n _ ⟨by(refine @ab _ ?_;exact aQ),by(refine @ab _ ?_;exact aQ)⟩) ?_
  rintro e S' ⟨rfl,rfl⟩
  simp(maxDischargeDepth:=12) (maxSteps:=1000000) -implicitDefEqProofs only[go_sem,Nat.reduceAdd,Nat.reduceSub,Nat.reduceMul,Nat.reduceLeDiff,Nat.reduceEqDiff,Nat.reduceGT,Nat.reduceBEq,reduceCtorEq,↓reduceIte,Int.reduceToNat,Int.reduceLE,Int.reduceLT,Int.reduceNe,Int.reduceEq,gl]
  intro b9
  refine MA b2.n 0 (l:=lw.n) (s:=2) (xs:=R.2.2.map nH) (ds:=[.acc lw.n R.2.2.length,.sl 1 false (R.2.1.map dI)]) (by(refine @ab _ ?_;exact aQ)) (by simp) (by(refine @ab _ ?_;exact aQ)) ?_
  (refine @ab _ ?_;refine au ?_)
  refine Y.RL [b1.n] [9] [] [1,2,3,5,6,7,0,4,8,9,10,11,12] mx (by kernel_rfl) ?_
  (refine @ab _ ?_;exact aQ)
 ·have e:C6 n at_= .bI [eT n,.sl 0 true [],.sl 0 true [],dB false]:=by unfold C6;rw[uw hm];rfl
  rw[e]
  rw[uw hm]at hmay
  refine ba [5] mx Tryz.func181 rfl rfl (by kernel_rfl) ?_;(refine @ab _ ?_;refine ao @Tryz.ntmps181 ?_)
  intro b b1
  refine aq (hmay _) ?_
  (refine @ab _ ?_;refine au ?_)
  trivial
end Go.Proofs.YtpjenciplibdnaaGreatDoor
namespace Go.Proofs.YtpjenciplibdnaaGreatDoor
open Aml Go
open Aml Go
end Go.Proofs.YtpjenciplibdnaaGreatDoor
namespace Go.Proofs.YtpjenciplibdnaaGreatDoor
open Aml Go
mutual
def plN:N→N
 | .mk p b l=> .mk p b (Wz b l)
def Z4(b:Bool):C→C
 | .mk k d ps kid=>if b then .mk k d ps []else .mk k aX [] (Yg kid)
def Wz(b:Bool):List C→List C
 |[]=>[]
 |c::l=>Z4 b c::Wz b l
def Yg:List N→List N
 |[]=>[]
 |n::_=>[plN n]
end
theorem yQ(w0:W0)(n:N)(S:St)(ht:n.l.length≤1048576)(hp:∀c,c∈n.l→c.aj.length≤1048576)(hk:∀c,c∈n.l→c.kid=[]∨∃k,c.kid=[k]∧∀S,aa Tryz.prog w0 57 [eN k,eN k] S (fun e S'=>e=dB true∧S'=S)):
 aa Tryz.prog w0 57 [eN n,eN n] S (fun e S'=>e=dB true∧S'=S):=by
 refine ba [] mx Tryz.func57 rfl rfl (by kernel_rfl) ?_;(refine @ab _ ?_;refine ao @Tryz.ntmps57 ?_)
 intro b b2
 refine aE [] n.l.length [2,3,5] (fun k=>[(5,dI k)]) (fun k=>⟨(b2.n,[dI n.an,dB n.leaf,.sl 4 false (n.l.map dC)])::(b.n,[dI n.an,dB n.leaf,.sl 4 false (n.l.map dC)])::S.box,S.acc⟩) (fun _=>True) mx (by kernel_rfl) ?_ ?_
 ·(refine @ab _ ?_;exact aQ)
 ·intro k hk' _
  (refine @ab _ ?_;refine au ?_)
  refine fun hlt=>⟨hlt,fun c hc b3=>⟨hlt,fun c2 hc2 b4=>?_⟩⟩
  cases cM hc hc2
  have hpc:=hp c (List.mem_of_getElem? hc)
  refine⟨fun h=>(by rw[jr]at h;cases h),fun _=>⟨fun h=>(by rw[jr]at h;cases h),fun _=>⟨fun h=>h rfl,fun _=>⟨fun h=>h rfl,fun _=>?_⟩⟩⟩⟩
  refine aE [] c.aj.length [2,3,5,6,7,8] (fun j=>[(8,dI j)]) (fun _=>⟨(b4.n,[dS c.key,dS c.data,.sl 1 false (c.aj.map dI),.sl 3 false (c.kid.map dN)])::(b3.n,[dS c.key,dS c.data,.sl 1 false (c.aj.map dI),.sl 3 false (c.kid.map dN)])::(b2.n,[dI n.an,dB n.leaf,.sl 4 false (n.l.map dC)])::(b.n,[dI n.an,dB n.leaf,.sl 4 false (n.l.map dC)])::S.box,S.acc⟩) (fun _=>True) mx (by kernel_rfl) ?_ ?_
  ·(refine @ab _ ?_;exact aQ)
  ·intro j hj _
   rcases hk c (List.mem_of_getElem? hc)with hkid|⟨kd,hkid,hsk⟩
   ·(refine @ab _ ?_;refine ao @hkid ?_)
    exact⟨fun h=>⟨h,fun x hx=>⟨h,fun y hy=>(by cases cM hx hy;exact⟨fun e=>e rfl,fun _=>⟨h,bl j (by omega)⟩⟩)⟩⟩,fun _=>⟨fun h=>absurd h (by omega),fun _=>⟨hlt,bl k (by omega)⟩⟩⟩
   ·(refine @ab _ ?_;refine ao @hkid ?_)
    refine⟨fun h=>⟨h,fun x hx=>⟨h,fun y hy=>(by cases cM hx hy;exact⟨fun e=>e rfl,fun _=>⟨h,bl j (by omega)⟩⟩)⟩⟩,fun _=>⟨fun _=>aS (hsk _) ?_,fun h=>absurd (by omega) h⟩⟩
    (refine @ab _ ?_;refine au ?_)
    exact⟨hlt,bl k (by omega)⟩
theorem Vo(w0:W0):∀(d:Nat) (n:N) (S:St),Nd d n→bh n≤131072→aa Tryz.prog w0 57 [eN n,eN n] S (fun e S'=>e=dB true∧S'=S):=by
 intro d
 induction d with
 |zero=>
  intro n S hn ht
  have hlen:=bT n
  exact yQ w0 n S (by omega) (fun c hc=>by have h1:c.aj.length≤4:=(hn.2 c hc).1.2.2;omega) fun c hc=> .inl (hn.2 c hc).2
 |succ d ih=>
  intro n S hn ht
  have hlen:=bT n
  refine yQ w0 n S (by omega) (fun c hc=>by have h1:c.aj.length≤0:=(hn.2.2 c hc).1.2.2;omega) fun c hc=> .inr ?_
  obtain⟨_,k,hk,hkn⟩:=hn.2.2 c hc
  have hkt:=fi hc hk
  exact⟨k,hk,fun S=>ih k S hkn (by omega)⟩
theorem M6(w0:W0){k:Nat}{n:N}(h:TB k n)(hk:k≤116)(S:St):aa Tryz.prog w0 57 [eN n,eN n] S (fun e S'=>e=dB true∧S'=S):=by
 obtain⟨hr,d,hg,hd,ht⟩:=h
 exact Vo w0 d n S (ax hg) (by omega)
theorem Vm(w0:W0)(k:Nat)(n:N)(l:List C)(S:St)(h:VI k n l)(hk:k≤116):aa Tryz.prog w0 24 [eL n l,eL n l] S (fun d S'=>d=dB true∧S'=S):=by
 have hln:=h.len
 have hdn:=fun S=>M6 w0 h.dir hk S
 have hcn:=fun c (hc:c∈l) S=>M6 w0 (h.cell c hc).2.1 hk S
 refine ba [] mx Tryz.func24 rfl rfl (by kernel_rfl) ?_;(refine @ab _ ?_;refine ao @Tryz.ntmps24 ?_)
 intro b b2
 refine aq (hdn _) ?_
 (refine @ab _ ?_;refine au ?_)
 refine aE [] l.length [2,3,5] (fun k=>[(5,dI k)]) (fun k=>⟨(b2.n,[dI n.an,dB n.leaf,.sl 4 false (n.l.map dC),.sl 4 false (l.map WZ)])::(b.n,[dI n.an,dB n.leaf,.sl 4 false (n.l.map dC),.sl 4 false (l.map WZ)])::S.box,S.acc⟩) (fun _=>True) mx (by kernel_rfl) ?_ ?_
 ·(refine @ab _ ?_;exact aQ)
 ·intro j hj _
  (refine @ab _ ?_;refine au ?_)
  refine fun hlt=>⟨hlt,fun c hc=>⟨hlt,fun c2 hc2=>?_⟩⟩
  cases cM hc hc2
  refine⟨fun e=>(by rw[jr]at e;cases e),fun _=>⟨hlt,fun c3 hc3=>⟨hlt,fun c4 hc4=>?_⟩⟩⟩
  cases cM hc hc3
  cases cM hc hc4
  refine aS (hcn c (List.mem_of_getElem? hc) _) ?_
  (refine @ab _ ?_;refine au ?_)
  exact⟨hlt,bl j (by omega)⟩
end Go.Proofs.YtpjenciplibdnaaGreatDoor
namespace Go.Proofs.YtpjenciplibdnaaGreatDoor
open Aml Go
end Go.Proofs.YtpjenciplibdnaaGreatDoor
namespace Go.Proofs.YtpjenciplibdnaaGreatDoor
open Aml Go
structure BT(k:Nat)(n:N):Prop where
 tb:TB k n
 tl:TL n
 nd:(cf n).Nodup
 qW:∀p,p∈cf n→2≤p∧p≤999
theorem Av{k:Nat}{n:N}(h:BT k n)(hk:k≤116):EI n:=by
 obtain⟨hr,d,hg,hd,ht⟩:=h.tb
 exact⟨h.tl,by omega,fun e he=>by have:=oh he (ax hg);omega⟩
theorem R0{k:Nat}{n:N}{at_:List Int}(h:BT k n)(hm:oH n at_):BT k (bk n (at_,[])).1:=by
 obtain⟨hr,d,hg,hd,ht⟩:=h.tb
 have hn:=ax hg
 have hz:∀p,p∈at_→p≠0:=fun p hp=>by have:=hm.2.1 p (List.mem_append_left _ hp);omega
 have hfull:=tn (q:=(at_,[])) hn h.tl.laid hm.2.2 hz
 have hal:=DG (q:=(at_,[])) hn hm.2.2 hz
 have hsub:(at_.take (dm n)++cf n).Sublist (at_++cf n):=(List.take_sublist _ _).append (List.Sublist.refl _)
 refine⟨⟨Bc _ hr,d,oX _ hg,hd,by rw[NU _ hn];exact ht⟩,⟨Bc _ hr,vP (xJ _ hn) hfull,fun e=>Classical.not_not.1 fun z=>(wv (xJ _ hn) hfull).1 z e⟩,?_,fun p hp=>?_⟩
 ·exact(hal.trans List.perm_append_comm).nodup_iff.2 (hm.1.sublist hsub)
 ·exact hm.2.1 p (hsub.subset ((hal.trans List.perm_append_comm).mem_iff.1 hp))
structure S19 where
 key:ByteArray
 size:Int
 lay:Bool
end Go.Proofs.YtpjenciplibdnaaGreatDoor
namespace Go.Proofs.YtpjenciplibdnaaGreatDoor
open Aml Go
end Go.Proofs.YtpjenciplibdnaaGreatDoor
namespace Go.Proofs.YtpjenciplibdnaaGreatDoor
open Aml Go
def yK(k:Nat)(q q':LS):Prop:=q'.1=q.1.drop k∧∃w:List (Int×ByteArray),q'.2=q.2++w∧w.map (·.1)=q.1.take k∧∀x,x∈w→x.2.size=128
theorem yK.none(q:LS):yK 0 q q:=⟨by simp,[],by simp,by simp,fun x hx=>by cases hx⟩
theorem yK.trans{k m:Nat}{q q1 q2:LS}(h:yK k q q1)(h':yK m q1 q2):yK (k+m) q q2:=by
 obtain⟨a1,w,a2,a3,a4⟩:=h
 obtain⟨b1,v,b2,b3,b4⟩:=h'
 exact⟨by rw[b1,a1,List.drop_drop],w++v,by rw[b2,a2,List.append_assoc],by rw[List.map_append,a3,b3,a1,List.take_add],fun x hx=>(List.mem_append.1 hx).elim (a4 x) (b4 x)⟩
theorem yK.an{q:LS}{b:ByteArray}(hq:1≤q.1.length)(hb:b.size=128):yK 1 q (q.1.tail,q.2++[(q.1.headD 0,b)]):=by
 obtain⟨l,w⟩:=q
 cases l with
 |nil=>simp at hq
 |cons a l=>exact⟨rfl,[(a,b)],rfl,rfl,fun x hx=>by rw[List.mem_singleton.1 hx];exact hb⟩
theorem Ov{z i:Nat}(h:i<need (z:Int)):119*i<z:=by
 unfold need at h
 split at h <;>omega
theorem yK.value(d:ByteArray)(ps:List Int)(q:LS)(hq:(if ps=[]then need (d.size:Int)else 0)≤q.1.length):yK (if ps=[]then need (d.size:Int)else 0) q (eW d ps q).2:=by
 unfold eW
 by_cases h:need (d.size:Int)=0∨ps≠[]
 ·rw[if_pos h]
  have:(if ps=[]then need (d.size:Int)else 0)=0:=by
   by_cases e:ps=[]
   ·rw[if_pos e];exact h.resolve_right fun f=>f e
   ·rw[if_neg e]
  rw[this];exact .none q
 ·rw[if_neg h]
  have hp:ps=[]:=Classical.not_not.1 fun e=>h (.inr e)
  rw[if_pos hp]at hq ⊢
  have hl:(q.1.take (need (d.size:Int))).length=need (d.size:Int):=by rw[List.length_take];omega
  refine⟨rfl,_,rfl,?_,fun x hx=>?_⟩
  ·refine List.map_fst_zip ?_
   unfold bf;rw[List.length_map,List.length_range];exact Nat.le_refl _
  ·have hx2:=(List.of_mem_zip (a:=x.1) (b:=x.2) hx).2
   unfold bf at hx2
   rw[hl]at hx2
   obtain⟨i,hi,e⟩:=List.mem_map.1 hx2
   rw[←e]
   refine k7 3 ?_
   have h1:=ru (v:=d) (at_:=q.1.take (need (d.size:Int))) (Ov (List.mem_range.1 hi))
   unfold de
   rw[List.map_cons,List.map_nil,List.sum_cons,List.sum_nil,h1]
   unfold iz
   omega
theorem vR{b:Bool}:∀{l:List C} {q:LS},(∀c,c∈l→∀q':LS,kg b c≤q'.1.length→(∀x,x∈q'.1→x∈q.1)→yK (kg b c) q' (eP b c q').2)→gO b l≤q.1.length→yK (gO b l) q (ah b l q).2
 |[],q,_,_=>by simp only[ah,gO,List.map_nil,List.sum_nil];exact .none q
 |c::l,q,h,hq=>by
  have e:gO b (c::l)=kg b c+gO b l:=by unfold gO;rw[List.map_cons,List.sum_cons]
  rw[e]at hq ⊢
  have h1:=h c List.mem_cons_self q (by omega) fun x hx=>hx
  have hd:=h1.1
  simp only[ah]
  refine h1.trans (vR (fun c hc q' h2 h3=>h c (List.mem_cons_of_mem _ hc) q' h2 fun x hx=>?_) (by rw[hd,List.length_drop];omega))
  have:=h3 x hx
  rw[hd]at this
  exact List.mem_of_mem_drop this
theorem N9:∀{d:Nat} {kid:N},Good d kid→Fits kid→kid.leaf=true∨2≤kid.l.length
 |0,kid,hkg,_=> .inl hkg.1
 |d+1,kid,hkg,hkf=>by
  refine .inr ?_
  have h30:=hkf.1
  have hsz:=gZ hkg
  unfold ae at h30 hsz
  match hm:kid.l with
  |[]=>rw[hm]at h30;simp at h30
  |[x]=>
   rw[hm]at h30 hsz
   have:=hsz _ (List.mem_map_of_mem List.mem_cons_self)
   simp only[List.map_cons,List.map_nil,List.sum_cons,List.sum_nil]at h30 this
   rw[if_neg (by omega)]at this
   omega
  |x::y::r=>simp
theorem IV:∀(d:Nat) {n:N} {q:LS},Good d n→kG n→(ae n).sum≤122→(n.leaf=true∨2≤n.l.length)→dm n≤q.1.length→(∀x,x∈q.1→2≤x∧x≤999)→(∀p,p∈cf n→2≤p∧p≤999)→yK (dm n) q (bk n q).2:=by
 have fin:∀(d:Nat) {n:N} {q:LS},Good d n→kG n→(ae n).sum≤122→(n.leaf=true∨2≤n.l.length)→dm n≤q.1.length→(∀x,x∈q.1→2≤x∧x≤999)→(∀p,p∈cf n→2≤p∧p≤999)→
  (∀c,c∈n.l→∀q':LS,kg n.leaf c≤q'.1.length→(∀x,x∈q'.1→x∈q.1)→yK (kg n.leaf c) q' (eP n.leaf c q').2)→yK (dm n) q (bk n q).2:=by
  intro d n q hg hla hs h2 hf hr hp h
  have hn:=ax hg
  have h8:=tx (q:=q) hg hla hs h2 hf hr hp
  rw[eR hn]at hf
  rw[dH,eR hn]
  by_cases hz0:n.an≠0
  ·rw[if_pos hz0,if_pos (show n.an≠0∨(n.leaf=true∧n.l=[])from .inl hz0)];exact .none q
  ·rw[if_neg hz0]at hf
   rw[if_neg hz0]
   by_cases hz:n.leaf=true∧n.l=[]
   ·rw[if_pos hz,if_pos (show n.an≠0∨(n.leaf=true∧n.l=[])from .inr hz)];exact .none q
   ·rw[if_neg hz]at hf
    rw[if_neg hz,if_neg (show¬(n.an≠0∨(n.leaf=true∧n.l=[]))from fun e=>e.elim hz0 hz),Nat.add_comm]
    have hw:=vR (q:=q) h (by omega)
    refine hw.trans (yK.an (by rw[hw.1,List.length_drop];omega) ?_)
    exact k7 _ (h8 fun e=>e.elim hz0 hz).fits
 intro d
 induction d with
 |zero=>
  intro n q hg hla hs h2 hf hr hp
  refine fin 0 hg hla hs h2 hf hr hp fun c hc q' hq' _=>?_
  rw[hg.1]at hq' ⊢
  rw[bX]
  exact yK.value c.data c.aj q' hq'
 |succ d ih=>
  intro n q hg hla hs h2 hf hr hp
  refine fin (d+1) hg hla hs h2 hf hr hp fun c hc q' hq' hsub=>?_
  obtain⟨hsh,_,kid,hkid,hkg,hkf⟩:=hg.2.2.cell c hc
  have hrc:kg false c=dm kid:=by rw[←bq hkid];rfl
  have hal:∀p,p∈cf kid→p∈cf n:=fun p hp=>by
   rw[fQ n,hg.1]
   exact List.mem_append_right _ (List.mem_flatMap.2 ⟨c,hc,by rw[fK hkid];exact List.mem_append_right _ hp⟩)
  rw[hg.1]at hq' ⊢
  rw[hrc]at hq' ⊢
  rw[dc hkid]
  refine ih hkg ?_ hkf.2 (N9 hkg hkf) hq' (fun x hx=>hr x (hsub x hx)) fun p h=>hp p (hal p h)
  cases hla with|mk _ _ _ h3=>exact h3 hg.1 c hc kid hkid
theorem VS{k:Nat}{n:N}{at_:List Int}(h:BT k n)(hm:oH n at_):(bk n (at_,[])).2.1=at_.drop (dm n)∧(bk n (at_,[])).2.2.map (·.1)=at_.take (dm n)∧∀x,x∈(bk n (at_,[])).2.2→x.2.size=128:=by
 obtain⟨d,hg,hs,h2⟩:=h.tl.root
 obtain⟨a1,w,a2,a3,a4⟩:=IV d (q:=(at_,[])) hg h.tl.laid hs h2 hm.2.2 (fun x hx=>hm.2.1 x (List.mem_append_left _ hx)) fun x hx=>hm.2.1 x (List.mem_append_right _ hx)
 rw[List.nil_append]at a2
 rw[a2]
 exact⟨a1,a3,a4⟩
structure Ld(k:Nat)(n:N)(at_:List Int)(M:N)(R:List Int)(W:List (Int×ByteArray)):Prop where
 eq:bk n (at_,[])=(M,(R,W))
 bt:BT k M
 fr:dm M=0
 left:R=at_.drop (dm n)
 pg:W.map (·.1)=at_.take (dm n)
 sz:∀x,x∈W→x.2.size=128
 al:(cf M).Perm (cf n++at_.take (dm n))
 en:tV M=tV n
theorem Rn{k:Nat}{n:N}{at_:List Int}(h:BT k n)(hm:oH n at_):∃M R W,Ld k n at_ M R W:=by
 obtain⟨a1,a2,a3⟩:=VS h hm
 have hb:=R0 h hm
 obtain⟨d,hg,hs,h2⟩:=h.tl.root
 have hn:=ax hg
 have hz:∀p,p∈at_→p≠0:=fun p hp=>by have:=hm.2.1 p (List.mem_append_left _ hp);omega
 refine⟨(bk n (at_,[])).1,(bk n (at_,[])).2.1,(bk n (at_,[])).2.2,rfl,hb,R8 hn hm.2.2 hz,a1,a2,a3,DG hn hm.2.2 hz,?_⟩
 have he:=CH (at_,[]) hn
 unfold tV
 have hm2:∀l:List C,l.map QI=(l.map fun c=>(c.key,c.data)).map fun x=>C.mk x.1 x.2 [] []:=fun l=>by rw[List.map_map];rfl
 rw[hm2,hm2,he]
theorem qm{d:Nat}{n:N}(hn:Nd d n)(h:dm n=0)(q:LS):bk n q=(n,q):=by
 rw[dH,if_pos]
 rw[eR hn]at h
 by_cases h0:n.an≠0
 ·exact .inl h0
 ·rw[if_neg h0]at h
  by_cases h1:n.leaf=true∧n.l=[]
  ·exact .inr h1
  ·rw[if_neg h1]at h;omega
theorem IG{k:Nat}{n:N}{at_:List Int}{M:N}{R:List Int}{W:List (Int×ByteArray)}(hm:oH n at_)(h:Ld k n at_ M R W):C6 n at_= .bI [eT M,.sl 2 false (W.map nH),dL R,dB true]:=by
 unfold C6;rw[xQ hm,h.eq];rfl
end Go.Proofs.YtpjenciplibdnaaGreatDoor
