/-
  A commit's laying of a view, bucket by bucket, and of its directory: plain laws; A commit's laying of a view: what it comes to: plain laws; What is listed, as the document has it; what is small; pools as the document has them; the same; Whether a pool may be; Pages that are released, given and taken; The plain laws of what is released; The plain laws of what is taken and given; The plain laws of pages that are had; Views as the program has them, of the reference's; the trees of a view, one by one; How many pages a view takes, which it has, and which another one has lost: the program; What a view has lost, what a commit of it takes, and whether it has room: the program; What a commit of a view takes, and whether it has room: the program; the law's example; A label's versions, and what a commit makes of one: plain laws; A commit's plan: it has room for all that it does, and what it makes may be: plain laws; Pages of a list: which may be, and whether they are apart: what the program computes; A list's pages: what the program computes; A version's meta: what may be, and its page: what the program computes; A row of bytes that is written out, and turned to its own type: the run-time marks it; A meta's page: what the program computes; The document's example on pools is met; A commit's work: what the program's steps make of it; A commit's last step: its list; A commit's buckets are laid, one by one; A commit's plan: what the program computes; What is done to a version's view, step by step: plain laws; A version's pages are all pages; what begins; what its meta tells: plain laws; A commit's plan of a version that may be. By an AI agent.
-/
import Derived.Test.YtpjenciplibdnaaGreatDoorMM5
import Derived.Test.YtpjenciplibdnaaGreatDoorMM7
import Derived.Test.YtpjenciplibdnaaGreatDoorMM6
import Derived.Test.YtpjenciplibdnaaGreatDoorMM4
import Derived.Lib.SlBytesConst
set_option linter.unusedVariables false
set_option linter.unusedSimpArgs false
set_option maxRecDepth 100000
set_option maxHeartbeats 16000000
namespace Go.Proofs.YtpjenciplibdnaaGreatDoor
open Aml Go
def nZ(n:N)(key:ByteArray)(p:Int):N:=if(cB key n).getD aX=bC 2 p then n else kN key (bC 2 p) n
structure CS where
 l:List C
 n:N
 q:List Int
 w:List (Int×ByteArray)
def Cc(s:CS)(c:C):CS:=⟨s.l++[af c.key (bk (ay c) (s.q,[])).1],nZ s.n c.key (bk (ay c) (s.q,[])).1.an,(bk (ay c) (s.q,[])).2.1,s.w++(bk (ay c) (s.q,[])).2.2⟩
def eD(l:List C)(n:N)(q:List Int):CS:=l.foldl Cc ⟨[],n,q,[]⟩
theorem pZ{l:List C}{k:Nat}{c:C}(h:l[k]? =some c)(n:N)(q:List Int):eD (l.take (k+1)) n q=Cc (eD (l.take k) n q) c:=by
 unfold eD
 rw[List.take_add_one,h,Option.toList_some,List.foldl_append];rfl
def vH(l:List C)(k v:ByteArray):Prop:=∃c,c∈l∧c.key=k∧dm (ay c)=0∧v=bC 2 (ay c).an
theorem mP{l:List C}(h:dh l){a b:C}(ha:a∈l)(hb:b∈l)(e:a.key=b.key):a=b:=by
 obtain⟨i,hi⟩:=List.mem_iff_getElem?.1 ha
 obtain⟨j,hj⟩:=List.mem_iff_getElem?.1 hb
 obtain⟨u1,e1⟩:=List.getElem?_eq_some_iff.1 hi
 obtain⟨u2,e2⟩:=List.getElem?_eq_some_iff.1 hj
 have hp:=List.pairwise_iff_getElem.1 h
 rcases Nat.lt_trichotomy i j with q|q|q
 ·have:=hp i j u1 u2 q
  rw[e1,e2,e,cH]at this;cases this
 ·subst q;rw[←e1,←e2]
 ·have:=hp j i u2 u1 q
  rw[e1,e2,e,cH]at this;cases this
theorem yT{d:Nat}{n:N}(hg:Good d n){l:List C}{f:ByteArray→ByteArray}(hr:dh l)(he:df n=l.map (cO f)){c:C}(hc:c∈l):(cB c.key n).getD aX=f c.key:=by
 rw[np c.key hg,he]
 have:(l.map (cO f)).find? (fun x=>fb x.key c.key)=some (cO f c):=by
  cases h:(l.map (cO f)).find? fun x=>fb x.key c.key with
  |none=>
   have:=List.find?_eq_none.1 h (cO f c) (List.mem_map.2 ⟨c,hc,rfl⟩)
   exact absurd (cP.2 rfl) this
  |some y=>
   have h1:=List.mem_of_find?_eq_some h
   have h2:fb y.key c.key=true:=List.find?_some (p:=fun x:C=>fb x.key c.key) h
   have h2:=cP.1 h2
   obtain⟨x,hx,rfl⟩:=List.mem_map.1 h1
   rw[mP hr hx hc h2]
 rw[this];rfl
structure PV(k:Nat)(n:N)(l:List C)(q:List Int):Prop where
 vi:VI k n l
 tv:TV (n,l)
 nd:(gM (n,l)++q).Nodup
 qW:∀p,p∈gM (n,l)++q→2≤p∧p≤999
 fr:ct (n,l)≤q.length
 cl:jI (vH l) n
structure CJ(k:Nat)(n:N)(l:List C)(q:List Int)(j:Nat)(s:CS):Prop where
 len:s.l.length=j
 keys:s.l.map C.key=(l.take j).map C.key
 cell:∀(i:Nat) c x,(l.take j)[i]? =some c→s.l[i]? =some x→x=af c.key (ay x)∧TB k (ay x)∧TL (ay x)∧dm (ay x)=0∧tV (ay x)=tV (ay c)
 tb:TB k s.n
 tl:TL s.n
 fr:dm s.n=dm n
 Ye:cf s.n=cf n
 cl:jI (vH l) s.n
 en:∃f:ByteArray→ByteArray,(∀k,(f k).size=2)∧df s.n=l.map (cO f)∧∀x,x∈s.l→f x.key=bC 2 (ay x).an
 left:s.q=q.drop (nD (l.take j))
 wr:s.w.map (·.1)=q.take (nD (l.take j))
 sz:∀x,x∈s.w→x.2.size=128
 al:(pR s.l).Perm (pR (l.take j)++q.take (nD (l.take j)))
theorem OY{k:Nat}{n:N}{l:List C}{q:List Int}(h:PV k n l q):CJ k n l q 0 (eD (l.take 0) n q):=by
 obtain⟨f,hf,he⟩:=h.vi.en
 have hz:nD (l.take 0)=0:=rfl
 refine⟨rfl,rfl,fun i c x h1 h2=>(by simp at h1),h.vi.dir,h.tv.dir,rfl,rfl,h.cl,⟨f,hf,he,fun x hx=>(by cases hx)⟩,by rw[hz];rfl,by rw[hz];rfl,fun x hx=>(by cases hx),by rw[hz];exact .refl _⟩
theorem RJ{l:List C}{j:Nat}{c:C}(h:l[j]? =some c):nD (l.take (j+1))=nD (l.take j)+dm (ay c):=by
 rw[List.take_add_one,h,Option.toList_some,IC]
theorem TC{l:List C}{j:Nat}{c:C}(h:l[j]? =some c):pR (l.take (j+1))=pR (l.take j)++cf (ay c):=by
 rw[List.take_add_one,h,Option.toList_some,pr]
 simp[pR]
theorem EX{l:List C}{c:C}(h:c∈l):(cf (ay c)).Sublist (pR l):=by
 obtain⟨A,B,rfl⟩:=List.append_of_mem h
 unfold pR
 rw[List.flatMap_append,List.flatMap_cons]
 exact(List.sublist_append_left _ _).trans (List.sublist_append_right _ _)
theorem ND{l:List C}{f:ByteArray→ByteArray}{c:C}{v:ByteArray}(hr:dh l)(hc:c∈l):pJ c.key v (l.map (cO f))=l.map (cO (vg f c.key v)):=by
 obtain⟨A,B,rfl⟩:=List.append_of_mem hc
 unfold dh at hr
 rw[List.pairwise_append,List.pairwise_cons]at hr
 have h1:∀a,a∈A→cF a.key c.key=true:=fun a ha=>hr.2.2 a ha c List.mem_cons_self
 have h2:∀b,b∈B→cF c.key b.key=true:=hr.2.1.1
 have:=xC (name:=c.key) (val:=v) (A:=A.map (cO f)) (B:=B.map (cO f)) (M:=[cO f c]) (map_lt h1) (yj h2) (fun m hm=>by rw[List.mem_singleton]at hm;subst hm;rfl)
 rw[List.map_append,List.map_cons]
 rw[show A.map (cO f)++cO f c::B.map (cO f)=A.map (cO f)++[cO f c]++B.map (cO f)by simp,this,List.map_append,List.map_cons,kv fun a ha=>bH (h1 a ha),kv (A:=B) fun b hb=>(bH (h2 b hb)).symm,yp (c:=c) (x:=c.key) rfl]
theorem Qe{k:Nat}{n:N}{l:List C}{f:ByteArray→ByteArray}{P:ByteArray→ByteArray→Prop}{c:C}{v:ByteArray}(htb:TB k n)(htl:TL n)(hcl:jI P n)(hf:∀k,(f k).size=2)(he:df n=l.map (cO f))(hr:dh l)(hc:c∈l)(hk:gI c.key=true)(hv:v.size=2)(hp:¬P c.key (f c.key)):
 TB k (kN c.key v n)∧TL (kN c.key v n)∧jI P (kN c.key v n)∧dm (kN c.key v n)=dm n∧cf (kN c.key v n)=cf n∧df (kN c.key v n)=l.map (cO (vg f c.key v)):=by
 obtain⟨hne,hsz⟩:=dw hk
 obtain⟨⟨d,hg,hs,h2⟩,d1,hg1,hd1,ht1⟩:=htb
 have hdd:=oh (ax hg) (ax hg1)
 subst hdd
 have hx:cO f c∈df n:=by rw[he];exact List.mem_map.2 ⟨c,hc,rfl⟩
 obtain⟨i1,i2,i3,i4⟩:=IJ hsz (by omega:v.size≤16) hg hs h2 hcl hx rfl hp (by show(f c.key).size=_;rw[hf,hv])
 obtain⟨hr1,hen⟩:=lj (val:=v) hne hsz (by omega) ⟨d,hg,hs,h2⟩
 obtain⟨e,hge,hse,h2e⟩:=hr1
 have hnd:=gz hsz (by omega:v.size≤400) (ax hg)
 rw[←i1]at hnd
 have hde:=oh (ax hge) hnd
 subst hde
 refine⟨⟨⟨_,hge,hse,h2e⟩,_,hge,hd1,by rw[i4];exact ht1⟩,xn htl hne hsz (by omega),nx (ax hge) (fun _ _ h=>h.1) (BM hsz (by omega) hg hcl),i2,i3,?_⟩
 rw[hen,he,ND hr hc]
theorem E7{k:Nat}{n:N}{l:List C}{q:List Int}{j:Nat}{s:CS}{c:C}(h:PV k n l q)(hc:l[j]? =some c)(hs:CJ k n l q j s):oH (ay c) s.q∧(∃M R W,Ld k (ay c) s.q M R W)∧CJ k n l q (j+1) (Cc s c):=by
 have hcm:=List.mem_of_getElem? hc
 obtain⟨hce,htb,hok⟩:=h.vi.cell c hcm
 have htl:=h.tv.cell c hcm
 have hnd:=h.nd
 have hsub:(cf (ay c)).Sublist (gM (n,l)):=(EX hcm).trans (List.sublist_append_right _ _)
 have hqs:s.q.Sublist q:=by rw[hs.left];exact List.drop_sublist _ _
 have hfr:=RJ hc
 have hle:=J8 l (j+1)
 have hfq:=h.fr
 have hfv:ct (n,l)=dm n+nD l:=rfl
 have hql:s.q.length=q.length-nD (l.take j):=by rw[hs.left,List.length_drop]
 have hbt:BT k (ay c):=⟨htb,htl,(List.nodup_append.1 hnd).1.sublist hsub,fun p hp=>h.qW p (List.mem_append_left _ (hsub.subset hp))⟩
 have hm:oH (ay c) s.q:=⟨(List.perm_append_comm.nodup_iff.1 hnd).sublist (hqs.append hsub),fun p hp=>by
  rcases List.mem_append.1 hp with hp|hp
  ·exact h.qW p (List.mem_append_right _ (hqs.subset hp))
  ·exact h.qW p (List.mem_append_left _ (hsub.subset hp)),by omega⟩
 obtain⟨M,R,W,hd⟩:=Rn hbt hm
 refine⟨hm,⟨M,R,W,hd⟩,?_⟩
 have ek:Cc s c=⟨s.l++[af c.key M],nZ s.n c.key M.an,R,s.w++W⟩:=by unfold Cc;rw[hd.eq]
 rw[ek]
 obtain⟨f,hf,hen,hfx⟩:=hs.en
 obtain⟨d,hg,hsz,h2⟩:=hs.tb.1
 have hfind:=yT hg h.vi.bP hen hcm
 have hkey:∀x,x∈s.l→x.key≠c.key:=fun x hx e=>by
  have hxk:x.key∈(l.take j).map C.key:=by rw[←hs.keys];exact List.mem_map.2 ⟨x,hx,rfl⟩
  obtain⟨y,hy,e2⟩:=List.mem_map.1 hxk
  have hyc:=mP h.vi.bP (List.mem_of_mem_take hy) hcm (e2.trans e)
  obtain⟨i,hi⟩:=List.mem_iff_getElem?.1 hy
  have hij:i<j:=by have:=(List.getElem?_eq_some_iff.1 hi).1;rw[List.length_take]at this;omega
  rw[List.getElem?_take,if_pos hij,hyc]at hi
  obtain⟨u1,e1⟩:=List.getElem?_eq_some_iff.1 hi
  obtain⟨u2,e3⟩:=List.getElem?_eq_some_iff.1 hc
  have:=(List.pairwise_iff_getElem.1 h.vi.bP) i j u1 u2 hij
  rw[e1,e3,cH]at this;cases this
 have hdir:TB k (nZ s.n c.key M.an)∧TL (nZ s.n c.key M.an)∧jI (vH l) (nZ s.n c.key M.an)∧dm (nZ s.n c.key M.an)=dm s.n∧cf (nZ s.n c.key M.an)=cf s.n∧
  ∃f:ByteArray→ByteArray,(∀k,(f k).size=2)∧df (nZ s.n c.key M.an)=l.map (cO f)∧(∀x,x∈s.l→f x.key=bC 2 (ay x).an)∧f c.key=bC 2 M.an:=by
  unfold nZ
  by_cases e:(cB c.key s.n).getD aX=bC 2 M.an
  ·rw[if_pos e]
   exact⟨hs.tb,hs.tl,hs.cl,rfl,rfl,f,hf,hen,hfx,hfind.symm.trans e⟩
  ·rw[if_neg e]
   have hno:¬vH l c.key (f c.key):=by
    rintro⟨c',h1,h2,h3,h4⟩
    have:=mP h.vi.bP h1 hcm h2
    subst this
    obtain⟨d',hn'⟩:=tT htl
    have e2:=qm hn' h3 (s.q,[])
    rw[hd.eq]at e2
    have:M=ay c':=congrArg Prod.fst e2
    rw[hfind,this]at e
    exact e h4
   obtain⟨p1,p2,p3,p4,p5,p6⟩:=Qe (v:=bC 2 M.an) hs.tb hs.tl hs.cl hf hen h.vi.bP hcm hok (aA _ _) hno
   exact⟨p1,p2,p3,p4,p5,_,qI hf (aA _ _),p6,fun x hx=>by rw[Ew (hkey x hx)];exact hfx x hx,ES⟩
 obtain⟨p1,p2,p3,p4,p5,g,g1,g2,g3,g4⟩:=hdir
 refine⟨by rw[List.length_append,hs.len];rfl,by rw[List.take_add_one,hc,Option.toList_some,List.map_append,List.map_append,hs.keys];rfl,fun i a x h1 h2=>?_,p1,p2,p4.trans hs.fr,p5.trans hs.Ye,p3,⟨g,g1,g2,fun x hx=>?_⟩,?_,?_,fun x hx=>?_,?_⟩
 ·by_cases hi:i<j
  ·rw[List.getElem?_append_left (by rw[hs.len];exact hi)]at h2
   refine hs.cell i a x ?_ h2
   rw[List.getElem?_take,if_pos (by omega)]at h1
   rw[List.getElem?_take,if_pos hi];exact h1
  ·have hi2:i=j:=by
    have:=(List.getElem?_eq_some_iff.1 h1).1
    rw[List.length_take]at this;omega
   subst hi2
   rw[List.getElem?_append_right (by rw[hs.len];exact Nat.le_refl _),hs.len,Nat.sub_self]at h2
   cases h2
   rw[List.getElem?_take,if_pos (by omega),hc]at h1
   cases h1
   exact⟨rfl,hd.bt.tb,hd.bt.tl,hd.fr,hd.en⟩
 ·rcases List.mem_append.1 hx with hx|hx
  ·exact g3 x hx
  ·rw[List.mem_singleton]at hx;subst hx;exact g4
 ·rw[hd.left,hs.left,List.drop_drop,hfr]
 ·rw[List.map_append,hs.wr,hd.pg,hs.left,hfr,List.take_add]
 ·exact(List.mem_append.1 hx).elim (hs.sz x) (hd.sz x)
 ·rw[pr,TC hc,hfr,List.take_add]
  have e1:pR [af c.key M]=cf M:=by simp[pR,wM]
  rw[e1]
  have:=hd.al
  rw[hs.left]at this
  exact(hs.al.append this).trans (BY _ _ _ _)
theorem yc{k:Nat}{n:N}{l:List C}{q:List Int}(h:PV k n l q):∀j,j≤l.length→CJ k n l q j (eD (l.take j) n q)
 |0,_=>OY h
 |j+1,hj=>by
  have hc:l[j]? =some l[j]:=List.getElem?_eq_getElem (by omega)
  rw[pZ hc]
  exact(E7 h hc (yc h j (by omega))).2.2
theorem Kk{d:Nat}{n:N}(hn:Nd d n)(h:dm n≠0)(q:LS):∃A b,(bk n q).2.2=A++[((bk n q).1.an,b)]:=by
 have h0:¬(n.an≠0∨(n.leaf=true∧n.l=[])):=fun e=>h (by
  rw[eR hn]
  rcases e with e|e
  ·rw[if_pos e]
  ·rw[if_pos e];split <;>rfl)
 rw[dH,if_neg h0]
 exact⟨_,_,rfl⟩
theorem I6{k:Nat}{n:N}{l:List C}(hv:VI k n l)(hcl:jI (vH l) n)(h:dm n=0):nD l=0:=by
 obtain⟨hr,d,hg,hd,ht⟩:=hv.dir
 obtain⟨f,hf,hen⟩:=hv.en
 have hz:∀c,c∈l→dm (ay c)=0:=fun c hc=>by
  have he:cO f c∈df n:=by rw[hen];exact List.mem_map.2 ⟨c,hc,rfl⟩
  rw[eR (ax hg)]at h
  have hp:n.an≠0:=fun e=>by
   rw[if_neg (fun z=>z e)]at h
   by_cases hq:n.leaf=true∧n.l=[]
   ·rw[cA hq.1,hq.2]at he;cases he
   ·rw[if_neg hq]at h;omega
  obtain⟨c',h1,h2,h3,_⟩:=hcl.one hp _ he
  rw[mP hv.bP h1 hc h2]at h3
  exact h3
 unfold nD
 clear hv hcl hen
 induction l with
 |nil=>rfl
 |cons c l ih=>
  rw[List.map_cons,List.sum_cons,hz c List.mem_cons_self,ih fun x hx=>hz x (List.mem_cons_of_mem _ hx)]
structure PA(k:Nat)(n:N)(l:List C)(q:List Int)(M:N)(X:List C)(R:List Int)(W:List (Int×ByteArray)):Prop where
 vi:VI k M X
 tv:TV (M,X)
 fr:ct (M,X)=0
 al:(gM (M,X)).Perm (gM (n,l)++q.take (ct (n,l)))
 cl:jI (vH X) M
 left:R=q.drop (ct (n,l))
 wr:W.map (·.1)=q.take (ct (n,l))
 sz:∀x,x∈W→x.2.size=128
 keys:X.map C.key=l.map C.key
 abf:∀(i:Nat) c x,l[i]? =some c→X[i]? =some x→tV (ay x)=tV (ay c)
 last:ct (n,l)≠0→∃A b,W=A++[(M.an,b)]
theorem M4{k:Nat}{n:N}{l:List C}{q:List Int}(h:PV k n l q):oH (eD l n q).n (eD l n q).q∧BT k (eD l n q).n∧∃M R W,Ld k (eD l n q).n (eD l n q).q M R W∧PA k n l q M (eD l n q).l R ((eD l n q).w++W):=by
 have hs:=yc h l.length (Nat.le_refl _)
 rw[List.take_length]at hs
 generalize eD l n q=s at*
 have hnd:=h.nd
 have hql:s.q.length=q.length-nD l:=by rw[hs.left,List.take_length,List.length_drop]
 have hfq:=h.fr
 have hfv:ct (n,l)=dm n+nD l:=rfl
 have hqs:s.q.Sublist q:=by rw[hs.left];exact List.drop_sublist _ _
 have hsub:(cf s.n).Sublist (gM (n,l)):=by rw[hs.Ye];exact List.sublist_append_left _ _
 have hbt:BT k s.n:=⟨hs.tb,hs.tl,(List.nodup_append.1 hnd).1.sublist hsub,fun p hp=>h.qW p (List.mem_append_left _ (hsub.subset hp))⟩
 have hfs:=hs.fr
 have hm:oH s.n s.q:=⟨(List.perm_append_comm.nodup_iff.1 hnd).sublist (hqs.append hsub),fun p hp=>by
  rcases List.mem_append.1 hp with hp|hp
  ·exact h.qW p (List.mem_append_right _ (hqs.subset hp))
  ·exact h.qW p (List.mem_append_left _ (hsub.subset hp)),by omega⟩
 obtain⟨M,R,W,hd⟩:=Rn hbt hm
 refine⟨hm,hbt,M,R,W,hd,?_⟩
 obtain⟨f,hf,hen,hfx⟩:=hs.en
 have hkeys:s.l.map C.key=l.map C.key:=by have:=hs.keys;rwa [List.take_length]at this
 have hmap:l.map (cO f)=s.l.map (cO f):=by
  have e:∀l:List C,l.map (cO f)=(l.map C.key).map fun k=>C.mk k (f k) [] []:=fun l=>by rw[List.map_map];rfl
  rw[e,e,hkeys]
 obtain⟨d,hg,hsz,h2⟩:=hs.tb.1
 have hnm:=ax hg
 have heM:df M=s.l.map (cO f):=by
  have:=wJ (s.q,[]) hnm fun x hx=>by
   rw[hen]at hx
   obtain⟨c,_,rfl⟩:=List.mem_map.1 hx
   have:=hf c.key
   show(f c.key).size≤16
   omega
  rw[hd.eq]at this
  rw[this,hen,hmap]
 have hcell:∀x,x∈s.l→∃c,c∈l∧x=af c.key (ay x)∧TB k (ay x)∧TL (ay x)∧dm (ay x)=0:=fun x hx=>by
  obtain⟨i,hi⟩:=List.mem_iff_getElem?.1 hx
  have hil:i<l.length:=by have:=(List.getElem?_eq_some_iff.1 hi).1;have:=hs.len;omega
  have hc:l[i]? =some l[i]:=List.getElem?_eq_getElem hil
  obtain⟨a1,a2,a3,a4,a5⟩:=hs.cell i _ x (by rw[List.take_length];exact hc) hi
  exact⟨_,List.mem_of_getElem? hc,a1,a2,a3,a4⟩
 have hrise:dh s.l:=by
  have h1:(l.map C.key).Pairwise fun a b=>cF a b=true:=List.pairwise_map.2 h.vi.bP
  rw[←hkeys]at h1
  exact List.pairwise_map.1 h1
 have hfl:nD s.l=0:=by
  unfold nD
  have:∀X:List C,(∀x,x∈X→dm (ay x)=0)→(X.map fun c=>dm (ay c)).sum=0:=fun X=>by
   induction X with
   |nil=>intro _;rfl
   |cons c X ih=>intro hX;rw[List.map_cons,List.sum_cons,hX c List.mem_cons_self,ih fun x hx=>hX x (List.mem_cons_of_mem _ hx)]
  exact this _ fun x hx=>by obtain⟨_,_,_,_,_,e⟩:=hcell x hx;exact e
 obtain⟨dM,hnM⟩:=tT hd.bt.tl
 refine⟨⟨hd.bt.tb,hrise,fun x hx=>?_,by rw[hs.len];exact h.vi.len,f,hf,heM⟩,⟨hd.bt.tl,fun x hx=>by obtain⟨_,_,_,_,e,_⟩:=hcell x hx;exact e⟩,?_,?_,?_,?_,?_,fun x hx=>?_,hkeys,fun i c x h1 h2=>?_,fun hf0=>?_⟩
 ·obtain⟨c,hc,e1,e2,e3,e4⟩:=hcell x hx
  have e5:x.key=c.key:=by rw[e1];rfl
  exact⟨by rw[e5];exact e1,e2,by rw[e5];exact(h.vi.cell c hc).2.2⟩
 ·show dm M+nD s.l=0
  rw[hd.fr,hfl]
 ·have h1:=hd.al
  have h2:=hs.al
  rw[List.take_length]at h2
  rw[hs.Ye,hs.fr,hs.left,List.take_length]at h1
  show(cf M++pR s.l).Perm ((cf n++pR l)++q.take (dm n+nD l))
  rw[Nat.add_comm,List.take_add]
  exact(h1.append h2).trans ((BY _ _ _ _).trans (List.Perm.append_left _ List.perm_append_comm))
 ·refine Dd hnM fun e he=>?_
  rw[heM]at he
  obtain⟨x,hx,rfl⟩:=List.mem_map.1 he
  obtain⟨_,_,_,_,_,e⟩:=hcell x hx
  exact⟨x,hx,rfl,e,hfx x hx⟩
 ·rw[hd.left,hs.left,List.take_length,List.drop_drop,hfs]
  show _=q.drop (dm n+nD l)
  rw[Nat.add_comm]
 ·rw[List.map_append,hs.wr,hd.pg,hs.left,List.take_length,hfs]
  show _=q.take (dm n+nD l)
  rw[Nat.add_comm,List.take_add]
 ·exact(List.mem_append.1 hx).elim (hs.sz x) (hd.sz x)
 ·exact(hs.cell i c x (by rw[List.take_length];exact h1) h2).2.2.2.2
 ·have hn0:dm s.n≠0:=fun e=>hf0 (by
   rw[hfs]at e
   show dm n+nD l=0
   rw[e,I6 h.vi h.cl e])
  obtain⟨A,b,e⟩:=Kk hnm hn0 (s.q,[])
  rw[hd.eq]at e
  have e:W=A++[(M.an,b)]:=e
  exact⟨s.w++A,b,by rw[e,List.append_assoc]⟩
theorem Q5{l:List Wt}{k:Nat}{a:Wt}(h:l[k]? =some a):a.aj.length≤nW l:=by
 have h1:=EB h
 have h2:=QW l (k+1)
 omega
def Small(p:Pl):Prop:=p.free.length+nW p.wait≤200∧p.wait.length≤40∧p.high<1048576∧ -4096<p.high
theorem RW{a b:Pl}(h1:a.high=b.high)(h2:a.free=b.free)(h3:a.wait=b.wait):a=b:=by
 cases a;cases b;simp at *;exact⟨h1,h2,h3⟩
def za(h:Int)(w:Wt):Prop:=w.aj=[]∨¬Row w.aj h
theorem Sa(w0:W0)(w:Wt)(S:St)(b:Nat)(h:Int)(ds:List DV)(hb:lk S.box b=some (dI h::ds))(h0:w.aj.length≤1048576):aa Tryz.prog w0 102 [dW w,.v (.pointer (some ⟨b,0,none⟩))] S (fun d S'=>d=dB (pB (za h w))∧S'=S):=by
 refine ba [] mx Tryz.func102 rfl rfl (by kernel_rfl) ?_;simp only[Tryz.ntmps102,List.length_cons,List.length_nil,Nat.reduceAdd,Nat.reduceSub,List.reduceReplicate,List.cons_append,List.nil_append];simp(maxDischargeDepth:=12) (maxSteps:=1000000) -implicitDefEqProofs only[Tryz.ntmps102,go_sem,Nat.reduceAdd,Nat.reduceSub,Nat.reduceMul,Nat.reduceLeDiff,Nat.reduceEqDiff,Nat.reduceGT,Nat.reduceBEq,reduceCtorEq,↓reduceIte,Int.reduceToNat,Int.reduceLE,Int.reduceLT,Int.reduceNe,Int.reduceEq,hb]
 intro b1
 refine⟨fun h=> .inl (List.eq_nil_of_length_eq_zero (by omega)),fun hne=>?_⟩
 refine aq (row w0 w.aj h _ (by omega)) ?_
 simp(maxDischargeDepth:=12) (maxSteps:=1000000) -implicitDefEqProofs only[go_sem,Nat.reduceAdd,Nat.reduceSub,Nat.reduceMul,Nat.reduceLeDiff,Nat.reduceEqDiff,Nat.reduceGT,Nat.reduceBEq,reduceCtorEq,↓reduceIte,Int.reduceToNat,Int.reduceLE,Int.reduceLT,Int.reduceNe,Int.reduceEq]
 exact⟨.inr,fun hw=>hw.resolve_left fun e=>hne (by rw[e];rfl)⟩
theorem TZ(w0:W0)(l:List Wt)(S:St)(b:Nat)(h:Int)(ds:List DV)(hb:lk S.box b=some (dI h::ds))(h0:l.length≤1048576)(h1:nW l≤1048576):
 aa Tryz.prog w0 163 [.sl 2 false (l.map dW),.v (.func (.func 102) #[] #[.pointer (some ⟨b,0,none⟩)])] S (fun d S'=>(∃z:Int,d=dI z∧(0≤z↔∃w,w∈l∧za h w))∧S'=S):=by
 refine nB [] mx Tryz.func163 rfl rfl (by kernel_rfl) ?_;simp(maxDischargeDepth:=12) (maxSteps:=1000000) -implicitDefEqProofs only[Tryz.ntmps163,go_sem,Nat.reduceAdd,Nat.reduceSub,Nat.reduceMul,Nat.reduceLeDiff,Nat.reduceEqDiff,Nat.reduceGT,Nat.reduceBEq,reduceCtorEq,↓reduceIte,Int.reduceToNat,Int.reduceLE,Int.reduceLT,Int.reduceNe,Int.reduceEq]
 refine aE [] l.length [0,1,7,8] (fun k=>[(8,dI k)]) (fun _=>S) (fun k=>∀(i:Nat) w,i<k→l[i]? =some w→¬za h w) mx (by kernel_rfl) ?_ ?_
 ·simp(maxDischargeDepth:=12) (maxSteps:=1000000) -implicitDefEqProofs only[go_sem,Nat.reduceAdd,Nat.reduceSub,Nat.reduceMul,Nat.reduceLeDiff,Nat.reduceEqDiff,Nat.reduceGT,Nat.reduceBEq,reduceCtorEq,↓reduceIte,Int.reduceToNat,Int.reduceLE,Int.reduceLT,Int.reduceNe,Int.reduceEq]
  intro i w hi;omega
 ·intro k hk hup
  simp(maxDischargeDepth:=12) (maxSteps:=1000000) -implicitDefEqProofs only[go_sem,Nat.reduceAdd,Nat.reduceSub,Nat.reduceMul,Nat.reduceLeDiff,Nat.reduceEqDiff,Nat.reduceGT,Nat.reduceBEq,reduceCtorEq,↓reduceIte,Int.reduceToNat,Int.reduceLE,Int.reduceLT,Int.reduceNe,Int.reduceEq]
  refine⟨fun hlt=>⟨hlt,fun a ha=>?_⟩,fun hge=>⟨-1,rfl,fun h=>by omega,fun⟨w,hw,hr⟩=>?_⟩⟩
  ·have:=Q5 ha
   refine aq (Sa w0 a S b h ds hb (by omega)) ?_
   simp(maxDischargeDepth:=12) (maxSteps:=1000000) -implicitDefEqProofs only[go_sem,Nat.reduceAdd,Nat.reduceSub,Nat.reduceMul,Nat.reduceLeDiff,Nat.reduceEqDiff,Nat.reduceGT,Nat.reduceBEq,reduceCtorEq,↓reduceIte,Int.reduceToNat,Int.reduceLE,Int.reduceLT,Int.reduceNe,Int.reduceEq]
   refine⟨fun hw=>⟨k,rfl,fun _=>⟨a,List.mem_of_getElem? ha,hw⟩,fun _=>by omega⟩,fun hw=>⟨hlt,fun i w hi hc=>?_,bw (by omega) (by omega)⟩⟩
   by_cases e:i=k
   ·subst e;cases cM ha hc;exact hw
   ·exact hup i w (by omega) hc
  ·obtain⟨i,hi⟩:=List.getElem?_of_mem hw
   exact absurd hr (hup i w (by have:=(List.getElem?_eq_some_iff.1 hi).1;omega) hi)
theorem Gd(w0:W0)(l:List Wt)(S:St)(b:Nat)(h:Int)(ds:List DV)(hb:lk S.box b=some (dI h::ds))(h0:l.length≤1048576)(h1:nW l≤1048576):
 aa Tryz.prog w0 104 [.sl 2 false (l.map dW),.v (.func (.func 102) #[] #[.pointer (some ⟨b,0,none⟩)])] S (fun d S'=>d=dB (pB (∃w,w∈l∧za h w))∧S'=S):=by
 refine ba [] mx Tryz.func104 rfl rfl (by kernel_rfl) ?_;simp(maxDischargeDepth:=12) (maxSteps:=1000000) -implicitDefEqProofs only[Tryz.ntmps104,go_sem,Nat.reduceAdd,Nat.reduceSub,Nat.reduceMul,Nat.reduceLeDiff,Nat.reduceEqDiff,Nat.reduceGT,Nat.reduceBEq,reduceCtorEq,↓reduceIte,Int.reduceToNat,Int.reduceLE,Int.reduceLT,Int.reduceNe,Int.reduceEq]
 refine bA (TZ w0 l S b h ds hb h0 h1) ?_
 rintro d S' ⟨⟨z,rfl,hz⟩,rfl⟩
 simp(maxDischargeDepth:=12) (maxSteps:=1000000) -implicitDefEqProofs only[go_sem,Nat.reduceAdd,Nat.reduceSub,Nat.reduceMul,Nat.reduceLeDiff,Nat.reduceEqDiff,Nat.reduceGT,Nat.reduceBEq,reduceCtorEq,↓reduceIte,Int.reduceToNat,Int.reduceLE,Int.reduceLT,Int.reduceNe,Int.reduceEq]
 exact hz
def G4(p:Pl)(q:Int):Prop:=(∀(i:Nat) a c,0<i→p.wait[i]? =some a→p.wait[i-1]? =some c→c.bS<a.bS)∧(∀w,w∈p.wait→¬za p.high w)∧2≤p.high∧p.high≤q∧Row p.free p.high∧Row (listed p) p.high
theorem check(w0:W0)(p:Pl)(q:Int)(S:St)(h0:p.wait.length≤1048576)(h1:p.free.length+nW p.wait≤1048576):aa Tryz.prog w0 52 [dP p,dI q] S (fun d S'=>d=dB (pB (G4 p q))∧S'=S):=by
 refine ba [] mx Tryz.func52 rfl rfl (by kernel_rfl) ?_;simp(maxDischargeDepth:=12) (maxSteps:=1000000) -implicitDefEqProofs only[Tryz.ntmps52,go_sem,Nat.reduceAdd,Nat.reduceSub,Nat.reduceMul,Nat.reduceLeDiff,Nat.reduceEqDiff,Nat.reduceGT,Nat.reduceBEq,reduceCtorEq,↓reduceIte,Int.reduceToNat,Int.reduceLE,Int.reduceLT,Int.reduceNe,Int.reduceEq]
 intro b
 refine aE [] p.wait.length [1,2,9,10] (fun k=>[(10,dI k)]) (fun _=>⟨(b.n,[dI p.high,dL p.free,.sl 2 false (p.wait.map dW)])::S.box,S.acc⟩) (fun k=>∀(i:Nat) a c,i<k→0<i→p.wait[i]? =some a→p.wait[i-1]? =some c→c.bS<a.bS) mx (by kernel_rfl) ?_ ?_
 ·simp(maxDischargeDepth:=12) (maxSteps:=1000000) -implicitDefEqProofs only[go_sem,Nat.reduceAdd,Nat.reduceSub,Nat.reduceMul,Nat.reduceLeDiff,Nat.reduceEqDiff,Nat.reduceGT,Nat.reduceBEq,reduceCtorEq,↓reduceIte,Int.reduceToNat,Int.reduceLE,Int.reduceLT,Int.reduceNe,Int.reduceEq]
  intro i a c hi;omega
 ·intro k hk hup
  simp(maxDischargeDepth:=12) (maxSteps:=1000000) -implicitDefEqProofs only[go_sem,Nat.reduceAdd,Nat.reduceSub,Nat.reduceMul,Nat.reduceLeDiff,Nat.reduceEqDiff,Nat.reduceGT,Nat.reduceBEq,reduceCtorEq,↓reduceIte,Int.reduceToNat,Int.reduceLE,Int.reduceLT,Int.reduceNe,Int.reduceEq]
  refine⟨fun hlt=>⟨fun hp=>⟨hlt,fun a ha=>?_⟩,fun hp=>⟨hlt,fun i a c hi h0=>by omega,bw (by omega) (by omega)⟩⟩,fun hge=>?_⟩
  ·rw[bw (by omega) (by omega),bw (by omega) (by omega)]
   have e:((k:Int)-1).toNat=k-1:=by omega
   rw[e]
   refine⟨by omega,by omega,fun c hc=>⟨fun hle hk=>?_,fun hle=>⟨hlt,fun i x y hi h0 hx hy=>?_,by omega⟩⟩⟩
   ·have:=hk.1 k a c (by omega) ha hc;omega
   ·by_cases e:i=k
    ·subst e;cases cM ha hx;cases cM hc hy;omega
    ·exact hup i x y (by omega) h0 hx hy
  ·have hup':∀(i:Nat) a c,0<i→p.wait[i]? =some a→p.wait[i-1]? =some c→c.bS<a.bS:=fun i a c h0 ha hc=>hup i a c (by have:=(List.getElem?_eq_some_iff.1 ha).1;omega) h0 ha hc
   refine aS (Gd w0 p.wait _ b.n p.high _ (fg _ _ _) h0 (by omega)) ?_
   simp(maxDischargeDepth:=12) (maxSteps:=1000000) -implicitDefEqProofs only[go_sem,Nat.reduceAdd,Nat.reduceSub,Nat.reduceMul,Nat.reduceLeDiff,Nat.reduceEqDiff,Nat.reduceGT,Nat.reduceBEq,reduceCtorEq,↓reduceIte,Int.reduceToNat,Int.reduceLE,Int.reduceLT,Int.reduceNe,Int.reduceEq]
   refine⟨fun hw=>⟨fun h2=>⟨fun hq=>?_,fun hq hk=>hq hk.2.2.2.1⟩,fun h2 hk=>h2 hk.2.2.1⟩,fun hw hk=>hw fun⟨w,hm,hr⟩=>hk.2.1 w hm hr⟩
   refine aS (row w0 p.free p.high _ (by omega)) ?_
   simp(maxDischargeDepth:=12) (maxSteps:=1000000) -implicitDefEqProofs only[go_sem,Nat.reduceAdd,Nat.reduceSub,Nat.reduceMul,Nat.reduceLeDiff,Nat.reduceEqDiff,Nat.reduceGT,Nat.reduceBEq,reduceCtorEq,↓reduceIte,Int.reduceToNat,Int.reduceLE,Int.reduceLT,Int.reduceNe,Int.reduceEq]
   refine⟨fun hf=>?_,fun hf hk=>hf hk.2.2.2.2.1⟩
   refine aS (xP w0 p _ h0 h1) ?_
   simp(maxDischargeDepth:=12) (maxSteps:=1000000) -implicitDefEqProofs only[go_sem,Nat.reduceAdd,Nat.reduceSub,Nat.reduceMul,Nat.reduceLeDiff,Nat.reduceEqDiff,Nat.reduceGT,Nat.reduceBEq,reduceCtorEq,↓reduceIte,Int.reduceToNat,Int.reduceLE,Int.reduceLT,Int.reduceNe,Int.reduceEq]
   refine aS (row w0 (listed p) p.high _ (by unfold listed;rw[aV,pF];omega)) ?_
   simp(maxDischargeDepth:=12) (maxSteps:=1000000) -implicitDefEqProofs only[go_sem,Nat.reduceAdd,Nat.reduceSub,Nat.reduceMul,Nat.reduceLeDiff,Nat.reduceEqDiff,Nat.reduceGT,Nat.reduceBEq,reduceCtorEq,↓reduceIte,Int.reduceToNat,Int.reduceLE,Int.reduceLT,Int.reduceNe,Int.reduceEq]
   exact⟨fun h=>⟨hup',fun w hm hr=>hw ⟨w,hm,hr⟩,h2,hq,hf,h⟩,fun h=>h.2.2.2.2.2⟩
def fW(o:Int)(h:Bool)(l:List Wt):List Wt:=l.filter fun w=>h&&decide (o<w.bS)
def iG(o:Int)(h:Bool)(l:List Wt):List Wt:=l.filter fun w=>!(h&&decide (o<w.bS))
def release(p:Pl)(o:Int)(h:Bool):Pl:=⟨p.high,cX (flat (p.free::ny (iG o h p.wait))),fW o h p.wait⟩
theorem sU{l:List Wt}{k:Nat}{a:Wt}(o:Int)(h:Bool)(ha:l[k]? =some a):fW o h (l.take (k+1))=fW o h (l.take k)++if h&&decide (o<a.bS)then [a]else []:=by
 rw[wL ha];unfold fW;rw[List.filter_append];simp[List.filter_cons]
theorem zY{l:List Wt}{k:Nat}{a:Wt}(o:Int)(h:Bool)(ha:l[k]? =some a):iG o h (l.take (k+1))=iG o h (l.take k)++if h&&decide (o<a.bS)then []else [a]:=by
 rw[wL ha];unfold iG;rw[List.filter_append]
 congr 1
 simp only[List.filter_cons,List.filter_nil]
 cases hb:(h&&decide (o<a.bS)) <;>rfl
theorem F0(o:Int)(h:Bool)(l:List Wt):(fW o h l).length≤l.length:=List.length_filter_le _ _
theorem ER(o:Int)(h:Bool)(l:List Wt):(iG o h l).length≤l.length:=List.length_filter_le _ _
theorem GW(f:Wt→Bool)(l:List Wt):nW (l.filter f)≤nW l:=by
 induction l with
 |nil=>simp[nW]
 |cons a l ih=>
  rw[List.filter_cons]
  split
  ·simp only[nW,List.map_cons,List.sum_cons]at *;omega
  ·simp only[nW,List.map_cons,List.sum_cons]at *;omega
@[go_sem] theorem CB (l:List Wt):(ny l).length=l.length:=List.length_map _
theorem rS(l m:List Wt):ny (l++m)=ny l++ny m:=List.map_append
theorem JT{l:List Wt}{k:Nat}{a:Wt}{o:Int}{h:Bool}(ha:l[k]? =some a)(hh:h=true)(ht:a.bS>o):fW o h (l.take (k+1))=fW o h (l.take k)++[a]∧iG o h (l.take (k+1))=iG o h (l.take k):=by
 rw[sU o h ha,zY o h ha,hh];simp[show o<a.bS from ht]
theorem EW{l:List Wt}{k:Nat}{a:Wt}{o:Int}{h:Bool}(ha:l[k]? =some a)(ht:h=false∨¬a.bS>o):fW o h (l.take (k+1))=fW o h (l.take k)∧iG o h (l.take (k+1))=iG o h (l.take k)++[a]:=by
 have hb:(h&&decide (o<a.bS))=false:=by
  rcases ht with rfl|ht
  ·rfl
  ·rw[decide_eq_false (by omega),Bool.and_false]
 rw[sU o h ha,zY o h ha,hb];simp
theorem zK(w0:W0)(p:Pl)(o:Int)(h:Bool)(S:St)(h0:p.wait.length≤1048576)(h1:p.free.length+nW p.wait≤1048576):aa Tryz.prog w0 32 [dP p,dU o,dB h] S (fun d S'=>d=dP (release p o h)∧S'=S):=by
 refine ba [10] mx Tryz.func32 rfl rfl (by kernel_rfl) ?_;simp(maxDischargeDepth:=12) (maxSteps:=1000000) -implicitDefEqProofs only[Tryz.ntmps32,go_sem,Nat.reduceAdd,Nat.reduceSub,Nat.reduceMul,Nat.reduceLeDiff,Nat.reduceEqDiff,Nat.reduceGT,Nat.reduceBEq,reduceCtorEq,↓reduceIte,Int.reduceToNat,Int.reduceLE,Int.reduceLT,Int.reduceNe,Int.reduceEq]
 intro b b1
 refine o7 8 2 rfl (by omega) fun l2=>I9 7 rfl (by omega) fun l1=>?_
 (refine @ab _ ?_;refine au ?_)
 refine aE [10] p.wait.length [1,2,3,6,7,8,15,16,17] (fun k=>[(7,.acc l1.n ((iG o h (p.wait.take k)).length+1)),(8,.acc l2.n (fW o h (p.wait.take k)).length),(17,dI k)]) (fun k=>⟨(b1.n,[dI 0,.sl 0 true [],.sl 0 true []])::(b.n,[dI p.high,dL p.free,.sl 2 false (p.wait.map dW)])::S.box,(l1.n,.tl 1 ((p.free::ny (iG o h (p.wait.take k))).map dL))::(l2.n,.arr 2 ((fW o h (p.wait.take k)).map dW))::S.acc⟩) (fun k=>True) mx (by kernel_rfl) ?_ ?_
 ·(refine @ab _ ?_;refine au ?_)
  simp[iG,fW,ny,uD,sA]
 ·intro k hk _
  (refine @ab _ ?_;refine au ?_)
  have g1:=F0 o h (p.wait.take k)
  have g2:=ER o h (p.wait.take k)
  rw[List.length_take]at g1 g2
  refine⟨fun hlt=>⟨hlt,fun a ha b2=>⟨fun hh=>⟨fun ht=>?_,fun ht=>?_⟩,fun hh=>?_⟩⟩,fun hge=>?_⟩
  ·obtain⟨e1,e2⟩:=JT ha hh ht
   rw[e1,e2,List.length_append,List.map_append]
   exact⟨by omega,by unfold maxLen;omega,hlt,⟨.refl _,.refl _,bw (by omega) (by omega)⟩,.bz (.refl _)⟩
  ·obtain⟨e1,e2⟩:=EW ha (.inr ht)
   rw[e1,e2,List.length_append,rS,List.map_append]
   exact⟨by omega,by unfold maxLen;omega,hlt,⟨.refl _,.refl _,bw (by omega) (by omega)⟩,.bz (.refl _)⟩
  ·obtain⟨e1,e2⟩:=EW ha (.inl hh)
   rw[e1,e2,List.length_append,rS,List.map_append]
   exact⟨by omega,by unfold maxLen;omega,hlt,⟨.refl _,.refl _,bw (by omega) (by omega)⟩,.bz (.refl _)⟩
  ·rw[List.take_of_length_le (by omega)]
   refine jx [] [7,8] mx (by kernel_rfl) ?_
   (refine @ab _ ?_;refine au ?_)
   refine aS (ko w0 (p.free::ny (iG o h p.wait)) _ ?_ ?_) ?_
   ·rw[List.length_cons,CB];have:=ER o h p.wait;omega
   ·rw[pF];have:=GW (fun w=>!(h&&decide (o<w.bS))) p.wait;unfold iG;omega
   (refine @ab _ ?_;refine au ?_)
   exact .refl _
theorem TD(w0:W0)(l:List Wt)(S:St)(h0:l.length≤1048576):aa Tryz.prog w0 185 [.sl 2 false (l.map dW)] S fun d S'=>∃b:FN S.acc,d= .acc b.n (l.map dW).length∧S'=⟨S.box,(b.n,.arr 2 (l.map dW))::S.acc⟩:=by
 refine I7 2 (by omega) ?_
 refine nB [] mx Tryz.func185 rfl rfl (by kernel_rfl) ?_;simp(maxDischargeDepth:=12) (maxSteps:=1000000) -implicitDefEqProofs only[Tryz.ntmps185,go_sem,Nat.reduceAdd,Nat.reduceSub,Nat.reduceMul,Nat.reduceLeDiff,Nat.reduceEqDiff,Nat.reduceGT,Nat.reduceBEq,reduceCtorEq,↓reduceIte,Int.reduceToNat,Int.reduceLE,Int.reduceLT,Int.reduceNe,Int.reduceEq]
 intro b hb
 refine⟨fun h1=> .inl ⟨Classical.byContradiction fun hn=>?_,0,rfl⟩,fun h1=>⟨by omega,by unfold maxLen;omega,fun c=> .inr ⟨c,rfl,rfl⟩⟩⟩
 rw[hb hn]at h1;cases h1
def mR(p:Pl)(t:Int)(l:List Int):Pl:=if l=[]then p else match p.wait[p.wait.length-1]? with
 |some w=>if w.bS=t then⟨p.high,p.free,p.wait.set (p.wait.length-1) ⟨t,cX (w.aj++l)⟩⟩else⟨p.high,p.free,p.wait++[⟨t,cX l⟩]⟩
 |none=>⟨p.high,p.free,p.wait++[⟨t,cX l⟩]⟩
theorem Io{p:Pl}{t:Int}{l:List Int}{w:Wt}(hl:¬l=[])(h:p.wait[p.wait.length-1]? =some w)(ht:w.bS=t):mR p t l=⟨p.high,p.free,p.wait.set (p.wait.length-1) ⟨t,cX (w.aj++l)⟩⟩:=by
 unfold mR;rw[if_neg hl,h];simp only[if_pos ht]
theorem my{p:Pl}{t:Int}{l:List Int}(hl:¬l=[])(h:∀w,p.wait[p.wait.length-1]? =some w→¬w.bS=t):mR p t l=⟨p.high,p.free,p.wait++[⟨t,cX l⟩]⟩:=by
 unfold mR;rw[if_neg hl]
 cases hw:p.wait[p.wait.length-1]? with
 |none=>rfl
 |some w=>simp only[if_neg (h w hw)]
theorem kI(l:List Int):flat [l]=l:=by simp[flat]
theorem A8(l m:List Int):flat [l,m]=l++m:=by simp[flat]
theorem Wp(w0:W0)(p:Pl)(t:Int)(l:List Int)(S:St)(h0:p.wait.length≤1048576)(h1:nW p.wait+l.length≤1048576):aa Tryz.prog w0 132 [dP p,dU t,dL l] S (fun d S'=>d=dP (mR p t l)∧S'=S):=by
 refine ba [] mx Tryz.func132 rfl rfl (by kernel_rfl) ?_;simp(maxDischargeDepth:=12) (maxSteps:=1000000) -implicitDefEqProofs only[Tryz.ntmps132,go_sem,Nat.reduceAdd,Nat.reduceSub,Nat.reduceMul,Nat.reduceLeDiff,Nat.reduceEqDiff,Nat.reduceGT,Nat.reduceBEq,reduceCtorEq,↓reduceIte,Int.reduceToNat,Int.reduceLE,Int.reduceLT,Int.reduceNe,Int.reduceEq]
 intro b b1
 refine⟨fun he=>?_,fun hne=>?_⟩
 ·rw[show mR p t l=p from if_pos (List.eq_nil_of_length_eq_zero (by omega))];exact .refl _
 have hl:¬l=[]:=fun e=>hne (by rw[e];rfl)
 refine bA (TD w0 p.wait _ h0) ?_
 rintro d S' ⟨c,rfl,rfl⟩
 (refine @ab _ ?_;refine au ?_)
 have hw:IntKind.i64.wrap (↑p.wait.length-1)= ↑p.wait.length-1:=bw (by omega) (by omega)
 have e:((p.wait.length:Int)-1).toNat=p.wait.length-1:=by omega
 rw[hw,e]
 refine⟨fun hp=>⟨hp,by omega,by omega,fun a ha=>⟨fun ht=>⟨hp,by omega,by omega,fun a3 ha3=>?_⟩,fun ht=>?_⟩⟩,fun hn=>?_⟩
 ·cases cM ha ha3
  have:=Q5 ha
  refine aS (ko w0 [a.aj,l] _ (by simp) (by rw[A8,List.length_append];omega)) ?_ ⟨.full _ _ _,trivial⟩
  (refine @ab _ ?_;refine aY @hw @e ?_)
  refine⟨hp,by omega,by omega,fun a4 ha4=>?_⟩
  cases cM ha ha4
  rw[Io hl ha ht,A8,←ht]
  have e3:(List.map dW p.wait).set (p.wait.length-1) (.agg [.v (.int .u64 a.bS),.sl 1 false (List.map dI (cX (a.aj++l)))])=List.map dW (p.wait.set (p.wait.length-1) ⟨a.bS,cX (a.aj++l)⟩):=(List.map_set (f:=dW) (a:=⟨a.bS,cX (a.aj++l)⟩)).symm
  rw[e3]
  exact .refl _
 ·refine aS (ko w0 [l] _ (by simp) (by rw[kI];omega)) ?_ ⟨.full _ _ _,trivial⟩
  (refine @ab _ ?_;refine au ?_)
  rw[my hl (fun w hw'=>by cases cM ha hw';exact ht),kI,List.map_append]
  exact⟨by omega,by unfold maxLen;omega,.refl _⟩
 ·refine aS (ko w0 [l] _ (by simp) (by rw[kI];omega)) ?_ ⟨.full _ _ _,trivial⟩
  (refine @ab _ ?_;refine au ?_)
  rw[my hl (fun w hw'=>by have:=(List.getElem?_eq_some_iff.1 hw').1;omega),kI,List.map_append]
  exact⟨by omega,by unfold maxLen;omega,.refl _⟩
def bP(h:Int)(n:Nat):List Int:=(List.range n).map fun(i:Nat)=>h+(i:Int)
theorem kW(h:Int)(n:Nat):bP h (n+1)=bP h n++[h+n]:=by unfold bP;rw[List.range_succ,List.map_append];rfl
theorem jg(h:Int)(n:Nat):(bP h n).length=n:=by simp[bP]
def aW(p:Pl)(m:Int):Nat:=min m.toNat p.free.length
def cV(p:Pl)(m:Int):List Int:=(cX p.free).take (aW p m)++bP p.high (m.toNat-aW p m)
def take(p:Pl)(m:Int):Pl:=⟨p.high+(m.toNat-aW p m:Nat),(cX p.free).drop (aW p m),p.wait⟩
def may(p:Pl)(q m:Int):Prop:=0≤m∧m≤dg p q
theorem VE(w0:W0)(p:Pl)(q m:Int)(S:St)(h0:p.free.length≤1048576)(h1: -1099511627776≤p.high)(h2:p.high≤1048576)(h3: -1099511627776≤q)(h4:q≤1048576):
 aa Tryz.prog w0 179 [dP p,dI q,dI m] S (fun d S'=>(may p q m→d= .bI [dP (take p m),dL (cV p m),dB true]∧S'=S)∧(¬may p q m→d= .bI [dP p,.sl 1 false [],dB false]∧S'=S)):=by
 by_cases hm:may p q m
 ·refine aa.mono (K:=fun d S'=>d= .bI [dP (take p m),dL (cV p m),dB true]∧S'=S) ?_ fun d S' h=>⟨fun _=>h,fun k=>absurd hm k⟩
  refine ba [] mx Tryz.func179 rfl rfl (by kernel_rfl) ?_;simp(maxDischargeDepth:=12) (maxSteps:=1000000) -implicitDefEqProofs only[Tryz.ntmps179,go_sem,Nat.reduceAdd,Nat.reduceSub,Nat.reduceMul,Nat.reduceLeDiff,Nat.reduceEqDiff,Nat.reduceGT,Nat.reduceBEq,reduceCtorEq,↓reduceIte,Int.reduceToNat,Int.reduceLE,Int.reduceLT,Int.reduceNe,Int.reduceEq]
  intro b b1
  have hr:dg p q≤2199023255552:=by unfold dg;split <;>omega
  refine⟨fun h=>absurd hm.1 (by omega),fun h=>?_⟩
  refine aq (room w0 p q _ h0 (by omega) (by omega) (by omega) (by omega)) ?_
  (refine @ab _ ?_;refine au ?_)
  refine⟨fun h'=>absurd hm.2 (by omega),fun h'=>?_⟩
  refine aq (ko w0 [p.free] _ (by simp) (by rw[kI];omega)) ?_ ⟨.full _ _ _,trivial⟩
  (refine @ab _ ?_;refine ao @kI ?_)
  have ho:aW p m≤p.free.length:=Nat.min_le_right _ _
  have ho2:aW p m≤m.toNat:=Nat.min_le_left _ _
  have hmin:(if((cX p.free).length:Int)<m then((cX p.free).length:Int)else m)=(aW p m:Int):=by
   rw[aV];unfold aW
   split <;>omega
  rw[hmin]
  simp only[Int.toNat_natCast,aV]
  have hx:((cX p.free).take (aW p m)).length=aW p m:=by rw[List.length_take,aV];omega
  refine⟨by omega,by omega,by omega,by omega,?_⟩
  refine I9 11 rfl (by omega) fun l=>?_
  (refine @ab _ ?_;refine ao @hx ?_)
  refine aE [] (m.toNat-aW p m) [2,3,6,11] (fun k=>[(11,.acc l.n (aW p m+k))]) (fun k=>⟨(b1.n,[dI 0,.sl 0 true [],.sl 0 true []])::(b.n,[dI (p.high+k),dL ((cX p.free).drop (aW p m)),.sl 2 false (p.wait.map dW)])::S.box,(l.n,.tl 1 (((cX p.free).take (aW p m)++bP p.high k).map dI))::S.acc⟩) (fun _=>True) mx (by kernel_rfl) ?_ ?_
  ·(refine @ab _ ?_;refine au ?_)
   simp[bP,sA,uD]
  ·intro k hk _
   have hm0:=hm.1
   have hm1:=hm.2
   have hlen:((cX p.free).take (aW p m)++bP p.high k).length=aW p m+k:=by rw[List.length_append,hx,jg]
   (refine @ab _ ?_;refine aY @jg @hx ?_)
   refine⟨fun hlt=>⟨by omega,by unfold maxLen;omega,by omega,?_,?_⟩,fun hge=>?_⟩
   ·exact .refl _
   ·rw[bw (by omega) (by omega),kW,←List.append_assoc,List.map_append]
    have e:p.high+(k:Int)+1=p.high+((k+1:Nat):Int):=by omega
    rw[e]
    exact .refl _
   ·have e:k=m.toNat-aW p m:=by omega
    subst e
    exact .refl _
 ·refine aa.mono (K:=fun d S'=>d= .bI [dP p,.sl 1 false [],dB false]∧S'=S) ?_ fun d S' h=>⟨fun k=>absurd k hm,fun _=>h⟩
  refine ba [] mx Tryz.func179 rfl rfl (by kernel_rfl) ?_;simp(maxDischargeDepth:=12) (maxSteps:=1000000) -implicitDefEqProofs only[Tryz.ntmps179,go_sem,Nat.reduceAdd,Nat.reduceSub,Nat.reduceMul,Nat.reduceLeDiff,Nat.reduceEqDiff,Nat.reduceGT,Nat.reduceBEq,reduceCtorEq,↓reduceIte,Int.reduceToNat,Int.reduceLE,Int.reduceLT,Int.reduceNe,Int.reduceEq]
  intro b b1
  intro h
  refine aq (room w0 p q _ h0 (by omega) (by omega) (by omega) (by omega)) ?_
  (refine @ab _ ?_;refine au ?_)
  unfold may at hm
  exact fun h'=>absurd ⟨by omega,by omega⟩ hm
def rK(l:List Wt):List Int:=(ny l).flatten
theorem qx(f:List Int)(l:List Wt):flat (f::ny l)=f++rK l:=rfl
theorem mh(a:Wt)(l:List Wt):rK (a::l)=a.aj++rK l:=rfl
theorem P8(l:List Wt):(rK l).length=nW l:=by have:=pF [] l;rw[qx]at this;simpa using this
theorem cC(p:Pl):listed p=cX (p.free++rK p.wait):=rfl
theorem C3(o:Int)(h:Bool)(a:Wt)(l:List Wt):fW o h (a::l)=if h&&decide (o<a.bS)then a::fW o h l else fW o h l:=by simp[fW,List.filter_cons]
theorem zR(o:Int)(h:Bool)(a:Wt)(l:List Wt):iG o h (a::l)=if h&&decide (o<a.bS)then iG o h l else a::iG o h l:=by
 unfold iG;rw[List.filter_cons]
 cases hb:(h&&decide (o<a.bS)) <;>rfl
theorem HC(o:Int)(h:Bool)(l:List Wt):(rK (iG o h l)++rK (fW o h l)).Perm (rK l):=by
 induction l with
 |nil=>exact .refl _
 |cons a l ih=>
  rw[C3,zR,mh]
  cases hb:(h&&decide (o<a.bS))with
  |true=>
   simp only[if_true]
   rw[mh]
   have h1:(rK (iG o h l)++(a.aj++rK (fW o h l))).Perm (a.aj++(rK (iG o h l)++rK (fW o h l))):=by
    rw[←List.append_assoc,←List.append_assoc];exact List.perm_append_comm.append_right _
   exact h1.trans (ih.append_left _)
  |false=>
   simp only[Bool.false_eq_true,if_false]
   rw[mh,List.append_assoc]
   exact ih.append_left _
theorem lu(p:Pl):(listed p).length=p.free.length+nW p.wait:=by rw[cC,aV,List.length_append,P8]
theorem mr(p:Pl)(o:Int)(h:Bool):listed (release p o h)=listed p:=by
 rw[cC,cC]
 refine vJ ?_
 unfold release
 simp only[qx]
 exact((bJ _).append_right _).trans (by rw[List.append_assoc];exact(HC o h _).append_left _)
theorem tG{α:Type}{R:α→α→Prop}(ht:∀a b c,R a b→R b c→R a c){l:List α}(h:∀(i:Nat) a c,0<i→l[i]? =some a→l[i-1]? =some c→R c a):l.Pairwise R:=by
 induction l with
 |nil=>exact .nil
 |cons x l ih=>
  have ih':=ih fun i a c h0 ha hc=>h (i+1) a c (by omega) (by simpa using ha) (by
   have e:i+1-1=(i-1)+1:=by omega
   rw[e];simpa using hc)
  refine List.pairwise_cons.2 ⟨fun y hy=>?_,ih'⟩
  cases l with
  |nil=>cases hy
  |cons z l=>
   have hxz:R x z:=h 1 z x (by omega) rfl rfl
   rcases List.mem_cons.1 hy with rfl|hy
   ·exact hxz
   ·exact ht _ _ _ hxz ((List.pairwise_cons.1 ih').1 y hy)
theorem tq{α:Type}{R:α→α→Prop}{l:List α}(h:l.Pairwise R):∀(i:Nat) a c,0<i→l[i]? =some a→l[i-1]? =some c→R c a:=by
 intro i a c h0 ha hc
 obtain⟨h1,rfl⟩:=List.getElem?_eq_some_iff.1 ha
 obtain⟨h2,rfl⟩:=List.getElem?_eq_some_iff.1 hc
 exact List.pairwise_iff_getElem.1 h _ _ h2 h1 (by omega)
theorem lQ(l:List Int)(high:Int):Row l high↔(∀a,a∈l→2≤a∧a<high)∧l.Pairwise (·<·):=by
 constructor
 ·intro h
  refine⟨fun a ha=>?_,tG (R:=fun(x y:Int)=>x<y) (fun _ _ _ h k=>Int.lt_trans h k) fun i a c h0 ha hc=>(mX h ha).2.2 c h0 hc⟩
  obtain⟨i,hi⟩:=List.getElem?_of_mem ha
  exact⟨(mX h hi).1,(mX h hi).2.1⟩
 ·rintro⟨h1,h2⟩ i a hi ha
  have:=h1 a (List.mem_of_getElem? ha)
  exact⟨this.1,this.2,fun b h0 hb=>tq h2 i a b h0 ha hb⟩
theorem Ad{l:List Int}(h1:l.Pairwise (·≤·))(h2:l.Nodup):l.Pairwise (·<·):=by
 induction l with
 |nil=>exact .nil
 |cons a l ih=>
  obtain⟨p1,p2⟩:=List.pairwise_cons.1 h1
  obtain⟨q1,q2⟩:=List.nodup_cons.1 h2
  refine List.pairwise_cons.2 ⟨fun b hb=>?_,ih p2 q2⟩
  have:=p1 b hb
  have:a≠b:=fun e=>q1 (e▸hb)
  omega
theorem jQ{l:List Int}(h:l.Pairwise (·<·)):l.Nodup:=h.imp fun h e=>by omega
theorem j5(l:List Int)(high:Int):Row (cX l) high↔(∀a,a∈l→2≤a∧a<high)∧l.Nodup:=by
 rw[lQ]
 constructor
 ·rintro⟨h1,h2⟩
  exact⟨fun a ha=>h1 a ((bJ l).mem_iff.2 ha),(bJ l).nodup_iff.1 (jQ h2)⟩
 ·rintro⟨h1,h2⟩
  exact⟨fun a ha=>h1 a ((bJ l).mem_iff.1 ha),Ad (qs l) ((bJ l).nodup_iff.2 h2)⟩
theorem T8(o:Int)(h:Bool)(l:List Wt):(rK (iG o h l)).Sublist (rK l):=by
 induction l with
 |nil=>exact .refl _
 |cons a l ih=>
  rw[zR,mh]
  split
  ·exact ih.trans (List.sublist_append_right _ _)
  ·rw[mh];exact(List.Sublist.refl _).append ih
theorem Ah(p:Pl)(o:Int)(h:Bool)(q:Int)(hc:G4 p q):G4 (release p o h) q:=by
 obtain⟨c1,c2,c3,c4,c5,c6⟩:=hc
 have c6':=c6
 rw[cC,j5]at c6
 refine⟨?_,fun w hw=>c2 w (List.mem_filter.1 hw).1,c3,c4,?_,?_⟩
 ·refine tq (R:=fun(c a:Wt)=>c.bS<a.bS) ?_
  exact(tG (R:=fun(c a:Wt)=>c.bS<a.bS) (fun _ _ _ h k=>Int.lt_trans h k) c1).filter _
 ·show Row (cX (flat _)) p.high
  rw[j5,qx]
  have hs:(p.free++rK (iG o h p.wait)).Sublist (p.free++rK p.wait):=(List.Sublist.refl _).append (T8 o h _)
  exact⟨fun a ha=>c6.1 a (hs.subset ha),c6.2.sublist hs⟩
 ·rw[mr];exact c6'
theorem As(h:Int)(m:Nat):∀n,bP h (m+n)=bP h m++bP (h+m) n
 |0=>by simp[bP]
 |n+1=>by
  rw[←Nat.add_assoc,kW,As h m n,kW,List.append_assoc]
  congr 3
  rw[Int.natCast_add];omega
theorem kF{h x:Int}{n:Nat}:x∈bP h n↔h≤x∧x<h+n:=by
 induction n with
 |zero=>simp[bP] <;>omega
 |succ n ih=>rw[kW,List.mem_append,ih];simp;omega
theorem si(h:Int)(n:Nat):(bP h n).Pairwise (·<·):=by
 induction n with
 |zero=>exact .nil
 |succ n ih=>
  rw[kW,List.pairwise_append]
  refine⟨ih,List.pairwise_cons.2 ⟨fun _ h=>by simp at h,.nil⟩,fun a ha b hb=>?_⟩
  simp only[List.mem_singleton]at hb
  have:=(kF.1 ha).2;omega
theorem ze(l:List Int)(k:Nat):cX ((cX l).drop k)=(cX l).drop k:=BB ((qs l).sublist (List.drop_sublist k _))
theorem mZ(p:Pl)(m:Int):(take p m).free.length=p.free.length-aW p m:=by
 show((cX p.free).drop (aW p m)).length=_
 rw[List.length_drop,aV]
theorem kj(p:Pl)(m:Int):(cV p m).length=m.toNat:=by
 unfold cV
 rw[List.length_append,List.length_take,aV,jg]
 have h1:aW p m≤p.free.length:=Nat.min_le_right _ _
 have h2:aW p m≤m.toNat:=Nat.min_le_left _ _
 omega
theorem KW(p:Pl){a b:Int}(ha:0≤a)(hb:0≤b):cV p (a+b)=cV p a++cV (take p a) b∧take (take p a) b=take p (a+b):=by
 have e1:aW (take p a) b=min b.toNat (p.free.length-aW p a):=by unfold aW;rw[mZ];rfl
 have e2:aW p (a+b)=aW p a+aW (take p a) b:=by rw[e1];unfold aW;omega
 have h1:aW p a≤p.free.length:=Nat.min_le_right _ _
 have h2:aW p a≤a.toNat:=Nat.min_le_left _ _
 have h3:aW (take p a) b≤b.toNat:=Nat.min_le_left _ _
 have e3:(a+b).toNat-aW p (a+b)=(a.toNat-aW p a)+(b.toNat-aW (take p a) b):=by omega
 have e4:cX (take p a).free=(cX p.free).drop (aW p a):=ze _ _
 constructor
 ·unfold cV
  rw[e2,e4,show(a+b).toNat-(aW p a+aW (take p a) b)=(a.toNat-aW p a)+(b.toNat-aW (take p a) b)by rw[←e2];exact e3,As,List.take_add]
  show _=_++(_++bP (p.high+((a.toNat-aW p a:Nat):Int)) _)
  by_cases hr:a.toNat-aW p a=0
  ·rw[hr];simp[bP]
  ·have hn:aW (take p a) b=0:=by
    rw[e1];unfold aW at *;omega
   rw[hn];simp
 ·unfold take
  rw[e4.symm.trans e4]at*
  have e5:cX (List.drop (aW p a) (cX p.free))=List.drop (aW p a) (cX p.free):=ze _ _
  have e6:aW ⟨p.high+((a.toNat-aW p a:Nat):Int),List.drop (aW p a) (cX p.free),p.wait⟩ b=aW (take p a) b:=rfl
  simp only[e6,e5,List.drop_drop,e2]
  refine RW ?_ rfl rfl
  simp only
  omega
theorem wg{p:Pl}{q a:Int}(hq:p.high≤q)(h:may p q a):dg (take p a) q=dg p q-a∧(take p a).high≤q:=by
 obtain⟨h0,h1⟩:=h
 have e1:aW p a=min a.toNat p.free.length:=rfl
 have e2:=mZ p a
 have e3:(take p a).high=p.high+((a.toNat-aW p a:Nat):Int):=rfl
 unfold dg at*
 rw[e2,e3]
 split at h1 <;>split <;>omega
theorem vr(p:Pl)(m:Int):(cV p m++(take p m).free).Perm (p.free++bP p.high (m.toNat-aW p m)):=by
 show(((cX p.free).take (aW p m)++bP _ _)++(cX p.free).drop (aW p m)).Perm _
 have h1:(((cX p.free).take (aW p m)++bP p.high (m.toNat-aW p m))++(cX p.free).drop (aW p m)).Perm (((cX p.free).take (aW p m)++(cX p.free).drop (aW p m))++bP p.high (m.toNat-aW p m)):=by
  rw[List.append_assoc,List.append_assoc];exact List.perm_append_comm.append_left _
 refine h1.trans ?_
 rw[List.take_append_drop]
 exact(bJ _).append_right _
theorem vY{p:Pl}{q:Int}(hc:G4 p q)(m:Int):(∀x,x∈cV p m++((take p m).free++rK p.wait)→2≤x∧x<(take p m).high)∧(cV p m++((take p m).free++rK p.wait)).Nodup:=by
 obtain⟨-, -,c3, -, -,c6⟩:=hc
 rw[cC,j5]at c6
 obtain⟨d1,d2⟩:=c6
 have hp:(cV p m++((take p m).free++rK p.wait)).Perm ((p.free++rK p.wait)++bP p.high (m.toNat-aW p m)):=by
  rw[←List.append_assoc]
  refine((vr p m).append_right _).trans ?_
  rw[List.append_assoc,List.append_assoc]
  exact List.perm_append_comm.append_left _
 have e3:(take p m).high=p.high+((m.toNat-aW p m:Nat):Int):=rfl
 constructor
 ·intro x hx
  rw[hp.mem_iff,List.mem_append,kF]at hx
  rcases hx with hx|hx
  ·have:=d1 x hx;omega
  ·omega
 ·rw[hp.nodup_iff,List.nodup_append]
  refine⟨d2,jQ (si _ _),fun a ha b hb e=>?_⟩
  subst e
  have:=d1 a ha
  have:=(kF.1 hb).1
  omega
theorem zH{p:Pl}{q:Int}(hc:G4 p q):cX p.free=p.free∧(∀x,x∈p.free→2≤x∧x<p.high)∧p.free.Pairwise (·<·):=by
 have:=(lQ _ _).1 hc.2.2.2.2.1
 exact⟨BB (this.2.imp fun h=>by omega),this.1,this.2⟩
def jc(p:Pl):List Int:=p.free++rK p.wait
def SP(n:Nat)(h:Nat→Bool):List Int:=((List.range n).filter h).map fun(i:Nat)=>(i:Int)
structure og(top:Nat)(p:Pl)(h:Nat→Bool)(bS:Int):Prop where
 pQ:G4 p top
 own:∀i,h i=true→2≤i∧(i:Int)<p.high∧(i:Int)∉jc p
 all:∀x:Int,2≤x→x<p.high→x∈jc p∨h x.toNat=true
 old:∀w,w∈p.wait→w.bS<bS
theorem sa{p:Pl}{q:Int}(h:G4 p q):(∀x,x∈jc p→2≤x∧x<p.high)∧(jc p).Nodup:=by
 have:=h.2.2.2.2.2;rw[cC,j5]at this;exact this
theorem EF{n:Nat}{h:Nat→Bool}{x:Int}:x∈SP n h↔0≤x∧x<n∧h x.toNat=true:=by
 unfold SP
 simp only[List.mem_map,List.mem_filter,List.mem_range]
 constructor
 ·rintro⟨i,⟨h1,h2⟩,rfl⟩
  exact⟨by omega,by omega,by simpa using h2⟩
 ·rintro⟨h1,h2,h3⟩
  exact⟨x.toNat,⟨by omega,h3⟩,by omega⟩
theorem Gy(n:Nat)(h:Nat→Bool):(SP n h).Nodup:=by
 unfold SP
 have h1:((List.range n).filter h).Nodup:=(List.nodup_range).sublist List.filter_sublist
 unfold List.Nodup at*
 rw[List.pairwise_map]
 exact h1.imp fun hne e=>hne (Int.ofNat.inj e)
theorem uK{top:Nat}{p:Pl}{h:Nat→Bool}{bS:Int}(k:og top p h bS):((listed p).length:Int)+(SP top h).length=p.high-2:=by
 obtain⟨c1,c2⟩:=sa k.pQ
 have hq:=k.pQ.2.2.2.1
 have h2:=k.pQ.2.2.1
 have hn:(jc p++SP top h).Nodup:=by
  rw[List.nodup_append]
  refine⟨c2,Gy _ _,fun a ha b hb e=>?_⟩
  subst e
  obtain⟨g1,g2,g3⟩:=EF.1 hb
  have:=(k.own a.toNat g3).2.2
  rw[Int.toNat_of_nonneg g1]at this
  exact this ha
 have hp:(jc p++SP top h).Perm (bP 2 (p.high-2).toNat):=by
  refine(List.perm_ext_iff_of_nodup hn (jQ (si _ _))).2 fun x=>?_
  rw[List.mem_append,kF,EF]
  constructor
  ·rintro(hx|⟨g1,g2,g3⟩)
   ·have:=c1 x hx;omega
   ·have:=k.own _ g3;omega
  ·rintro⟨g1,g2⟩
   rcases k.all x g1 (by omega)with hx|hx
   ·exact .inl hx
   ·exact .inr ⟨by omega,by omega,hx⟩
 have:=hp.length_eq
 rw[List.length_append,jg]at this
 have e:(listed p).length=(jc p).length:=by rw[cC,aV];rfl
 rw[e];omega
theorem pq{top:Nat}{p:Pl}{h:Nat→Bool}{bS:Int}(k:og top p h bS)(o:Int)(b:Bool):og top (release p o b) h bS:=by
 have hp:(jc (release p o b)).Perm (jc p):=by
  have h1:=mr p o b
  rw[cC,cC]at h1
  exact(bJ _).symm.trans (h1▸bJ _)
 refine⟨Ah p o b _ k.pQ,fun i hi=>?_,fun x h1 h2=>?_,fun w hw=>k.old w (List.mem_filter.1 hw).1⟩
 ·have:=k.own i hi
  exact⟨this.1,this.2.1,fun hx=>this.2.2 (hp.mem_iff.1 hx)⟩
 ·exact(k.all x h1 h2).imp (fun hx=>hp.mem_iff.2 hx) id
def marks(h:Nat→Bool)(l:List Int):Nat→Bool:=fun i=>h i||decide ((i:Int)∈l)
theorem L9{p:Pl}{q m:Int}(hc:G4 p q)(hm:may p q m):G4 (take p m) q:=by
 obtain⟨d1,d2⟩:=vY hc m
 obtain⟨f1,f2,f3⟩:=zH hc
 have hh:=(wg hc.2.2.2.1 hm).2
 have hhi:(take p m).high=p.high+((m.toNat-aW p m:Nat):Int):=rfl
 have h2:=hc.2.2.1
 refine⟨hc.1,fun w hw hr=>hc.2.1 w hw ?_,by omega,hh,?_,?_⟩
 ·refine hr.imp id fun hr hrow=>hr ?_
  rw[lQ]at*
  exact⟨fun a ha=>by have:=hrow.1 a ha;omega,hrow.2⟩
 ·rw[lQ]
  refine⟨fun a ha=>d1 a (List.mem_append_right _ (List.mem_append_left _ ha)),?_⟩
  show((cX p.free).drop (aW p m)).Pairwise (·<·)
  rw[f1];exact f3.sublist (List.drop_sublist _ _)
 ·rw[cC,j5]
  exact⟨fun x hx=>d1 x (List.mem_append_right _ hx),(List.nodup_append.1 d2).2.1⟩
theorem oR(p:Pl)(m x:Int):(x∈cV p m∨x∈jc (take p m))↔(x∈jc p∨(p.high≤x∧x<(take p m).high)):=by
 have h1:=(vr p m).mem_iff (a:=x)
 rw[List.mem_append,List.mem_append,kF]at h1
 have hhi:(take p m).high=p.high+((m.toNat-aW p m:Nat):Int):=rfl
 unfold jc
 rw[List.mem_append,List.mem_append,hhi]
 have e:(take p m).wait=p.wait:=rfl
 rw[e]
 constructor
 ·rintro(h|h|h)
  ·rcases h1.1 (.inl h)with h|h
   ·exact .inl (.inl h)
   ·exact .inr h
  ·rcases h1.1 (.inr h)with h|h
   ·exact .inl (.inl h)
   ·exact .inr h
  ·exact .inl (.inr h)
 ·rintro((h|h)|h)
  ·rcases h1.2 (.inl h)with h|h
   ·exact .inl h
   ·exact .inr (.inl h)
  ·exact .inr (.inr h)
  ·rcases h1.2 (.inr h)with h|h
   ·exact .inl h
   ·exact .inr (.inl h)
theorem kR{top:Nat}{p:Pl}{h:Nat→Bool}{bS m:Int}(k:og top p h bS)(hm:may p top m):(∀x,x∈cV p m→2≤x∧x<top∧h x.toNat=false)∧(cV p m).Nodup∧og top (take p m) (marks h (cV p m)) bS:=by
 obtain⟨d1,d2⟩:=vY k.pQ m
 obtain⟨c1,c2⟩:=sa k.pQ
 have hh:=(wg k.pQ.2.2.2.1 hm).2
 have hhi:(take p m).high=p.high+((m.toNat-aW p m:Nat):Int):=rfl
 refine⟨fun x hx=>?_,(List.nodup_append.1 d2).1,L9 k.pQ hm,fun i hi=>?_,fun x h1 h2=>?_,k.old⟩
 ·have g:=d1 x (List.mem_append_left _ hx)
  refine⟨g.1,by omega,?_⟩
  cases hv:h x.toNat with
  |false=>rfl
  |true=>
   obtain⟨o1,o2,o3⟩:=k.own _ hv
   rw[Int.toNat_of_nonneg (by omega)]at o2 o3
   rcases(oR p m x).1 (.inl hx)with h|h
   ·exact absurd h o3
   ·omega
 ·unfold marks at hi
  rw[Bool.or_eq_true,decide_eq_true_eq]at hi
  rcases hi with hi|hi
  ·obtain⟨o1,o2,o3⟩:=k.own _ hi
   refine⟨o1,by omega,fun hx=>?_⟩
   rcases(oR p m i).1 (.inr hx)with h|h
   ·exact o3 h
   ·omega
  ·have g:=d1 i (List.mem_append_left _ hi)
   exact⟨by omega,g.2,fun hx=>(List.nodup_append.1 d2).2.2 _ hi _ hx rfl⟩
 ·unfold marks
  rw[Bool.or_eq_true,decide_eq_true_eq,Int.toNat_of_nonneg (by omega)]
  by_cases hx:x<p.high
  ·rcases k.all x h1 hx with h|h
   ·rcases(oR p m x).2 (.inl h)with h|h
    ·exact .inr (.inr h)
    ·exact .inl h
   ·exact .inr (.inl h)
  ·rcases(oR p m x).2 (.inr ⟨by omega,h2⟩)with h|h
   ·exact .inr (.inr h)
   ·exact .inl h
theorem HW{top:Nat}{p:Pl}{h:Nat→Bool}{bS:Int}(k:og top p h bS){l:List Int}(h1:∀x,x∈l→0≤x∧h x.toNat=true)(h2:l.Nodup):og top (mR p bS l) (fun i=>h i&&!decide ((i:Int)∈l)) (bS+1):=by
 obtain⟨c1,c2⟩:=sa k.pQ
 have hb:∀x,x∈l→2≤x∧x<p.high∧x∉jc p:=fun x hx=>by
  obtain⟨g1,g2⟩:=h1 x hx
  have:=k.own _ g2
  rw[Int.toNat_of_nonneg g1]at this
  exact⟨by omega,this.2.1,this.2.2⟩
 by_cases hl:l=[]
 ·subst hl
  rw[show mR p bS []=p from if_pos rfl]
  refine⟨k.pQ,fun i hi=>k.own i (by simpa using hi),fun x a b=>(k.all x a b).imp id fun h=>by simpa using h,fun w hw=>by have:=k.old w hw;omega⟩
 ·have hg:mR p bS l=⟨p.high,p.free,p.wait++[⟨bS,cX l⟩]⟩:=my hl fun w hw e=>by
   have:=k.old w (List.mem_of_getElem? hw);omega
  rw[hg]
  have hA:∀x,x∈jc ⟨p.high,p.free,p.wait++[⟨bS,cX l⟩]⟩↔x∈jc p∨x∈l:=by
   intro x
   unfold jc rK
   simp only[rS,List.flatten_append,List.mem_append]
   have:(ny [(⟨bS,cX l⟩:Wt)]).flatten=cX l:=by simp[ny]
   rw[this,(bJ l).mem_iff]
   constructor
   ·rintro(h|h|h)
    ·exact .inl (.inl h)
    ·exact .inl (.inr h)
    ·exact .inr h
   ·rintro((h|h)|h)
    ·exact .inl h
    ·exact .inr (.inl h)
    ·exact .inr (.inr h)
  have hP:(jc ⟨p.high,p.free,p.wait++[⟨bS,cX l⟩]⟩).Perm (jc p++l):=by
   unfold jc rK
   simp only[rS,List.flatten_append]
   have:(ny [(⟨bS,cX l⟩:Wt)]).flatten=cX l:=by simp[ny]
   rw[this,←List.append_assoc]
   exact(bJ l).append_left _
  have hN:(jc p++l).Nodup:=by
   rw[List.nodup_append]
   exact⟨c2,h2,fun a ha b hb' e=>(hb b hb').2.2 (e▸ha)⟩
  refine⟨⟨?_,fun w hw=>?_,k.pQ.2.2.1,k.pQ.2.2.2.1,k.pQ.2.2.2.2.1,?_⟩,fun i hi=>?_,fun x a b=>?_,fun w hw=>?_⟩
  ·refine tq (R:=fun(c a:Wt)=>c.bS<a.bS) ?_
   rw[List.pairwise_append]
   refine⟨tG (R:=fun(c a:Wt)=>c.bS<a.bS) (fun _ _ _ h k=>Int.lt_trans h k) k.pQ.1,List.pairwise_cons.2 ⟨fun _ h=>by simp at h,.nil⟩,fun a ha b hb=>?_⟩
   simp only[List.mem_singleton]at hb
   subst hb
   exact k.old a ha
  ·rcases List.mem_append.1 hw with hw|hw
   ·exact k.pQ.2.1 w hw
   ·simp only[List.mem_singleton]at hw
    subst hw
    rintro(h|h)
    ·exact hl (List.eq_nil_of_length_eq_zero (by rw[←aV];exact congrArg List.length h))
    ·exact h ((j5 _ _).2 ⟨fun x hx=>⟨(hb x hx).1,(hb x hx).2.1⟩,h2⟩)
  ·rw[cC,j5]
   exact⟨fun x hx=>by
    rcases(hA x).1 hx with h|h
    ·exact c1 x h
    ·exact⟨(hb x h).1,(hb x h).2.1⟩,hP.nodup_iff.2 hN⟩
  ·rw[Bool.and_eq_true,Bool.not_eq_true',decide_eq_false_iff_not]at hi
   have:=k.own i hi.1
   refine⟨this.1,this.2.1,fun hx=>?_⟩
   rcases(hA _).1 hx with h|h
   ·exact this.2.2 h
   ·exact hi.2 h
  ·rw[Bool.and_eq_true,Bool.not_eq_true',decide_eq_false_iff_not,Int.toNat_of_nonneg (by omega)]
   by_cases hx:x∈l
   ·exact .inl ((hA x).2 (.inr hx))
   ·exact(k.all x a b).imp (fun h=>(hA x).2 (.inl h)) fun h=>⟨h,hx⟩
  ·rcases List.mem_append.1 hw with hw|hw
   ·have:=k.old w hw;omega
   ·simp only[List.mem_singleton]at hw
    subst hw;simp only;omega
theorem Dr(top:Nat)(h:2≤top):og top ⟨2,[],[]⟩ (fun _=>false) 1:=by
 have hr:Row (listed ⟨2,[],[]⟩) 2:=by
  rw[cC,j5]
  exact⟨fun x hx=>by simp[rK,ny]at hx,by simp[rK,ny]⟩
 refine⟨⟨fun i a c h0 ha=>?_,fun w hw=>?_,Int.le_refl _,?_,fun i a hi=>?_,hr⟩,fun i hi=>?_,fun x a b=>?_,fun w hw=>?_⟩
 ·simp at ha
 ·simp at hw
 ·show(2:Int)≤top;omega
 ·simp at hi
 ·cases hi
 ·exact absurd b (by show¬x<2;omega)
 ·simp at hw
def HS(n:N)(l:List C):List DV:=[dI n.an,dB n.leaf,.sl 1 false (n.l.map fun c=>dS c.key),.sl 2 false ((if n.leaf then n.l else []).map fk),.sl 5 false ((aF n).map dT),.sl 6 false (l.map jR)]
theorem Kc(w0:W0)(n:N)(l:List C)(S:St):aa Tryz.prog w0 97 [eV n l] S (fun d S'=>∃b:FN S.box,d= .v (.func (.func 149) #[] #[.pointer (some ⟨b.n,0,none⟩)])∧S'=⟨(b.n,HS n l)::S.box,S.acc⟩):=by
 refine nB [] mx Tryz.func97 rfl rfl (by kernel_rfl) ?_;(refine @ab _ ?_;refine ao @Tryz.ntmps97 ?_)
 exact fun b=>⟨b,rfl,rfl⟩
def gT(n:N)(l:List C):List N:=n::l.map ay
structure ZD where
 T:St
 k:Nat
theorem Rr(w0:W0)(y b2:Nat)(n:N)(l:List C)(X:List N→St)(hl:l.length≤1048576)
 (h2:∀pre,lk (X pre).box b2=some (HS n l))
 (hy:YK Tryz.prog w0 y X (fun x=>[eT x]) (gT n l)):∀T,Has (X []) T→aa Tryz.prog w0 149 [.v (.func (.yield y) #[] #[]),.v (.pointer (some ⟨b2,0,none⟩))] T (fun _ T'=>Has (X (gT n l)) T'):=by
 intro T hT
 have t2:lk T.box b2=some (HS n l):=hT.box _ _ (h2 [])
 unfold HS at t2 h2
 refine nB [] mx Tryz.func149 rfl rfl (by kernel_rfl) ?_;simp only[Tryz.ntmps149,List.length_cons,List.length_nil,Nat.reduceAdd,Nat.reduceSub,List.reduceReplicate,List.cons_append,List.nil_append];(refine @ab _ ?_;refine aY @Tryz.ntmps149 @t2 ?_)
 have hp0:([]++[n]) <+: gT n l:=⟨l.map ay,rfl⟩
 refine MP (hy [] n _ hp0 hT) ?_
 rintro d T2 ⟨rfl,hT2,hK⟩
 have u2:=hT2.box _ _ (h2 _)
 (refine @ab _ ?_;refine ao @u2 ?_)
 refine kO [] [0,11,12,13] (fun s:ZD=>[(13,dI s.k)]) (fun s=>s.T) (fun s=>s.k≤l.length∧Has (X (n::(l.take s.k).map ay)) s.T) (fun s=>l.length-s.k) ⟨T2,0⟩ mx (by kernel_rfl) ?_ ?_
 ·(refine @ab _ ?_;refine au ?_)
  exact⟨Nat.zero_le _,hT2⟩
 ·rintro⟨T,k⟩ ⟨h1,hTk⟩
  simp only at h1 hTk
  (refine @ab _ ?_;refine au ?_)
  refine⟨fun hlt=>⟨hlt,fun c hc b5=>?_⟩,fun hge=>?_⟩
  ·have hpk:((n::(l.take k).map ay)++[ay c])=n::(l.take (k+1)).map ay:=by rw[List.take_add_one,hc];simp
   have hpre:((n::(l.take k).map ay)++[ay c]) <+: gT n l:=by
    rw[hpk]
    exact List.cons_prefix_cons.2 ⟨rfl,(List.take_prefix _ _).map _⟩
   refine MP (hy _ (ay c) _ hpre (hTk.bz b5 _ rfl)) ?_
   rintro d T3 ⟨rfl,hT3,hK3⟩
   rw[hpk]at hT3
   (refine @ab _ ?_;refine au ?_)
   exact⟨⟨T3,k+1⟩,⟨by simp only;omega,hT3⟩,by simp only;omega,bl k (by omega),.refl _⟩
  ·rw[List.take_of_length_le (by omega)]at hTk
   exact hTk
theorem A0(w0:W0)(b:Nat)(l:List Int)(p:Int)(S:St)(hb:lk S.box b=some [dL l])(hl:Up l)(h0:l.length≤1073741824):aa Tryz.prog w0 183 [dI p,.v (.pointer (some ⟨b,0,none⟩))] S (fun d S'=>d=dB (decide (p∈l))∧S'=S):=by
 refine ba [] mx Tryz.func183 rfl rfl (by kernel_rfl) ?_;simp only[Tryz.ntmps183,List.length_cons,List.length_nil,Nat.reduceAdd,Nat.reduceSub,List.reduceReplicate,List.cons_append,List.nil_append];(refine @ab _ ?_;refine aY @Tryz.ntmps183 @hb ?_)
 refine aq (Ow w0 l p S hl h0) ?_
 (refine @ab _ ?_;exact aQ)
theorem Uq(w0:W0)(b m:Nat)(l zs:List Int)(S:St)(hb:lk S.box b=some [dL l])(hm:lk S.acc m=some (.arr 1 (zs.map dI)))(hl:Up l)(h0:l.length≤1073741824)(h1:zs.length≤1073741824):
 aa Tryz.prog w0 229 [.acc m zs.length,.v (.func (.func 183) #[] #[.pointer (some ⟨b,0,none⟩)])] S (fun d S'=>d=dI (BH l zs)∧S'=S):=by
 refine ba [] mx Tryz.func229 rfl rfl (by kernel_rfl) ?_;(refine @ab _ ?_;refine fc @Tryz.ntmps229 @hb @hm ?_)
 refine aE [] zs.length [0,1,7,8] (fun k=>[(8,dI k)]) (fun _=>S) (fun k=>k≤zs.findIdx (l8 l)) mx (by kernel_rfl) ?_ ?_
 ·(refine @ab _ ?_;refine au ?_)
  exact Nat.zero_le _
 ·intro k hk hinv
  (refine @ab _ ?_;refine aY @hb @hm ?_)
  refine⟨fun hlt=>⟨hlt,hlt,fun a ha=>aq (A0 w0 b l a S hb hl h0) ?_⟩,fun hge=>?_⟩
  ·have hak:zs[k]=a:=(List.getElem?_eq_some_iff.1 ha).2
   (refine @ab _ ?_;refine au ?_)
   refine⟨fun hin=>?_,fun hni=>⟨hlt,?_,by rw[bw (by omega) (by omega)];omega⟩⟩
   ·have:¬k<zs.findIdx (l8 l):=fun h=>by
     have:=List.not_of_lt_findIdx h
     rw[hak]at this
     simp[l8,hin]at this
    unfold BH
    rw[if_pos (by omega)];omega
   ·rcases Nat.lt_or_ge k (zs.findIdx (l8 l))with h|h
    ·exact h
    ·have he:zs.findIdx (l8 l)=k:=by omega
     have:=List.findIdx_getElem (xs:=zs) (p:=l8 l) (w:=by omega)
     simp only[he,hak]at this
     simp[l8,hni]at this
  ·unfold BH
   rw[if_neg (by omega)]
theorem QB(w0:W0)(b:Nat)(l zs:List Int)(B:List (Nat×List DV))(A:List (Nat×Ob))(m:FN A)(hb:lk B b=some [dL l])(hl:Up l)(h0:l.length≤1073741824)(h1:zs.length≤1073741824):
 aa Tryz.prog w0 182 [.acc m.n zs.length,.v (.func (.func 183) #[] #[.pointer (some ⟨b,0,none⟩)])] ⟨B,(m.n,.arr 1 (zs.map dI))::A⟩ (fun d S'=>∃m':FN A,d= .acc m'.n (fO l zs).length∧S'=⟨B,(m'.n,.arr 1 ((fO l zs).map dI))::A⟩):=by
 refine nB [11] mx Tryz.func182 rfl rfl (by kernel_rfl) ?_;simp(maxDischargeDepth:=12) (maxSteps:=1000000) -implicitDefEqProofs only[Tryz.ntmps182,go_sem,Nat.reduceAdd,Nat.reduceSub,Nat.reduceMul,Nat.reduceLeDiff,Nat.reduceEqDiff,Nat.reduceGT,Nat.reduceBEq,reduceCtorEq,↓reduceIte,Int.reduceToNat,Int.reduceLE,Int.reduceLT,Int.reduceNe,Int.reduceEq,hb]
 refine .inl (aq (Uq w0 b m.n l zs _ (by simp(maxDischargeDepth:=12) (maxSteps:=1000000) -implicitDefEqProofs only[go_sem,Nat.reduceAdd,Nat.reduceSub,Nat.reduceMul,Nat.reduceLeDiff,Nat.reduceEqDiff,Nat.reduceGT,Nat.reduceBEq,reduceCtorEq,↓reduceIte,Int.reduceToNat,Int.reduceLE,Int.reduceLT,Int.reduceNe,Int.reduceEq,hb]) (by simp(maxDischargeDepth:=12) (maxSteps:=1000000) -implicitDefEqProofs only[go_sem,Nat.reduceAdd,Nat.reduceSub,Nat.reduceMul,Nat.reduceLeDiff,Nat.reduceEqDiff,Nat.reduceGT,Nat.reduceBEq,reduceCtorEq,↓reduceIte,Int.reduceToNat,Int.reduceLE,Int.reduceLT,Int.reduceNe,Int.reduceEq]) hl h0 h1) ?_)
 simp(maxDischargeDepth:=12) (maxSteps:=1000000) -implicitDefEqProofs only[go_sem,Nat.reduceAdd,Nat.reduceSub,Nat.reduceMul,Nat.reduceLeDiff,Nat.reduceEqDiff,Nat.reduceGT,Nat.reduceBEq,reduceCtorEq,↓reduceIte,Int.reduceToNat,Int.reduceLE,Int.reduceLT,Int.reduceNe,Int.reduceEq,hb]
 refine⟨fun hm1=>?_,fun hm1=>?_⟩
 ·have hge:zs.length≤zs.findIdx (l8 l):=by
   unfold BH at hm1
   split at hm1 <;>omega
  have hf:fO l zs=zs:=by
   refine List.filter_eq_self.2 fun a ha=>?_
   obtain⟨x,hx⟩:=List.mem_iff_getElem?.1 ha
   have hlt:=(List.getElem?_eq_some_iff.1 hx).1
   have:=List.not_of_lt_findIdx (Nat.lt_of_lt_of_le hlt hge)
   rw[(List.getElem?_eq_some_iff.1 hx).2]at this
   simpa using this
  exact⟨m,by rw[hf],by rw[hf]⟩
 ·have hlt:zs.findIdx (l8 l)<zs.length:=by
   unfold BH at hm1
   split at hm1 <;>first|assumption|exact absurd rfl hm1
  generalize hi0:zs.findIdx (l8 l)=i0 at hlt
  have hidx:BH l zs=(i0:Int):=by unfold BH;rw[hi0,if_pos hlt]
  have htk:fO l (zs.take (i0+1))=zs.take i0:=by
   have hx:zs[i0]? =some zs[i0]:=List.getElem?_eq_getElem hlt
   have hh:=List.findIdx_getElem (xs:=zs) (p:=l8 l) (w:=by omega)
   simp only[hi0]at hh
   rw[List.take_add_one,hx,Option.toList_some]
   unfold fO
   rw[List.filter_append,List.filter_eq_self.2 fun a ha=>?_]
   ·simp[hh]
   ·obtain⟨x,hx⟩:=List.mem_iff_getElem?.1 ha
    rw[List.getElem?_take]at hx
    split at hx
    ·rename_i hxi
     have:=List.not_of_lt_findIdx (p:=l8 l) (xs:=zs) (i:=x) (by omega)
     rw[(List.getElem?_eq_some_iff.1 hx).2]at this
     simpa using this
    ·cases hx
  rw[hidx]
  refine kO [11] [0,1,5,6] (fun s:Nat×Nat×List Int=>[(5,dI s.1),(6,dI s.2.1)]) (fun s=>⟨B,(m.n,.arr 1 (s.2.2.map dI))::A⟩) (fun s=>s.1<s.2.1∧s.2.1≤zs.length∧s.2.2.length=zs.length∧s.2.2.take s.1=fO l (zs.take s.2.1)∧∀x,s.2.1≤x→s.2.2[x]? =zs[x]?) (fun s=>zs.length-s.2.1) (i0,i0+1,zs) mx (by kernel_rfl) ?_ ?_
  ·simp(maxDischargeDepth:=12) (maxSteps:=1000000) -implicitDefEqProofs only[go_sem,Nat.reduceAdd,Nat.reduceSub,Nat.reduceMul,Nat.reduceLeDiff,Nat.reduceEqDiff,Nat.reduceGT,Nat.reduceBEq,reduceCtorEq,↓reduceIte,Int.reduceToNat,Int.reduceLE,Int.reduceLT,Int.reduceNe,Int.reduceEq]
   exact⟨⟨by omega,htk.symm⟩,by rw[bw (by omega) (by omega)];omega⟩
  ·rintro⟨i,j,xs⟩ ⟨k1,k2,k3,k4,k5⟩
   simp only at k1 k2 k3 k4 k5
   rw[←k3]
   simp(maxDischargeDepth:=12) (maxSteps:=1000000) -implicitDefEqProofs only[go_sem,Nat.reduceAdd,Nat.reduceSub,Nat.reduceMul,Nat.reduceLeDiff,Nat.reduceEqDiff,Nat.reduceGT,Nat.reduceBEq,reduceCtorEq,↓reduceIte,Int.reduceToNat,Int.reduceLE,Int.reduceLT,Int.reduceNe,Int.reduceEq]
   refine⟨fun hj=>⟨hj,hj,fun a ha=>aq (A0 w0 b l a _ (by simp(maxDischargeDepth:=12) (maxSteps:=1000000) -implicitDefEqProofs only[go_sem,Nat.reduceAdd,Nat.reduceSub,Nat.reduceMul,Nat.reduceLeDiff,Nat.reduceEqDiff,Nat.reduceGT,Nat.reduceBEq,reduceCtorEq,↓reduceIte,Int.reduceToNat,Int.reduceLE,Int.reduceLT,Int.reduceNe,Int.reduceEq,hb]) hl h0) ?_⟩,fun hj=>?_⟩
   ·have hzj:zs[j]? =some a:=by rw[←k5 j (Nat.le_refl _)];exact ha
    have hfj:fO l (zs.take (j+1))=fO l (zs.take j)++(if a∈l then []else [a]):=by
     rw[List.take_add_one,hzj,Option.toList_some]
     unfold fO
     rw[List.filter_append]
     congr 1
     by_cases h:a∈l <;>simp[l8,h]
    have dD:(xs.map dI).set i (.v (.int .i64 a))=(xs.set i a).map dI:=(List.map_set (f:=dI)).symm
    simp(maxDischargeDepth:=12) (maxSteps:=1000000) -implicitDefEqProofs only[go_sem,Nat.reduceAdd,Nat.reduceSub,Nat.reduceMul,Nat.reduceLeDiff,Nat.reduceEqDiff,Nat.reduceGT,Nat.reduceBEq,reduceCtorEq,↓reduceIte,Int.reduceToNat,Int.reduceLE,Int.reduceLT,Int.reduceNe,Int.reduceEq,hb,dD]
    have hj':IntKind.i64.wrap ((j:Int)+1)=((j+1:Nat):Int):=by rw[bw (by omega) (by omega)];omega
    have hi':IntKind.i64.wrap ((i:Int)+1)=((i+1:Nat):Int):=by rw[bw (by omega) (by omega)];omega
    refine⟨fun hni=>⟨by omega,by omega,fun _ _=>⟨(i+1,j+1,xs.set i a),⟨by simp only;omega,by simp only;omega,by simp,?_,fun x hx=>?_⟩,by simp only;omega,⟨hi',hj'⟩,.refl _⟩⟩,fun hin=>⟨(i,j+1,xs),⟨by simp only;omega,by simp only;omega,rfl,?_,fun x hx=>k5 x (by simp only at hx;omega)⟩,by simp only;omega,⟨rfl,hj'⟩,.refl _⟩⟩
    ·simp only
     rw[hfj,if_neg hni,←k4,List.take_add_one,List.getElem?_set_self (by omega),List.take_set_of_le (Nat.le_refl _)];rfl
    ·simp only at hx ⊢
     rw[List.getElem?_set_ne (by omega)]
     exact k5 x (by omega)
    ·simp only
     rw[hfj,if_pos (Decidable.not_not.1 hin),List.append_nil,k4]
   ·have hjn:j=xs.length:=by omega
    have hfin:xs.take i=fO l zs:=by rw[k4,hjn,k3,List.take_length]
    have hfl:(fO l zs).length=i:=by rw[←hfin,List.length_take];omega
    refine Sf (l:=m.n) (k:=i) (xs:=xs.map dI) ty.Z3 ty.z3 (by simp[rc]) rfl (by simp(maxDischargeDepth:=12) (maxSteps:=1000000) -implicitDefEqProofs only[go_sem,Nat.reduceAdd,Nat.reduceSub,Nat.reduceMul,Nat.reduceLeDiff,Nat.reduceEqDiff,Nat.reduceGT,Nat.reduceBEq,reduceCtorEq,↓reduceIte,Int.reduceToNat,Int.reduceLE,Int.reduceLT,Int.reduceNe,Int.reduceEq]) (by rw[List.length_map];omega) rfl (by simp[rc]) (by simp[rc]) (by simp[rc]) fun v u=>?_
    simp(maxDischargeDepth:=12) (maxSteps:=1000000) -implicitDefEqProofs only[go_sem,Nat.reduceAdd,Nat.reduceSub,Nat.reduceMul,Nat.reduceLeDiff,Nat.reduceEqDiff,Nat.reduceGT,Nat.reduceBEq,reduceCtorEq,↓reduceIte,Int.reduceToNat,Int.reduceLE,Int.reduceLT,Int.reduceNe,Int.reduceEq,hb,List.length_map]
    have hT:((xs.take i).map dI++List.replicate (xs.length-i) (DV.v (.int .i64 0))).take i=(fO l zs).map dI:=by
     rw[List.take_append_of_le_length (by rw[List.length_map,List.length_take];omega),List.take_of_length_le (by rw[List.length_map,List.length_take];omega),hfin]
    refine .inl ⟨.inr (by omega),⟨_,_,_,rfl⟩,by rw[List.length_replicate];omega,fun m'=>⟨⟨m'.n,m'.h.2.2⟩,by rw[hfl];rfl,?_⟩⟩
    rw[hT]
    first|done|rfl
theorem vo{X T:St}(h:Has X T){b:Nat}(hb:lk T.box b=none)(ds:List DV){A:List (Nat×Ob)}(hA:A=T.acc):Has X ⟨(b,ds)::T.box,A⟩:=⟨fun c x hc=>by
 have:=h.box c x hc
 simp only[lk]
 rw[if_neg (fun e=>by rw[e,this]at hb;cases hb)];exact this,by subst hA;exact h.acc⟩
theorem zW{X T T':St}(h:Kp X T T'){b:Nat}(hb:lk T'.box b=none)(ds:List DV){A:List (Nat×Ob)}(hA:A=T'.acc):Kp X T ⟨(b,ds)::T'.box,A⟩:=⟨fun c x hc hx=>by
 have:=h.box c x hc hx
 simp only[lk]
 rw[if_neg (fun e=>by rw[e,this]at hb;cases hb)];exact this,by subst hA;exact h.acc⟩
theorem rW{L:List (Nat×List DV)}{b c:Nat}(v:List DV)(h:lk L c=none):lk (up L b v) c=none:=by
 rw[Re];split <;>simp[h]
def nT(l:List N):Nat:=(l.map dm).sum
theorem Hz(l:List N)(x:N):nT (l++[x])=nT l+dm x:=by simp[nT]
theorem J3{l m:List N}(h:l <+: m):nT l≤nT m:=by
 obtain⟨t,rfl⟩:=h
 simp[nT]
theorem AV(n:N)(l:List C):nT (gT n l)=ct (n,l):=by
 unfold nT gT ct nD
 simp[List.map_map,Function.comp_def]
theorem pf{k:Nat}{n:N}{l:List C}(h:VI k n l)(hk:k≤116):∀x,x∈gT n l→DM x∧dm x≤70000∧(iP x).length≤70000:=fun x hx=>by
 have hx:TB k x:=by
  unfold gT at hx
  rcases List.mem_cons.1 hx with rfl|hx
  ·exact h.dir
  ·obtain⟨c,hc,rfl⟩:=List.mem_map.1 hx
   exact(h.cell c hc).2.1
 obtain⟨hr,d,hg,hd,ht⟩:=hx
 have h1:=Lb (ax hg)
 have h2:=DW qy (ax hg)
 exact⟨⟨d,ax hg,by omega⟩,by omega,by unfold iP;rw[aV];omega⟩
theorem E3:∀{l:List N},(∀x,x∈l→dm x≤70000)→nT l≤70000*l.length:=fun{l}=>by
 induction l with
 |nil=>intro _;exact Nat.zero_le _
 |cons c l ih=>
  intro h
  have h1:=ih fun c hc=>h c (List.mem_cons_of_mem _ hc)
  have h2:=h c List.mem_cons_self
  unfold nT at h1 ⊢
  rw[List.map_cons,List.sum_cons,List.length_cons];omega
theorem vU:∀{l:List N},(∀x,x∈l→(iP x).length≤70000)→(flat (l.map iP)).length≤70000*l.length:=fun{l}=>by
 induction l with
 |nil=>intro _;exact Nat.zero_le _
 |cons c l ih=>
  intro h
  have h1:=ih fun c hc=>h c (List.mem_cons_of_mem _ hc)
  have h2:=h c List.mem_cons_self
  unfold flat at h1 ⊢
  rw[List.map_cons,List.flatten_cons,List.length_append,List.length_cons];omega
theorem sw(n:N)(l:List C):(gT n l).length=l.length+1:=by unfold gT;rw[List.length_cons,List.length_map]
theorem tD(w0:W0)(k:Nat)(n:N)(l:List C)(S:St)(h:VI k n l)(hk:k≤116):aa Tryz.prog w0 129 [eV n l] S (fun d S'=>d=dI (ct (n,l))∧S'=S):=by
 have hln:=h.len
 have htf:=pf h hk
 have hsl:=E3 (l:=gT n l) fun x hx=>(htf x hx).2.1
 rw[sw]at hsl
 have htre:=Kc w0 n l
 have hit:=fun w1 y b2 X=>Rr w1 y b2 n l X (by omega)
 rw[←AV]
 refine ba [] mx Tryz.func129 rfl rfl (by kernel_rfl) ?_;(refine @ab _ ?_;refine ao @Tryz.ntmps129 ?_)
 intro b b1
 refine bA (htre _) ?_
 rintro d S' ⟨b3,rfl,rfl⟩
 generalize gT n l=V at*
 generalize HS n l=R at*
 (refine @ab _ ?_;refine au ?_)
 refine qK [] (fun pre=>⟨(b3.n,R)::(b1.n,[dI (nT pre)])::(b.n,[dI n.an,dB n.leaf,.sl 1 false (n.l.map fun c=>dS c.key),.sl 2 false ((if n.leaf then n.l else []).map fk),.sl 5 false ((aF n).map dT),.sl 6 false (l.map jR)])::S.box,S.acc⟩) (fun x=>[eT x]) V mx (by kernel_rfl) rfl rfl rfl (fun _=>rfl) (fun _=>rfl) (fun _=>rfl) ?_ ?_ ?_
 ·intro y w1 hy T hT
  exact hit w1 y b3.n _ (fun _=>by(refine @ab _ ?_;exact aQ)) hy T hT
 ·intro pre x T hp hT
  have t1:lk T.box b1.n=some [dI (nT pre)]:=hT.box _ _ (by(refine @ab _ ?_;exact aQ))
  have hxV:x∈V:=by obtain⟨t,ht⟩:=hp;rw[←ht];simp
  have hfr:=Hz pre x
  have hfp:=J3 hp
  obtain⟨hfx,hf1,_⟩:=htf x hxV
  have hH:∀v,v=(nT (pre++[x]):Int)→Has _ ⟨up T.box b1.n [dI v],T.acc⟩:=fun v hv=>by rw[hv];exact xq hT _
  have hu:∀v:Int,up ((b3.n,R)::(b1.n,[dI (nT pre)])::(b.n,[dI n.an,dB n.leaf,.sl 1 false (n.l.map fun c=>dS c.key),.sl 2 false ((if n.leaf then n.l else []).map fk),.sl 5 false ((aF n).map dT),.sl 6 false (l.map jR)])::S.box) b1.n [dI v]=(b3.n,R)::(b1.n,[dI v])::(b.n,[dI n.an,dB n.leaf,.sl 1 false (n.l.map fun c=>dS c.key),.sl 2 false ((if n.leaf then n.l else []).map fk),.sl 5 false ((aF n).map dT),.sl 6 false (l.map jR)])::S.box:=fun v=>by(refine @ab _ ?_;exact aQ)
  have hK:∀v,Kp ⟨(b3.n,R)::(b1.n,[dI (nT pre)])::(b.n,[dI n.an,dB n.leaf,.sl 1 false (n.l.map fun c=>dS c.key),.sl 2 false ((if n.leaf then n.l else []).map fk),.sl 5 false ((aF n).map dT),.sl 6 false (l.map jR)])::S.box,S.acc⟩ T ⟨up T.box b1.n v,T.acc⟩:=fun v=>Kp.up (by(refine @ab _ ?_;exact aQ))
  simp only[hu]at hH
  simp only[jf]
  (refine @ab _ ?_;refine ao @t1 ?_)
  intro b5
  have hb5:¬b5.n=b1.n:=fun e=>by have:=jl b5;rw[e,t1]at this;cases this
  refine aS (M8 w0 x _ hfx) ?_
  (refine @ab _ ?_;refine aY @t1 @hb5 ?_)
  exact⟨vo (hH _ (by rw[bw (by omega) (by omega)];omega)) (rW _ (jl b5)) _ rfl,zW (hK _) (rW _ (jl b5)) _ rfl⟩
 ·(refine @ab _ ?_;exact aQ)
def cb(n:N)(l:List C):List Int:=cX (flat ((gT n l).map iP))
theorem Hf(w0:W0)(rows:List (List Int))(S:St)(h0:rows.length≤1099511627776)(h1:(flat rows).length≤1099511627776):
 aa Tryz.prog w0 99 [.sl 1 false (rows.map dL)] S (fun d S'=>∃m:FN S.acc,d= .acc m.n (flat rows).length∧S'=⟨S.box,(m.n,.arr 1 ((cX (flat rows)).map dI))::S.acc⟩):=by
 refine wm [] mx Tryz.func99 rfl rfl (by kernel_rfl) ?_;(refine @ab _ ?_;refine ao @Tryz.ntmps99 ?_)
 refine bA (concat w0 rows S h0 h1) ?_
 rintro d S' ⟨l,rfl,rfl⟩
 (refine @ab _ ?_;refine au ?_)
 refine .inl (bA (mi w0 (l:=l.n) (zs:=flat rows) (S:=⟨S.box,(l.n,.arr 1 ((flat rows).map dI))::S.acc⟩) (by simp[lk]) (by omega)) ?_)
 rintro d S' ⟨rfl,rfl⟩
 (refine @ab _ ?_;refine au ?_)
 exact⟨_,_,.refl _,.refl _,l,rfl,rfl⟩
theorem nU(w0:W0)(k:Nat)(n:N)(l:List C)(S:St)(h:VI k n l)(hk:k≤116):aa Tryz.prog w0 49 [eV n l] S (fun d S'=>∃m:FN S.acc,d= .acc m.n (flat ((gT n l).map iP)).length∧S'=⟨S.box,(m.n,.arr 1 ((cb n l).map dI))::S.acc⟩):=by
 have hln:=h.len
 have htf:=pf h hk
 have hfl:=vU (l:=gT n l) fun x hx=>(htf x hx).2.2
 have hVl:=sw n l
 rw[hVl]at hfl
 have htre:=Kc w0 n l
 have hit:=fun w1 y b2 X=>Rr w1 y b2 n l X (by omega)
 have htg:=fun S=>Hf w0 ((gT n l).map iP) S (by rw[List.length_map,hVl];omega) (by omega)
 unfold cb
 refine wm [] mx Tryz.func49 rfl rfl (by kernel_rfl) ?_;(refine @ab _ ?_;refine ao @Tryz.ntmps49 ?_)
 intro b b1
 refine bA (htre _) ?_
 rintro d S' ⟨b3,rfl,rfl⟩
 generalize gT n l=V at*
 generalize HS n l=R at*
 (refine @ab _ ?_;refine au ?_)
 refine eJ b1.n 0 1 (by omega) (ds:=[.sl 0 true []]) (by(refine @ab _ ?_;exact aQ)) rfl fun lb=>?_
 (refine @ab _ ?_;refine au ?_)
 refine qK [] (fun pre=>⟨(b3.n,R)::(b1.n,[.acc lb.n pre.length])::(b.n,[dI n.an,dB n.leaf,.sl 1 false (n.l.map fun c=>dS c.key),.sl 2 false ((if n.leaf then n.l else []).map fk),.sl 5 false ((aF n).map dT),.sl 6 false (l.map jR)])::S.box,(lb.n,.arr 1 ((pre.map iP).map dL))::S.acc⟩) (fun x=>[eT x]) V mx (by kernel_rfl) rfl rfl rfl (fun _=>rfl) (fun _=>rfl) (fun _=>rfl) ?_ ?_ ?_
 ·intro y w1 hy T hT
  exact hit w1 y b3.n _ (fun _=>by(refine @ab _ ?_;exact aQ)) hy T hT
 ·intro pre x T hp hT
  have t1:lk T.box b1.n=some [.acc lb.n pre.length]:=hT.box _ _ (by(refine @ab _ ?_;exact aQ))
  have u1:lk T.acc lb.n=some (.arr 1 ((pre.map iP).map dL)):=hT.acc _ _ (by(refine @ab _ ?_;exact aQ))
  have hxV:x∈V:=by obtain⟨t,ht⟩:=hp;rw[←ht];simp
  have hpl:=hp.length_le
  rw[List.length_append]at hpl
  obtain⟨hfx,_,hf1⟩:=htf x hxV
  have hH:∀q:List N,q=pre++[x]→Has _ ⟨up T.box b1.n [.acc lb.n q.length],up T.acc lb.n (.arr 1 ((q.map iP).map dL))⟩:=fun v hv=>by rw[hv];exact yX hT _ _
  have hu:∀(q:List N),(⟨up ((b3.n,R)::(b1.n,[.acc lb.n pre.length])::(b.n,[dI n.an,dB n.leaf,.sl 1 false (n.l.map fun c=>dS c.key),.sl 2 false ((if n.leaf then n.l else []).map fk),.sl 5 false ((aF n).map dT),.sl 6 false (l.map jR)])::S.box) b1.n [.acc lb.n q.length],up ((lb.n,.arr 1 ((pre.map iP).map dL))::S.acc) lb.n (.arr 1 ((q.map iP).map dL))⟩:St)=⟨(b3.n,R)::(b1.n,[.acc lb.n q.length])::(b.n,[dI n.an,dB n.leaf,.sl 1 false (n.l.map fun c=>dS c.key),.sl 2 false ((if n.leaf then n.l else []).map fk),.sl 5 false ((aF n).map dT),.sl 6 false (l.map jR)])::S.box,(lb.n,.arr 1 ((q.map iP).map dL))::S.acc⟩:=fun v=>by(refine @ab _ ?_;exact aQ)
  have hK:∀v o,Kp ⟨(b3.n,R)::(b1.n,[.acc lb.n pre.length])::(b.n,[dI n.an,dB n.leaf,.sl 1 false (n.l.map fun c=>dS c.key),.sl 2 false ((if n.leaf then n.l else []).map fk),.sl 5 false ((aF n).map dT),.sl 6 false (l.map jR)])::S.box,(lb.n,.arr 1 ((pre.map iP).map dL))::S.acc⟩ T ⟨up T.box b1.n v,up T.acc lb.n o⟩:=fun v o=>LI (by(refine @ab _ ?_;exact aQ)) (by(refine @ab _ ?_;exact aQ))
  simp only[hu]at hH
  simp only[jf]
  (refine @ab _ ?_;refine aY @t1 @u1 ?_)
  intro b5
  have hb5:¬b5.n=b1.n:=fun e=>by have:=jl b5;rw[e,t1]at this;cases this
  have hm8:maxLen=9223372036854775807:=rfl
  refine aS (Jv w0 x _ hfx) ?_
  (refine @ab _ ?_;refine fc @t1 @u1 @hb5 ?_)
  have hQ:=hH (pre++[x]) rfl
  rw[List.length_append,List.length_cons,List.length_nil,List.map_append,List.map_append,List.map_cons,List.map_nil,List.map_cons,List.map_nil]at hQ
  refine⟨by omega,by omega,?_,zW (hK _ _) (rW _ (jl b5)) _ rfl⟩
  rw[List.map_append,List.map_append,List.map_cons,List.map_nil,List.map_cons,List.map_nil]
  exact vo hQ (rW _ (jl b5)) _ rfl
 ·(refine @ab _ ?_;refine au ?_)
  refine .inr (bA (htg _) ?_ ⟨.full _ _ _,trivial⟩)
  rintro d S' ⟨m,rfl,rfl⟩
  (refine @ab _ ?_;refine au ?_)
  exact⟨_,_,.refl _,.bz (.bz (.bz (.QM (.pM (.refl _))))),⟨m.n,m.h.2.2⟩,rfl,rfl⟩
theorem sW{k:Nat}{n:N}{l:List C}(h:VI k n l)(hk:k≤116):(cb n l).length=(flat ((gT n l).map iP)).length∧(cb n l).length≤70000*117:=by
 have hln:=h.len
 have hfl:=vU (l:=gT n l) fun x hx=>(pf h hk x hx).2.2
 rw[sw]at hfl
 have:=aV (flat ((gT n l).map iP))
 unfold cb
 exact⟨this,by omega⟩
theorem Pn(n:N)(l:List C):Up (cb n l):=Tv _
theorem vL(w0:W0)(k:Nat)(n:N)(l:List C)(m:N)(q:List C)(S:St)(ha:VI k n l)(hb:VI k m q)(hk:k≤116):aa Tryz.prog w0 131 [eV n l,eV m q] S (fun d S'=>d=dL (fO (cb m q) (cb n l))∧S'=S):=by
 have hpa:=fun S=>nU w0 k n l S ha hk
 have hpb:=fun S=>nU w0 k m q S hb hk
 obtain⟨la,la2⟩:=sW ha hk
 obtain⟨lb,lb2⟩:=sW hb hk
 rw[←la]at hpa
 rw[←lb]at hpb
 have hub:=Pn m q
 generalize cb n l=A at*
 generalize cb m q=B at*
 refine ba [2] mx Tryz.func131 rfl rfl (by kernel_rfl) ?_;(refine @ab _ ?_;refine ao @Tryz.ntmps131 ?_)
 intro b1 b2
 refine bA (hpb _) ?_
 rintro d S' ⟨m,rfl,rfl⟩
 (refine @ab _ ?_;refine au ?_)
 intro b3
 refine MA b3.n 0 (l:=m.n) (s:=1) (xs:=B.map dI) (ds:=[.acc m.n B.length]) (by(refine @ab _ ?_;exact aQ)) (by simp) (by(refine @ab _ ?_;exact aQ)) ?_
 (refine @ab _ ?_;refine au ?_)
 refine jx [] [] mx (by kernel_rfl) ?_
 (refine @ab _ ?_;refine au ?_)
 refine bA (hpa _) ?_
 rintro d S' ⟨m2,rfl,rfl⟩
 (refine @ab _ ?_;refine au ?_)
 refine .inl (bA (QB w0 b3.n B A _ _ m2 (by(refine @ab _ ?_;exact aQ)) hub (by omega) (by omega)) ?_)
 rintro d S' ⟨m3,rfl,rfl⟩
 (refine @ab _ ?_;exact aQ)
def rF(f w k:Nat):Bool:=decide ((f-k+w+58)/59≤k)
def nE(f w:Nat):Nat:=(List.range (f+w+1)).findIdx (rF f w)
theorem Qo(f w:Nat):rF f w (f+w)=true:=by unfold rF;simp;omega
theorem xF(f w:Nat):nE f w<f+w+1:=by
 have:=List.findIdx_lt_length_of_exists (xs:=List.range (f+w+1)) (p:=rF f w) ⟨f+w,List.mem_range.2 (by omega),Qo f w⟩
 rwa [List.length_range]at this
theorem IB(f w:Nat):rF f w (nE f w)=true:=by
 have h:=xF f w
 have:=List.findIdx_getElem (xs:=List.range (f+w+1)) (p:=rF f w) (w:=by rw[List.length_range];exact h)
 rwa [List.getElem_range]at this
theorem LY{f w k:Nat}(h:k<nE f w):rF f w k=false:=by
 have h2:=xF f w
 have:=List.not_of_lt_findIdx (xs:=List.range (f+w+1)) (p:=rF f w) h
 rw[List.getElem_range]at this
 simpa using this
theorem T7{f w k:Nat}(h:rF f w k=true):nE f w≤k:=by
 rcases Nat.lt_or_ge k (nE f w)with h1|h1
 ·rw[LY h1]at h;cases h
 ·exact h1
theorem wy(w0:W0)(n:Nat)(S:St)(h:n≤1099511627776):aa Tryz.prog w0 186 [dI n] S (fun d S'=>d=dI ((n+58)/59:Nat)∧S'=S):=by
 refine ba [] mx Tryz.func186 rfl rfl (by kernel_rfl) ?_;(refine @ab _ ?_;refine ao @Tryz.ntmps186 ?_)
 refine⟨fun h1=>by omega,fun h1=>?_⟩
 have e1:IntKind.i64.wrap ((n:Int)-1)=((n-1:Nat):Int):=by rw[bw (by omega) (by omega)];omega
 have e2:((n-1:Nat):Int).tdiv 59=((n-1)/59:Nat):=rfl
 have e3:IntKind.i64.wrap (((n-1)/59:Nat):Int)=(((n-1)/59:Nat):Int):=bw (by omega) (by omega)
 rw[e1,e2,e3,bw (by omega) (by omega)]
 omega
theorem An(w0:W0)(a b:Int)(S:St)(h1: -1099511627776≤a)(h2:a≤274877906944)(h3: -1099511627776≤b)(h4:b≤274877906944):aa Tryz.prog w0 133 [dI a,dI b] S (fun d S'=>d=dI (nE a.toNat b.toNat)∧S'=S):=by
 have e1:(if a<0 then 0 else a)=(a.toNat:Int):=by split <;>omega
 have e2:(if b<0 then 0 else b)=(b.toNat:Int):=by split <;>omega
 have hN:=fun n h S=>wy w0 n S h
 have hl:=xF a.toNat b.toNat
 have his:=IB a.toNat b.toNat
 have hno:=fun k=>LY (f:=a.toNat) (w:=b.toNat) (k:=k)
 have hle:=fun k=>T7 (f:=a.toNat) (w:=b.toNat) (k:=k)
 have ha:a.toNat≤274877906944:=by omega
 have hb:b.toNat≤274877906944:=by omega
 refine ba [] mx Tryz.func133 rfl rfl (by kernel_rfl) ?_;(refine @ab _ ?_;refine fc @Tryz.ntmps133 @e1 @e2 ?_)
 generalize nE a.toNat b.toNat=o at*
 generalize a.toNat=f at*
 generalize b.toNat=w at*
 refine kO [] [0,1,5] (fun k:Nat=>[(0,dI f),(1,dI w),(5,dI k)]) (fun _=>S) (fun k=>k≤o) (fun k=>f+w+1-k) 0 mx (by kernel_rfl) ?_ ?_
 ·(refine @ab _ ?_;refine au ?_)
  exact Nat.zero_le _
 ·intro k hk
  have e3:IntKind.i64.wrap ((f:Int)-k)=(f:Int)-k:=bw (by omega) (by omega)
  have e4:(if(f:Int)-k<0 then 0 else(f:Int)-k)=((f-k:Nat):Int):=by split <;>omega
  have e5:IntKind.i64.wrap (((f-k:Nat):Int)+w)=((f-k+w:Nat):Int):=by rw[bw (by omega) (by omega)];omega
  (refine @ab _ ?_;refine fc @e3 @e4 @e5 ?_)
  refine aq (hN (f-k+w) (by omega) _) ?_
  (refine @ab _ ?_;refine au ?_)
  refine⟨fun hy=>?_,fun hn=>?_⟩
  ·have:=hle k (by unfold rF;rw[decide_eq_true_eq];omega)
   omega
  ·refine⟨k+1,?_,by omega,bl k (by omega)⟩
   rcases Nat.lt_or_ge k o with h5|h5
   ·exact h5
   ·have:k=o:=by omega
    subst this
    unfold rF at his
    rw[decide_eq_true_eq]at his
    omega
def lX(q:N×List C)(p:Pl)(b:Nat):Nat:=ct q+nE (p.free.length-ct q) (nW p.wait+b)
theorem Us{k:Nat}{n:N}{l:List C}(h:VI k n l)(hk:k≤116):ct (n,l)≤70000*117:=by
 have hln:=h.len
 have hsl:=E3 (l:=gT n l) fun x hx=>(pf h hk x hx).2.1
 rw[sw,AV]at hsl
 omega
theorem FO(w0:W0)(k:Nat)(n:N)(l:List C)(p:Pl)(c:Nat)(S:St)(h:VI k n l)(hk:k≤116)(hf:p.free.length≤500000)(hw:p.wait.length≤500000)(hn:nW p.wait+c≤100000000):aa Tryz.prog w0 177 [eV n l,dP p,dI c] S (fun d S'=>d=dI (lX (n,l) p c)∧S'=S):=by
 have hfr:=fun S=>tD w0 k n l S h hk
 have hwt:=fun S=>waiting w0 p S (by omega) (by omega)
 have hfl:=Us h hk
 have hol:=xF (p.free.length-ct (n,l)) (nW p.wait+c)
 have how:=fun S=>An w0 ((p.free.length:Int)-ct (n,l)) ((nW p.wait+c:Nat):Int) S (by omega) (by omega) (by omega) (by omega)
 have e1:((p.free.length:Int)-ct (n,l)).toNat=p.free.length-ct (n,l):=by omega
 rw[e1,Int.toNat_natCast]at how
 have hdef:lX (n,l) p c=ct (n,l)+nE (p.free.length-ct (n,l)) (nW p.wait+c):=rfl
 rw[hdef]
 generalize ct (n,l)=F at*
 have e2:IntKind.i64.wrap ((p.free.length:Int)-F)=(p.free.length:Int)-F:=bw (by omega) (by omega)
 have e3:IntKind.i64.wrap ((nW p.wait:Int)+c)=((nW p.wait+c:Nat):Int):=by rw[bw (by omega) (by omega)];omega
 refine ba [] mx Tryz.func177 rfl rfl (by kernel_rfl) ?_;(refine @ab _ ?_;refine ao @Tryz.ntmps177 ?_)
 intro b1 b2
 refine aq (hfr _) ?_
 (refine @ab _ ?_;refine au ?_)
 refine aS (hwt _) ?_
 (refine @ab _ ?_;refine aY @e2 @e3 ?_)
 refine aS (how _) ?_
 (refine @ab _ ?_;refine au ?_)
 rw[bw (by omega) (by omega)];omega
theorem wD(w0:W0)(k:Nat)(m:N)(q:List C)(n:N)(l:List C)(o:List Int)(p:Pl)(t:Int)(S:St)(h0:VI k m q)(h:VI k n l)(hk:k≤116)(hf:p.free.length≤500000)(hw:p.wait.length≤500000)(hn:nW p.wait+((fO (cb n l) (cb m q)).length+o.length)≤100000000)
 (h1: -1099511627776≤p.high) (h2:p.high≤1099511627776) (h3: -1099511627776≤t) (h4:t≤1099511627776):aa Tryz.prog w0 127 [eV m q,eV n l,dL o,dP p,dI t] S (fun d S'=>d=dB (decide ((lX (n,l) p ((fO (cb n l) (cb m q)).length+o.length):Int)≤dg p t))∧S'=S):=by
 have hlo:=fun S=>vL w0 k m q n l S h0 h hk
 have hne:=fun S=>FO w0 k n l p ((fO (cb n l) (cb m q)).length+o.length) S h hk hf hw hn
 have hro:=fun S=>room w0 p t S (by omega) h1 h2 h3 h4
 generalize fO (cb n l) (cb m q)=L at*
 generalize lX (n,l) p (L.length+o.length)=Z at*
 have e3:IntKind.i64.wrap ((L.length:Int)+o.length)=((L.length+o.length:Nat):Int):=by rw[bw (by omega) (by omega)];omega
 refine ba [] mx Tryz.func127 rfl rfl (by kernel_rfl) ?_;(refine @ab _ ?_;refine ao @Tryz.ntmps127 ?_)
 intro b1 b2 b3
 refine aS (hlo _) ?_
 (refine @ab _ ?_;refine ao @e3 ?_)
 refine aS (hne _) ?_
 (refine @ab _ ?_;refine au ?_)
 refine aS (hro _) ?_
 (refine @ab _ ?_;exact aQ)
theorem Ec(w0:W0)(k:Nat)(n:N)(l:List C)(S:St)(h:VI k n l)(hk:k≤116):aa Tryz.prog w0 49 [eV n l] S (fun d S'=>d=dL (cb n l)∧S'=S):=by
 have hl:=(sW h hk).1
 refine FH ((nU w0 k n l S h hk).mono (K':=fun d S'=>oD S' d fun d S''=>Wk d (dL (cb n l))∧Aml.Sub S S'') ?_)
 rw[←hl]
 generalize cb n l=P
 rintro d S' ⟨m,rfl,rfl⟩
 (refine @ab _ ?_;exact aQ)
structure Zt where
 label:Int
 bS:Int
 root:Int
 qe:Int
 high:Int
 n:N
 l:List C
 own:List Int
 p:Pl
def dD(L:List Int):Nat→Bool:=fun i=>decide ((i:Int)∈L)
structure ZI(k:Nat)(z:Zt):Prop where
 vi:VI k z.n z.l
 tv:TV (z.n,z.l)
 fr:ct (z.n,z.l)=0
 cl:jI (vH z.l) z.n
 nd:(gM (z.n,z.l)++z.own).Nodup
 qW:∀x,x∈gM (z.n,z.l)++z.own→2≤x∧x<z.p.high
 keep:og 1000 z.p (dD (gM (z.n,z.l)++z.own)) (z.bS+1)
 high:z.high=z.p.high
 root:z.root=z.n.an
 bS:0≤z.bS∧z.bS≤k
 label:0≤z.label∧z.label≤63
structure ZV(k:Nat)(z:Zt)(n:N)(l:List C):Prop where
 vi:VI k n l
 tv:TV (n,l)
 cl:jI (vH l) n
 sub:∀p,(gM (n,l)).count p≤(gM (z.n,z.l)).count p
theorem ZI.zv{k:Nat}{z:Zt}(h:ZI k z):ZV k z z.n z.l:=⟨h.vi,h.tv,h.cl,fun _=>Nat.le_refl _⟩
theorem ZV.mem{k:Nat}{z:Zt}{n:N}{l:List C}(h:ZV k z n l){p:Int}(hp:p∈gM (n,l)):p∈gM (z.n,z.l):=
 List.count_pos_iff.1 (Nat.lt_of_lt_of_le (List.count_pos_iff.2 hp) (h.sub p))
theorem ZV.nd{k j:Nat}{z:Zt}{n:N}{l:List C}(h:ZV k z n l)(hz:ZI j z):(gM (n,l)).Nodup:=
 List.nodup_iff_count.2 fun p=>Nat.le_trans (h.sub p) (List.nodup_iff_count.1 (List.nodup_append.1 hz.nd).1 p)
theorem Af{k:Nat}{n:N}{l:List C}(h:VI k n l):(cb n l).Perm (gM (n,l)):=by
 have h1:∀V:List N,(∀x,x∈V→∃d,Nd d x)→(flat (V.map iP)).Perm (V.flatMap cf):=fun V=>by
  induction V with
  |nil=>intro _;exact .refl _
  |cons a V ih=>
   intro hV
   obtain⟨d,hd⟩:=hV a List.mem_cons_self
   have:=ih fun x hx=>hV x (List.mem_cons_of_mem _ hx)
   unfold flat at this ⊢
   rw[List.map_cons,List.flatten_cons,List.flatMap_cons,Jz hd]
   exact(bJ _).append this
 have h2:=h1 (gT n l) fun x hx=>by
  have hx:TB k x:=by
   unfold gT at hx
   rcases List.mem_cons.1 hx with rfl|hx
   ·exact h.dir
   ·obtain⟨c,hc,rfl⟩:=List.mem_map.1 hx
    exact(h.cell c hc).2.1
  obtain⟨_,d,hg,_⟩:=hx
  exact⟨d,ax hg⟩
 have h3:(gT n l).flatMap cf=gM (n,l):=by
  unfold gT gM pR
  rw[List.flatMap_cons,List.flatMap_map]
 rw[h3]at h2
 exact(bJ _).trans h2
theorem pj{A B:List Int}{p:Int}:p∈fO A B↔p∈B∧p∉A:=by
 unfold fO l8
 rw[List.mem_filter]
 simp
theorem GA{A A' B:List Int}(h:∀p,p∈B→(p∈A↔p∈A')):fO A B=fO A' B:=by
 unfold fO l8
 refine List.filter_congr fun p hp=>?_
 rw[decide_eq_decide.2 (h p hp)]
theorem Tt{A B:List Int}(h:B.Nodup):(fO A B).Nodup:=List.Pairwise.sublist List.filter_sublist h
theorem Py{k:Nat}{z:Zt}(h:ZI k z):(cb z.n z.l).Nodup:=(Af h.vi).nodup_iff.2 (List.nodup_append.1 h.nd).1
def bE(z:Zt)(n:N)(l:List C):List Int:=fO (cb n l) (cb z.n z.l)++z.own
def jL(z:Zt)(n:N)(l:List C)(q:Int)(p:Pl):Prop:=(lX (n,l) p (bE z n l).length:Int)≤dg p q
theorem sk{p:Pl}{q m:Int}(h:may p q m)(hq:q≤1000):may p 1000 m:=by
 unfold may dg at*
 refine⟨h.1,Int.le_trans h.2 ?_⟩
 split <;>split <;>omega
theorem wo{p:Pl}{q m:Int}(h:may p q m):(take p m).high≤max p.high q∧p.high≤(take p m).high:=by
 unfold may dg at h
 have hh:(take p m).high=p.high+((m.toNat-aW p m:Nat):Int):=rfl
 have ho:aW p m=min m.toNat p.free.length:=rfl
 rw[hh,ho]
 split at h <;>omega
theorem BP{p:Pl}{q m:Int}(h:may p q m):dg (take p m) q=dg p q-m:=by
 have h2:=h
 unfold may dg at h
 unfold dg
 have hh:(take p m).high=p.high+((m.toNat-aW p m:Nat):Int):=rfl
 have ho:aW p m=min m.toNat p.free.length:=rfl
 have hf:=mZ p m
 rw[hf,hh,ho]
 split at h <;>split <;>omega
theorem QF{k j:Nat}{z:Zt}{n:N}{l:List C}{p:Pl}(hz:ZI j z)(hv:ZV k z n l)(hk:og 1000 p (dD (gM (z.n,z.l)++z.own)) (z.bS+1))(hm:may p 1000 (ct (n,l))):PV k n l (cV p (ct (n,l))):=by
 obtain⟨t1,t2,t3⟩:=kR hk hm
 have hno:∀x,x∈cV p (ct (n,l))→x∉gM (z.n,z.l)++z.own:=fun x hx hx2=>by
  obtain⟨a,b,c⟩:=t1 x hx
  unfold dD at c
  rw[decide_eq_false_iff_not,Int.toNat_of_nonneg (by omega)]at c
  exact c hx2
 refine⟨hv.vi,hv.tv,List.nodup_append.2 ⟨hv.nd hz,t2,fun a ha b hb e=>hno b hb (List.mem_append_left _ (e▸hv.mem ha))⟩,fun x hx=>?_,by rw[kj];omega,hv.cl⟩
 rcases List.mem_append.1 hx with hx|hx
 ·have:=hz.qW x (List.mem_append_left _ (hv.mem hx))
  have:=hz.keep.pQ.2.2.2.1
  omega
 ·have:=t1 x hx;omega
theorem EA{top:Nat}{p:Pl}{h h':Nat→Bool}{t:Int}(k:og top p h t)(e:∀i,h i=h' i):og top p h' t:=by
 rw[←funext e];exact k
theorem we{p:Pl}{t:Int}{l:List Int}(h:∀w,w∈p.wait→w.bS<t):(mR p t l).free=p.free∧(mR p t l).high=p.high∧nW (mR p t l).wait=nW p.wait+l.length:=by
 by_cases hl:l=[]
 ·subst hl
  rw[show mR p t []=p from if_pos rfl]
  exact⟨rfl,rfl,rfl⟩
 ·rw[my hl fun w hw e=>by have:=h w (List.mem_of_getElem? hw);omega]
  refine⟨rfl,rfl,?_⟩
  show nW (p.wait++[⟨t,cX l⟩])=_
  unfold nW
  rw[List.map_append,List.sum_append]
  simp[aV]
def mc(z:Zt)(n:N)(l:List C)(p:Pl):Pl:=mR (take p (ct (n,l))) (z.bS+1) (bE z n l)
def sO(z:Zt)(n:N)(l:List C)(p:Pl):Nat:=nE (mc z n l p).free.length (nW (mc z n l p).wait)
def fx(z:Zt)(n:N)(l:List C)(p:Pl):List Int:=cV (mc z n l p) (sO z n l p)
def ot(z:Zt)(n:N)(l:List C)(p:Pl):Pl:=take (mc z n l p) (sO z n l p)
def oL(z:Zt)(n:N)(l:List C)(p:Pl)(M:N)(X:List C):Zt:=⟨z.label,z.bS+1,M.an,(fx z n l p).headD 0,(ot z n l p).high,M,X,fx z n l p,ot z n l p⟩
structure PO(k:Nat)(z:Zt)(n:N)(l:List C)(q:Int)(p:Pl)(M:N)(X:List C):Prop where
 m1:may p q (ct (n,l))
 back:bE z M X=bE z n l
 m2:may (mc z n l p) q (sO z n l p)
 zi:ZI (k+1) (oL z n l p M X)
 row:Row (listed (ot z n l p)) 1000
 many:(listed (ot z n l p)).length≤59*(fx z n l p).length
 nd:(fx z n l p).Nodup
 qW:∀x,x∈fx z n l p→2≤x∧x≤999∧x∉listed (ot z n l p)
 at_:∀x,x∈cV p (ct (n,l))++fx z n l p→2≤x∧x<(ot z n l p).high∧x∉gM (z.n,z.l)++z.own
 atn:(cV p (ct (n,l))++fx z n l p).Nodup
 high:z.p.high≤(ot z n l p).high∧(ot z n l p).high≤max z.p.high q
theorem Qt{k:Nat}{z:Zt}{n:N}{l:List C}{q:Int}{p:Pl}{M:N}{X:List C}{R:List Int}{W:List (Int×ByteArray)}(hz:ZI k z)(hv:ZV k z n l)(hk:og 1000 p (dD (gM (z.n,z.l)++z.own)) (z.bS+1))(hph:p.high=z.p.high)(hq:q≤1000)(hf:jL z n l q p)(ha:PA k n l (cV p (ct (n,l))) M X R W):PO k z n l q p M X:=by
 have hfit:lX (n,l) p (bE z n l).length=ct (n,l)+nE (p.free.length-ct (n,l)) (nW p.wait+(bE z n l).length):=rfl
 have m1:may p q (ct (n,l)):=by
  unfold jL at hf
  rw[hfit]at hf
  exact⟨by omega,by omega⟩
 have m1t:=sk m1 hq
 obtain⟨t1,t2,t3⟩:=kR hk m1t
 have hpv:=QF hz hv hk m1t
 have htl:(cV p (ct (n,l))).length=ct (n,l):=by rw[kj];omega
 have hno:∀x,x∈cV p (ct (n,l))→x∉gM (z.n,z.l)++z.own:=fun x hx hx2=>by
  obtain⟨a,b,c⟩:=t1 x hx
  unfold dD at c
  rw[decide_eq_false_iff_not,Int.toNat_of_nonneg (by omega)]at c
  exact c hx2
 have hal:∀x,x∈gM (M,X)↔x∈gM (n,l)∨x∈cV p (ct (n,l)):=fun x=>by
  rw[ha.al.mem_iff,List.mem_append,List.take_of_length_le (by omega)]
 have hzp:∀x,x∈cb z.n z.l↔x∈gM (z.n,z.l):=fun x=>(Af hz.vi).mem_iff
 have hnp:∀x,x∈cb n l↔x∈gM (n,l):=fun x=>(Af hv.vi).mem_iff
 have hMp:∀x,x∈cb M X↔x∈gM (M,X):=fun x=>(Af ha.vi).mem_iff
 have hback:bE z M X=bE z n l:=by
  unfold bE
  rw[GA fun x hx=>?_]
  rw[hMp,hnp,hal]
  exact⟨fun e=>e.resolve_right fun e=>hno x e (List.mem_append_left _ ((hzp x).1 hx)),.inl⟩
 have hB:∀x,x∈bE z n l→x∈gM (z.n,z.l)++z.own:=fun x hx=>by
  unfold bE at hx
  rcases List.mem_append.1 hx with hx|hx
  ·exact List.mem_append_left _ ((hzp x).1 (pj.1 hx).1)
  ·exact List.mem_append_right _ hx
 have hdis:=(List.nodup_append.1 hz.nd).2.2
 have hBn:(bE z n l).Nodup:=by
  unfold bE
  refine List.nodup_append.2 ⟨Tt (Py hz),(List.nodup_append.1 hz.nd).2.1,fun a ha b hb e=>hdis a ((hzp a).1 (pj.1 ha).1) b hb e⟩
 have hold:=t3.old
 obtain⟨g1,g2,g3⟩:=we (l:=bE z n l) hold
 have k3:=HW t3 (l:=bE z n l) (fun x hx=>by
  have:=hz.qW x (hB x hx)
  refine⟨by omega,?_⟩
  unfold marks dD
  rw[Bool.or_eq_true,decide_eq_true_eq,Int.toNat_of_nonneg (by omega)]
  exact .inl (hB x hx)) hBn
 have e3:mR (take p (ct (n,l))) (z.bS+1) (bE z n l)=mc z n l p:=rfl
 rw[e3]at g1 g2 g3 k3
 have hroom:=BP m1
 have hm2:may (mc z n l p) q (sO z n l p):=by
  refine⟨by omega,?_⟩
  have e1:dg (mc z n l p) q=dg (take p (ct (n,l))) q:=by unfold dg;rw[g1,g2]
  have e2:sO z n l p=nE (p.free.length-ct (n,l)) (nW p.wait+(bE z n l).length):=by
   unfold sO
   rw[g3,g1,mZ]
   have:(take p (ct (n,l))).wait=p.wait:=rfl
   rw[this]
   congr 1
   have:aW p (ct (n,l))=min (ct (n,l)) p.free.length:=by unfold aW;rw[Int.toNat_natCast]
   omega
  unfold jL at hf
  rw[hfit]at hf
  rw[e1,hroom,e2]
  omega
 have m2t:=sk hm2 hq
 obtain⟨u1,u2,u3⟩:=kR k3 m2t
 have ho1:cV (mc z n l p) (sO z n l p)=fx z n l p:=rfl
 have ho2:take (mc z n l p) (sO z n l p)=ot z n l p:=rfl
 rw[ho1]at u1 u2 u3
 rw[ho2]at u3
 have hset3:∀i:Nat,(marks (dD (gM (z.n,z.l)++z.own)) (cV p (ct (n,l))) i&&!decide ((i:Int)∈bE z n l))=decide ((i:Int)∈gM (M,X)):=fun i=>by
  have:((i:Int)∈gM (z.n,z.l)++z.own∨(i:Int)∈cV p (ct (n,l)))∧¬(i:Int)∈bE z n l↔(i:Int)∈gM (M,X):=by
   rw[hal]
   constructor
   ·rintro⟨h1|h1,h2⟩
    ·unfold bE at h2
     rw[List.mem_append,pj]at h2
     rcases List.mem_append.1 h1 with h1|h1
     ·exact .inl ((hnp _).1 (Classical.byContradiction fun e=>h2 (.inl ⟨(hzp _).2 h1,e⟩)))
     ·exact absurd (.inr h1) h2
    ·exact .inr h1
   ·rintro(h1|h1)
    ·refine⟨.inl (List.mem_append_left _ (hv.mem h1)),fun h2=>?_⟩
     unfold bE at h2
     rw[List.mem_append,pj]at h2
     rcases h2 with h2|h2
     ·exact h2.2 ((hnp _).2 h1)
     ·exact hdis _ (hv.mem h1) _ h2 rfl
    ·exact⟨.inr h1,fun h2=>hno _ h1 (hB _ h2)⟩
  unfold marks dD
  by_cases e:(i:Int)∈gM (M,X)
  ·obtain⟨e1,e2⟩:=this.2 e
   rw[decide_eq_true e,decide_eq_false e2,Bool.not_false,Bool.and_true,Bool.or_eq_true,decide_eq_true_eq,decide_eq_true_eq]
   exact e1
  ·rw[decide_eq_false e]
   cases h:((decide ((i:Int)∈gM (z.n,z.l)++z.own)||decide ((i:Int)∈cV p (ct (n,l))))&&!decide ((i:Int)∈bE z n l))with
   |false=>rfl
   |true=>
    rw[Bool.and_eq_true,Bool.or_eq_true,decide_eq_true_eq,decide_eq_true_eq,Bool.not_eq_true',decide_eq_false_iff_not]at h
    exact absurd (this.1 h) e
 have htw:cV p (ct (n,l)+sO z n l p)=cV p (ct (n,l))++fx z n l p:=by
  rw[(KW p (by omega) (by omega)).1]
  congr 1
  unfold fx cV aW
  rw[g1,g2]
 have hmm:may p 1000 (ct (n,l)+sO z n l p):=by
  refine sk (q:=q) ⟨by omega,?_⟩ hq
  have h1:=hm2.2
  have e1:dg (mc z n l p) q=dg (take p (ct (n,l))) q:=by unfold dg;rw[g1,g2]
  rw[e1,hroom]at h1
  omega
 obtain⟨v1,v2,v3⟩:=kR hk hmm
 rw[htw]at v1 v2
 have hlo:∀x,x∈gM (M,X)→2≤x:=fun x hx=>by
  rcases(hal x).1 hx with hx|hx
  ·exact(hz.qW x (List.mem_append_left _ (hv.mem hx))).1
  ·exact(t1 x hx).1
 have hown:∀x,x∈fx z n l p→x∉gM (M,X):=fun x hx hx2=>by
  obtain⟨a,b,c⟩:=u1 x hx
  rw[hset3,decide_eq_false_iff_not,Int.toNat_of_nonneg (by omega)]at c
  exact c hx2
 have hMn:(gM (M,X)).Nodup:=by
  refine ha.al.nodup_iff.2 ?_
  rw[List.take_of_length_le (by omega)]
  exact hpv.nd
 have hnd:(gM (M,X)++fx z n l p).Nodup:=List.nodup_append.2 ⟨hMn,u2,fun a h1 b h2 e=>hown b h2 (e▸h1)⟩
 have k4:og 1000 (ot z n l p) (dD (gM (M,X)++fx z n l p)) (z.bS+1+1):=EA u3 fun i=>by
  show((marks (dD (gM (z.n,z.l)++z.own)) (cV p (ct (n,l))) i&&!decide ((i:Int)∈bE z n l))||decide ((i:Int)∈fx z n l p))=_
  rw[hset3]
  unfold dD
  by_cases e1:(i:Int)∈gM (M,X)
  ·rw[decide_eq_true e1,decide_eq_true (List.mem_append_left _ e1)];rfl
  ·rw[decide_eq_false e1,Bool.false_or]
   exact decide_eq_decide.2 ⟨List.mem_append_right _,fun e=>(List.mem_append.1 e).resolve_left e1⟩
 have hrng:∀x,x∈gM (M,X)++fx z n l p→2≤x∧x<(ot z n l p).high:=fun x hx=>by
  have h2:2≤x:=(List.mem_append.1 hx).elim (hlo x) fun h=>(u1 x h).1
  have:=k4.own x.toNat (by unfold dD;rw[decide_eq_true_eq,Int.toNat_of_nonneg (by omega)];exact hx)
  rw[Int.toNat_of_nonneg (by omega)]at this
  exact⟨h2,this.2.1⟩
 have hhi1:=wo m1
 have hhi2:=wo hm2
 rw[ho2]at hhi2
 obtain⟨c1,c2,c3,c4,c5,c6⟩:=k4.pQ
 have hall:=fun x hx=>(k4.own x hx).2.2
 refine⟨m1,hback,hm2,⟨fF ha.vi (by omega),ha.tv,ha.fr,ha.cl,hnd,hrng,k4,rfl,rfl,⟨by have:=hz.bS.1;show 0≤z.bS+1;omega,by have:=hz.bS.2;show z.bS+1≤((k+1:Nat):Int);omega⟩,hz.label⟩,?_,?_,u2,fun x hx=>?_,fun x hx=>?_,?_,by omega,by omega⟩
 ·exact(lQ _ _).2 ⟨fun a ha=>by have:=((lQ _ _).1 c6).1 a ha;have c4:(ot z n l p).high≤1000:=c4;omega,((lQ _ _).1 c6).2⟩
 ·have h1:=IB (mc z n l p).free.length (nW (mc z n l p).wait)
  unfold rF at h1
  rw[decide_eq_true_eq]at h1
  have e4:nE (mc z n l p).free.length (nW (mc z n l p).wait)=sO z n l p:=rfl
  rw[e4]at h1
  have e5:(fx z n l p).length=sO z n l p:=by unfold fx;rw[kj];omega
  have e6:(ot z n l p).free.length=(mc z n l p).free.length-sO z n l p:=by
   unfold ot
   rw[mZ]
   have:aW (mc z n l p) (sO z n l p)=min (sO z n l p) (mc z n l p).free.length:=by unfold aW;rw[Int.toNat_natCast]
   omega
  rw[lu,e5,e6]
  have e7:(ot z n l p).wait=(mc z n l p).wait:=rfl
  rw[e7]
  omega
 ·obtain⟨a,b,c⟩:=u1 x hx
  refine⟨a,by omega,fun h=>?_⟩
  have:=(k4.own x.toNat (by unfold dD;rw[decide_eq_true_eq,Int.toNat_of_nonneg (by omega)];exact List.mem_append_right _ hx)).2.2
  rw[Int.toNat_of_nonneg (by omega)]at this
  rw[cC]at h
  exact this ((bJ _).mem_iff.1 h)
 ·have h1:2≤x∧x<(ot z n l p).high:=by
   rcases List.mem_append.1 hx with hx|hx
   ·exact hrng x (List.mem_append_left _ ((hal x).2 (.inr hx)))
   ·exact hrng x (List.mem_append_right _ hx)
  refine⟨h1.1,h1.2,fun h2=>?_⟩
  obtain⟨a,b,c⟩:=v1 x hx
  unfold dD at c
  rw[decide_eq_false_iff_not,Int.toNat_of_nonneg (by omega)]at c
  exact c h2
 ·exact v2
theorem JU(w0:W0)(n:Int)(S:St):aa Tryz.prog w0 231 [dI n] S (fun d S'=>d=dB (decide (2≤n∧n≤999))∧S'=S):=by
 refine ba [] mx Tryz.func231 rfl rfl (by kernel_rfl) ?_;(refine @ab _ ?_;refine ao @Tryz.ntmps231 ?_)
 exact⟨fun h=>⟨fun e=>⟨h,e⟩,fun e=>e.2⟩,fun h e=>h e.1⟩
theorem P1(w0:W0)(l:List Int)(S:St)(h0:l.length≤1048576)(hr:Row l 1000):aa Tryz.prog w0 187 [dL l] S (fun d S'=>d=dB true∧S'=S):=by
 refine ba [] mx Tryz.func187 rfl rfl (by kernel_rfl) ?_;(refine @ab _ ?_;refine ao @Tryz.ntmps187 ?_)
 refine aE [] l.length [0,5,6,7] (fun k=>[(7,dI k)]) (fun _=>S) (fun _=>True) mx (by kernel_rfl) ?_ ?_
 ·(refine @ab _ ?_;exact aQ)
 ·intro k hk _
  (refine @ab _ ?_;refine au ?_)
  refine fun hlt=>⟨hlt,fun a ha=>?_⟩
  obtain⟨r1,r2,r3⟩:=mX hr ha
  have hpg:=fun S=>JU w0 a S
  rw[decide_eq_true (⟨r1,by omega⟩:2≤a∧a≤999)]at hpg
  refine aq (hpg _) ?_
  (refine @ab _ ?_;refine au ?_)
  refine⟨fun h0=>?_,fun h0=>⟨hlt,bl k (by omega)⟩⟩
  have ew:IntKind.i64.wrap ((k:Int)-1)=((k-1:Nat):Int):=by rw[bw (by omega) (by omega)];omega
  rw[ew,Int.toNat_natCast]
  refine⟨by omega,by omega,fun b hb=>⟨fun e=>?_,fun _=>⟨hlt,bl k (by omega)⟩⟩⟩
  have:=r3 b (by omega) hb
  omega
def Om(es:List (Value×DV×Nat))(v:Int)(c:Nat):Prop:=iI es (.int .i64 v)=if c=0 then none else some (dI c)
theorem Fi{es:List (Value×DV×Nat)}{clk:Nat}{f:Int→Nat}(h:∀v,Om es v (f v))(a v:Int):Om (jK es clk (.int .i64 a) (dI (f a+1:Nat))) v (if v=a then f a+1 else f v):=by
 unfold Om
 by_cases e:v=a
 ·rw[if_pos e,if_neg (by omega),e,j9]
 ·rw[if_neg e,rD _ _ (fun z=>e (by injection z)) _]
  exact h v
theorem Al{l:List Int}{k:Nat}{a:Int}(ha:l[k]? =some a)(v:Int):(l.take (k+1)).count v=if v=a then(l.take k).count a+1 else(l.take k).count v:=by
 rw[List.take_add_one,ha,Option.toList_some,List.count_append,List.count_singleton]
 by_cases e:v=a
 ·subst e;simp
 ·rw[if_neg e,if_neg (by simpa using fun z:a=v=>e z.symm)];rfl
theorem Q9:IntKind.i64.wrap (0+1)=1:=by decide
theorem ON(w0:W0)(at_ l:List Int)(S:St)(ha:at_.length≤1048576)(hl:l.length≤1048576)(hn:at_.Nodup)(hr:∀x,x∈at_→2≤x∧x≤999∧x∉l):aa Tryz.prog w0 188 [dL at_,dL l] S (fun d S'=>d=dB true∧S'=S):=by
 refine ba [] mx Tryz.func188 rfl rfl (by kernel_rfl) ?_;(refine @ab _ ?_;refine ao @Tryz.ntmps188 ?_)
 intro m
 refine kO [] [0,5,11,12,13] (fun s:Nat×List (Value×DV×Nat)×Nat=>[(13,dI s.1)]) (fun s=>⟨S.box,(m.n,.xo (.mp (.int .i64) s.2.1 s.2.2))::S.acc⟩) (fun s=>s.1≤l.length∧∀v,Om s.2.1 v ((l.take s.1).count v)) (fun s=>l.length-s.1) (0,[],0) mx (by kernel_rfl) ?_ ?_
 ·(refine @ab _ ?_;refine au ?_)
  exact⟨Nat.zero_le _,fun v=>rfl⟩
 ·rintro⟨k,es,clk⟩ ⟨h1,h2⟩
  simp only at h1 h2
  (refine @ab _ ?_;refine au ?_)
  refine⟨fun hlt=>⟨hlt,fun a ha2=>?_⟩,fun hge=>?_⟩
  ·have hcl:(l.take k).count a≤k:=Nat.le_trans List.count_le_length (by rw[List.length_take];omega)
   have e1:IntKind.i64.wrap (((l.take k).count a:Int)+1)=(((l.take k).count a+1:Nat):Int):=by rw[bw (by omega) (by omega)];omega
   have hstep:∀v,Om (jK es clk (.int .i64 a) (dI ((l.take k).count a+1:Nat))) v ((l.take (k+1)).count v):=fun v=>by rw[Al ha2];exact Fi h2 a v
   have hc:=h2 a
   unfold Om at hc
   by_cases c0:(l.take k).count a=0
   ·rw[if_pos c0]at hc
    rw[c0]at e1 hstep
    (refine @ab _ ?_;refine aY @hc @e1 ?_)
    rw[Q9]
    exact⟨(k+1,jK es clk (.int .i64 a) (dI (0+1:Nat)),qh es clk (.int .i64 a)),⟨hlt,hstep⟩,by show l.length-(k+1)<l.length-k;omega,bl k (by omega),.refl _⟩
   ·rw[if_neg c0]at hc
    (refine @ab _ ?_;refine aY @hc @e1 ?_)
    exact⟨(k+1,jK es clk (.int .i64 a) (dI ((l.take k).count a+1:Nat)),qh es clk (.int .i64 a)),⟨hlt,hstep⟩,by show l.length-(k+1)<l.length-k;omega,bl k (by omega),.refl _⟩
  ·have hle:l.take k=l:=List.take_of_length_le (by omega)
   rw[hle]at h2
   refine kO [] [5,22,23,24] (fun s:Nat×List (Value×DV×Nat)×Nat=>[(24,dI s.1)]) (fun s=>⟨S.box,(m.n,.xo (.mp (.int .i64) s.2.1 s.2.2))::S.acc⟩) (fun s=>s.1≤at_.length∧∀v,Om s.2.1 v (l.count v+(at_.take s.1).count v)) (fun s=>at_.length-s.1) (0,es,clk) mx (by kernel_rfl) ?_ ?_
   ·(refine @ab _ ?_;refine au ?_)
    exact⟨Nat.zero_le _,fun v=>h2 v⟩
   ·rintro⟨k,es,clk⟩ ⟨h1,h2⟩
    simp only at h1 h2
    (refine @ab _ ?_;refine au ?_)
    refine fun hlt=>⟨hlt,fun a ha2=>?_⟩
    obtain⟨r1,r2,r3⟩:=hr a (List.mem_of_getElem? ha2)
    have c1:l.count a=0:=List.count_eq_zero.2 r3
    have c2:(at_.take k).count a=0:=List.count_eq_zero.2 fun hm=>by
     obtain⟨i,hi⟩:=List.mem_iff_getElem?.1 hm
     have hik:i<k:=by have:=(List.getElem?_eq_some_iff.1 hi).1;rw[List.length_take]at this;omega
     rw[List.getElem?_take,if_pos hik]at hi
     obtain⟨u1,e1⟩:=List.getElem?_eq_some_iff.1 hi
     obtain⟨u2,e2⟩:=List.getElem?_eq_some_iff.1 ha2
     exact(List.pairwise_iff_getElem.1 hn) i k u1 u2 hik (e1.trans e2.symm)
    have hc:=h2 a
    unfold Om at hc
    rw[c1,c2,if_pos rfl]at hc
    have dD:iI (jK es clk (.int .i64 a) (.v (.int .i64 1))) (.int .i64 a)=some (.v (.int .i64 1)):=j9 _ _ _ _
    have hstep:∀v,Om (jK es clk (.int .i64 a) (dI (0+1:Nat))) v (l.count v+(at_.take (k+1)).count v):=fun v=>by
     have:=Fi (clk:=clk) h2 a v
     rw[c1,c2]at this
     rw[Al ha2,c2]
     by_cases e:v=a
     ·rw[if_pos e]at this ⊢
      rw[e,c1];rw[e]at this;exact this
     ·rw[if_neg e]at this ⊢
      exact this
    have hpg:=fun S=>JU w0 a S
    rw[decide_eq_true (⟨r1,r2⟩:2≤a∧a≤999)]at hpg
    (refine @ab _ ?_;refine ao @hc ?_)
    rw[Q9]
    refine aq (hpg _) ?_
    (refine @ab _ ?_;refine ao @dD ?_)
    exact⟨fun e=>absurd e (by decide),fun _=>⟨(k+1,jK es clk (.int .i64 a) (dI (0+1:Nat)),qh es clk (.int .i64 a)),⟨hlt,hstep⟩,by show at_.length-(k+1)<at_.length-k;omega,bl k (by omega),.refl _⟩⟩
def sC(at_:List Int)(i:Nat):Int:=(at_[i+1]?).getD 0
def gP(L:List Int):ByteArray:=L.foldl (fun s n=>s++bC 2 n) aX
def iS(l at_:List Int)(i:Nat):ByteArray:=gP (sC at_ i::(l.drop (59*i)).take 59)
def gL(l at_:List Int):List ByteArray:=(List.range at_.length).map fun i=>gq 4 [iS l at_ i]
theorem sV(L:List Int)(n:Int):gP (L++[n])=gP L++bC 2 n:=by unfold gP;rw[List.foldl_append];rfl
theorem je(L:List Int):(gP L).size=2*L.length:=by
 suffices h:∀(L:List Int) (s:ByteArray),(L.foldl (fun s n=>s++bC 2 n) s).size=s.size+2*L.length by
  have:=h L aX
  rw[bu]at this
  unfold gP;omega
 intro L
 induction L with
 |nil=>intro s;simp
 |cons a L ih=>intro s;rw[List.foldl_cons,ih,ByteArray.size_append,aA,List.length_cons];omega
theorem v8(l at_:List Int):(gL l at_).length=at_.length:=by unfold gL;rw[List.length_map,List.length_range]
theorem xb(l at_:List Int)(i:Nat):(iS l at_ i).size≤120:=by
 unfold iS
 rw[je,List.length_cons,List.length_take]
 omega
def rL(l at_:List Int)(i:Nat):List Int:=sC at_ i::(l.drop (59*i)).take 59
theorem PS(l at_:List Int)(i:Nat):(rL l at_ i).length≤60:=by
 unfold rL;rw[List.length_cons,List.length_take];omega
theorem RZ(l at_:List Int)(i:Nat)(hr:Row l 1000)(hra:∀x,x∈at_→2≤x∧x≤999∧x∉l):∀a,a∈rL l at_ i→0≤a∧a<1000:=by
 intro a h
 unfold rL sC at h
 rcases List.mem_cons.1 h with h|h
 ·rcases e:at_[i+1]? with _|x
  ·rw[e]at h;simp only[Option.getD_none]at h;omega
  ·rw[e]at h;simp only[Option.getD_some]at h
   have:=hra x (List.mem_of_getElem? e)
   omega
 ·obtain⟨j,hj⟩:=List.mem_iff_getElem?.1 (List.mem_of_mem_drop (List.mem_of_mem_take h))
  have:=mX hr hj
  omega
theorem U1(l:List Int)(k:Nat):(l.take (min (min (59*k) l.length+59) l.length)).drop (min (59*k) l.length)=(l.drop (59*k)).take 59:=by
 apply List.ext_getElem?
 intro i
 rw[List.getElem?_drop,List.getElem?_take,List.getElem?_take,List.getElem?_drop]
 rcases Nat.lt_or_ge l.length (59*k)with h|h
 ·rw[List.getElem?_eq_none (l:=l) (i:=59*k+i) (by omega),List.getElem?_eq_none (l:=l) (i:=min (59*k) l.length+i) (by omega)]
  split <;>split <;>rfl
 ·rw[Nat.min_eq_left h]
  rcases Nat.lt_or_ge (59*k+i) l.length with h1|h1
  ·by_cases h2:i<59
   ·rw[if_pos (by omega),if_pos h2]
   ·rw[if_neg (by omega),if_neg h2]
  ·rw[List.getElem?_eq_none (l:=l) (i:=59*k+i) (by omega)]
   split <;>split <;>rfl
theorem Aj(l at_:List Int)(k:Nat)(h:k<at_.length):(gL l at_)[k]? =some (gq 4 [iS l at_ k]):=by
 unfold gL
 rw[List.getElem?_map,List.getElem?_range h];rfl
theorem OI(w0:W0)(hg:fE w0)(l at_:List Int)(S:St)(hl:l.length≤100000)(ha:at_.length≤100000)(hr:Row l 1000)(hm:l.length≤59*at_.length)(hn:at_.Nodup)(hra:∀x,x∈at_→2≤x∧x≤999∧x∉l):
 aa Tryz.prog w0 135 [dL l,dL at_] S (fun d S'=>d= .bI [.sl 1 false ((gL l at_).map fv),dI 0]∧S'=S):=by
 have hll:=v8 l at_
 have hpk:=fun k S=>Fh w0 hg 4 [iS l at_ k] S (by decide) (by decide) (by decide) (by have:=xb l at_ k;simp only[de,List.map_cons,List.map_nil,List.sum_cons,List.sum_nil];omega)
 refine ba [] mx Tryz.func135 rfl rfl (by kernel_rfl) ?_;(refine @ab _ ?_;refine ao @Tryz.ntmps135 ?_)
 refine aq (P1 w0 l _ (by omega) hr) ?_
 (refine @ab _ ?_;refine au ?_)
 refine aq (wy w0 l.length _ (by omega)) ?_
 (refine @ab _ ?_;refine au ?_)
 refine⟨fun h=>absurd h (by omega),fun _=>aq (ON w0 at_ l _ (by omega) (by omega) hn hra) ?_⟩
 (refine @ab _ ?_;refine au ?_)
 refine o7 6 1 rfl (by omega) fun lo=>?_
 (refine @ab _ ?_;refine au ?_)
 refine aE [] at_.length [0,1,6,33,34] (fun k=>[(6,.acc lo.n k),(34,dI k)]) (fun k=>⟨S.box,(lo.n,.arr 1 (((gL l at_).take k).map fv))::S.acc⟩) (fun _=>True) mx (by kernel_rfl) ?_ ?_
 ·(refine @ab _ ?_;exact aQ)
 ·intro k hk _
  have e1:IntKind.i64.wrap ((k:Int)+1)=((k+1:Nat):Int):=by rw[bw (by omega) (by omega)];omega
  have e2:IntKind.i64.wrap ((k:Int)*59)=((59*k:Nat):Int):=by rw[bw (by omega) (by omega)];omega
  have e3:(if l.length<59*k then(l.length:Int)else((59*k:Nat):Int))=((min (59*k) l.length:Nat):Int):=by split <;>omega
  have e4:IntKind.i64.wrap (((min (59*k) l.length:Nat):Int)+59)=((min (59*k) l.length+59:Nat):Int):=by rw[bw (by omega) (by omega)];omega
  have e5:(if l.length<min (59*k) l.length+59 then(l.length:Int)else((min (59*k) l.length+59:Nat):Int))=((min (min (59*k) l.length+59) l.length:Nat):Int):=by split <;>omega
  have hm8:maxLen=9223372036854775807:=rfl
  have hx:(k+1<at_.length∧at_[k+1]? =some (sC at_ k))∨(¬k+1<at_.length∧sC at_ k=0):=by
   unfold sC
   rcases Nat.lt_or_ge (k+1) at_.length with h|h
   ·exact .inl ⟨h,by rw[List.getElem?_eq_getElem h];rfl⟩
   ·exact .inr ⟨by omega,by rw[List.getElem?_eq_none h];rfl⟩
  have e6:=U1 l k
  have e8:min (min (min (59*k) l.length+59) l.length) l.length-min (59*k) l.length+1=(rL l at_ k).length:=by
   unfold rL;rw[List.length_cons,←e6,List.length_drop,List.length_take]
  have hcl:=PS l at_ k
  have hcb:=RZ l at_ k hr hra
  rcases hx with⟨h1,h2⟩|⟨h1,h2⟩
  ·have e7:DV.v (.int .i64 (sC at_ k))::List.map dI ((l.drop (59*k)).take 59)=List.map dI (rL l at_ k):=rfl
   (refine @ab _ ?_;refine N5 @e1 @e2 @e3 @e4 @e5 @h1 @h2 @Int.toNat_natCast ?_)
   refine⟨fun hlt=>⟨by omega,by omega,by omega,by omega,fun lb=>?_⟩,fun hge=>⟨by omega,by rw[List.take_of_length_le (by omega)];exact .refl _⟩⟩
   rw[e6,e7,e8]
   refine o7 10 1 rfl (by omega) fun lc=>?_
   refine jx [] [62] mx (by kernel_rfl) ?_
   (refine @ab _ ?_;refine au ?_)
   refine aE [] (rL l at_ k).length [0,1,6,10,33,34,62,63,64] (fun j=>[(10,.acc lc.n (2*j)),(64,dI j)]) (fun j=>⟨S.box,(lc.n,.arr 1 (bY (gP ((rL l at_ k).take j))))::(lb.n,.tl 1 ((rL l at_ k).map dI))::(lo.n,.arr 1 (((gL l at_).take k).map fv))::S.acc⟩) (fun _=>True) mx (by kernel_rfl) ?_ ?_
   ·have e0:bY (gP ((rL l at_ k).take 0))=[]:=rfl
    (refine @ab _ ?_;refine aY @e0 @Nat.mul_zero ?_)
    exact .refl _
   ·intro j hj _
    have ej:IntKind.i64.wrap ((j:Int)+1)=((j+1:Nat):Int):=by rw[bw (by omega) (by omega)];omega
    (refine @ab _ ?_;refine aY @ej @Int.toNat_natCast ?_)
    refine⟨fun hlt2=>⟨hlt2,fun a ha2=>?_⟩,fun hge2=>⟨by rw[bd,je,List.length_take];omega,?_⟩⟩
    ·have hb:=hcb a (List.mem_of_getElem? ha2)
     rw[kL (by omega) (by omega)]
     refine aq (ub w0 a 2 _ (by decide) (by decide) (by omega) (by omega)) ?_
     have hz:(gP ((rL l at_ k).take j)).size=2*j:=by rw[je,List.length_take];omega
     have hs:gP ((rL l at_ k).take (j+1))=gP ((rL l at_ k).take j)++bC 2 a:=by rw[List.take_add_one,ha2];exact sV _ _
     (refine @ab _ ?_;refine CV @bd @hz @aA @ej ?_)
     rw[hs,cQ]
     exact⟨by omega,by omega,hlt2,by rw[show 2*j+2=2*(j+1)by omega];exact .refl _,.refl _⟩
    ·have hz:gP ((rL l at_ k).take j)=iS l at_ k:=by rw[List.take_of_length_le (by omega)];rfl
     rw[hz]
     refine aq (hpk k _) ?_ (.cons (.refl _) (.cons (Wk.full _ _ _) .nil))
     (refine @ab _ ?_;refine au ?_)
     have hs:(gL l at_).take (k+1)=(gL l at_).take k++[gq 4 [iS l at_ k]]:=by
      have:=Aj l at_ k hlt
      rw[List.take_add_one,this];rfl
     rw[hs,List.map_append,List.map_cons,List.map_nil]
     exact⟨by omega,by omega,by omega,hlt,⟨by rw[show min k (gL l at_).length+1=k+1 by omega];exact .refl _,e1⟩,.pM (.pM (.refl _))⟩
  ·have e7:DV.v (.int .i64 0)::List.map dI ((l.drop (59*k)).take 59)=List.map dI (rL l at_ k):=by unfold rL;rw[h2];rfl
   (refine @ab _ ?_;refine N5 @e1 @e2 @e3 @e4 @e5 @h1 @h2 @Int.toNat_natCast ?_)
   refine⟨fun hlt=>⟨by omega,by omega,by omega,by omega,fun lb=>?_⟩,fun hge=>⟨by omega,by rw[List.take_of_length_le (by omega)];exact .refl _⟩⟩
   rw[e6,e7,e8]
   refine o7 10 1 rfl (by omega) fun lc=>?_
   refine jx [] [62] mx (by kernel_rfl) ?_
   (refine @ab _ ?_;refine au ?_)
   refine aE [] (rL l at_ k).length [0,1,6,10,33,34,62,63,64] (fun j=>[(10,.acc lc.n (2*j)),(64,dI j)]) (fun j=>⟨S.box,(lc.n,.arr 1 (bY (gP ((rL l at_ k).take j))))::(lb.n,.tl 1 ((rL l at_ k).map dI))::(lo.n,.arr 1 (((gL l at_).take k).map fv))::S.acc⟩) (fun _=>True) mx (by kernel_rfl) ?_ ?_
   ·have e0:bY (gP ((rL l at_ k).take 0))=[]:=rfl
    (refine @ab _ ?_;refine aY @e0 @Nat.mul_zero ?_)
    exact .refl _
   ·intro j hj _
    have ej:IntKind.i64.wrap ((j:Int)+1)=((j+1:Nat):Int):=by rw[bw (by omega) (by omega)];omega
    (refine @ab _ ?_;refine aY @ej @Int.toNat_natCast ?_)
    refine⟨fun hlt2=>⟨hlt2,fun a ha2=>?_⟩,fun hge2=>⟨by rw[bd,je,List.length_take];omega,?_⟩⟩
    ·have hb:=hcb a (List.mem_of_getElem? ha2)
     rw[kL (by omega) (by omega)]
     refine aq (ub w0 a 2 _ (by decide) (by decide) (by omega) (by omega)) ?_
     have hz:(gP ((rL l at_ k).take j)).size=2*j:=by rw[je,List.length_take];omega
     have hs:gP ((rL l at_ k).take (j+1))=gP ((rL l at_ k).take j)++bC 2 a:=by rw[List.take_add_one,ha2];exact sV _ _
     (refine @ab _ ?_;refine CV @bd @hz @aA @ej ?_)
     rw[hs,cQ]
     exact⟨by omega,by omega,hlt2,by rw[show 2*j+2=2*(j+1)by omega];exact .refl _,.refl _⟩
    ·have hz:gP ((rL l at_ k).take j)=iS l at_ k:=by rw[List.take_of_length_le (by omega)];rfl
     rw[hz]
     refine aq (hpk k _) ?_ (.cons (.refl _) (.cons (Wk.full _ _ _) .nil))
     (refine @ab _ ?_;refine au ?_)
     have hs:(gL l at_).take (k+1)=(gL l at_).take k++[gq 4 [iS l at_ k]]:=by
      have:=Aj l at_ k hlt
      rw[List.take_add_one,this];rfl
     rw[hs,List.map_append,List.map_cons,List.map_nil]
     exact⟨by omega,by omega,by omega,hlt,⟨by rw[show min k (gL l at_).length+1=k+1 by omega];exact .refl _,e1⟩,.pM (.pM (.refl _))⟩
end Go.Proofs.YtpjenciplibdnaaGreatDoor
namespace Go.Proofs.YtpjenciplibdnaaGreatDoor
open Aml Go
@[go_sem] def WA (a t r l h:Int):List DV:=[dI a,dU t,dI r,dI l,dI h]
@[go_sem] def PI (a t r l h:Int):DV:= .agg (WA a t r l h)
structure uW(a t r l h:Int):Prop where
 ha:0≤a∧a≤63
 ht:0<t∧t≤18446744073709551615
 hh:2≤h∧h≤1000
 hr:r=0∨(2≤r∧r<h)
 hl:l=0∨(2≤l∧l<h)
 Ss:r=0∨r≠l
section
variable {a t r l h:Int}
theorem Ro(w0:W0)(n:Int)(S:St)(hn:n=0∨(2≤n∧n<h)):aa Tryz.prog w0 190 [PI a t r l h,dI n] S (fun d S'=>d=dB true∧S'=S):=by
 refine ba [] mx Tryz.func190 rfl rfl (by kernel_rfl) ?_;(refine @ab _ ?_;refine ao @Tryz.ntmps190 ?_)
 exact fun b h0=>⟨fun _=>by omega,fun h1=>by omega⟩
theorem Wv(w0:W0)(S:St)(hm:uW a t r l h):aa Tryz.prog w0 191 [PI a t r l h] S (fun d S'=>d=dB true∧S'=S):=by
 have h1:=hm.ha
 refine ba [] mx Tryz.func191 rfl rfl (by kernel_rfl) ?_;(refine @ab _ ?_;refine ao @Tryz.ntmps191 ?_)
 exact fun b=>⟨fun _=>by omega,fun h1=>by omega⟩
theorem VY(w0:W0)(S:St)(hm:uW a t r l h):aa Tryz.prog w0 192 [PI a t r l h] S (fun d S'=>d=dB true∧S'=S):=by
 have h1:=hm.ht
 refine ba [] mx Tryz.func192 rfl rfl (by kernel_rfl) ?_;(refine @ab _ ?_;refine ao @Tryz.ntmps192 ?_)
 exact fun b=>by omega
theorem WR(w0:W0)(S:St)(hm:uW a t r l h):aa Tryz.prog w0 193 [PI a t r l h] S (fun d S'=>d=dB true∧S'=S):=by
 have h1:=hm.hh
 refine ba [] mx Tryz.func193 rfl rfl (by kernel_rfl) ?_;(refine @ab _ ?_;refine ao @Tryz.ntmps193 ?_)
 exact fun b=>⟨fun _=>by omega,fun h1=>by omega⟩
theorem Vs(w0:W0)(b:Nat)(S:St)(hb:lk S.box b=some [.v (.func (.func 190) #[] #[])])(hm:uW a t r l h):aa Tryz.prog w0 194 [PI a t r l h,.v (.pointer (some ⟨b,0,none⟩))] S (fun d S'=>d=dB true∧S'=S):=by
 refine ba [] mx Tryz.func194 rfl rfl (by kernel_rfl) ?_;simp only[Tryz.ntmps194,List.length_cons,List.length_nil,Nat.reduceAdd,Nat.reduceSub,List.reduceReplicate,List.cons_append,List.nil_append];(refine @ab _ ?_;refine aY @Tryz.ntmps194 @hb ?_)
 intro b1
 refine aq (Ro w0 r _ hm.hr) ?_
 (refine @ab _ ?_;refine ao @hb ?_)
 refine aq (Ro w0 l _ hm.hl) ?_
 (refine @ab _ ?_;refine au ?_)
 trivial
theorem Vw(w0:W0)(S:St)(hm:uW a t r l h):aa Tryz.prog w0 195 [PI a t r l h] S (fun d S'=>d=dB true∧S'=S):=by
 have h1:=hm.Ss
 refine ba [] mx Tryz.func195 rfl rfl (by kernel_rfl) ?_;(refine @ab _ ?_;refine ao @Tryz.ntmps195 ?_)
 exact fun b h0=>by omega
theorem sG(w0:W0)(f:FuncId)(cs:List Value)(b:Nat)(S:St)(hb:lk S.box b=some (WA a t r l h))(hok:okF Tryz.prog f=true)(hcs:cs.all (fun u=>u.oneCell')=true)
 (hf:∀T,Has S T→aa Tryz.prog w0 f (PI a t r l h::cs.map .v) T (fun d S'=>d=dB true∧S'=T)):
 aa Tryz.prog w0 138 [.agg [.v (.func (.func f) #[] cs.toArray)],.v (.pointer (some ⟨b,0,none⟩))] S (fun d S'=>d=dB false∧S'=S):=by
 refine ba [] mx Tryz.func138 rfl rfl (by kernel_rfl) ?_;simp only[Tryz.ntmps138,List.length_cons,List.length_nil,Nat.reduceAdd,Nat.reduceSub,List.reduceReplicate,List.cons_append,List.nil_append];(refine @ab _ ?_;refine CV @Tryz.ntmps138 @hb @hok @hcs ?_)
 intro b1
 refine⟨hcs,aq (hf _ (by(refine @ab _ ?_;exact aQ))) ?_⟩
 (refine @ab _ ?_;refine au ?_)
 trivial
theorem Sx(w0:W0)(S:St):aa Tryz.prog w0 137 [] S (fun d S'=>∃b:FN S.box,d= .sl 1 true [.agg [.v (.func (.func 191) #[] #[])],.agg [.v (.func (.func 192) #[] #[])],.agg [.v (.func (.func 193) #[] #[])],.agg [.v (.func (.func 194) #[] #[.pointer (some ⟨b.n,0,none⟩)])],.agg [.v (.func (.func 195) #[] #[])]]∧S'=⟨(b.n,[.v (.func (.func 190) #[] #[])])::S.box,S.acc⟩):=by
 refine nB [] mx Tryz.func137 rfl rfl (by kernel_rfl) ?_;(refine @ab _ ?_;refine ao @Tryz.ntmps137 ?_)
 exact fun b=>⟨b,rfl,rfl⟩
theorem IK(w0:W0)(b c:Nat)(S:St)(hb:lk S.box b=some (WA a t r l h))(hc:lk S.box c=some [.v (.func (.func 190) #[] #[])])(hm:uW a t r l h):
 aa Tryz.prog w0 189 [.sl 1 true [.agg [.v (.func (.func 191) #[] #[])],.agg [.v (.func (.func 192) #[] #[])],.agg [.v (.func (.func 193) #[] #[])],.agg [.v (.func (.func 194) #[] #[.pointer (some ⟨c,0,none⟩)])],.agg [.v (.func (.func 195) #[] #[])]],.v (.func (.func 138) #[] #[.pointer (some ⟨b,0,none⟩)])] S (fun d S'=>d=dI (-1)∧S'=S):=by
 have k2:=sG w0 191 [] b S hb (by kernel_rfl) rfl fun T _=>Wv w0 T hm
 have k3:=sG w0 192 [] b S hb (by kernel_rfl) rfl fun T _=>VY w0 T hm
 have k4:=sG w0 193 [] b S hb (by kernel_rfl) rfl fun T _=>WR w0 T hm
 have k5:=sG w0 194 [.pointer (some ⟨c,0,none⟩)] b S hb (by kernel_rfl) rfl fun T hT=>Vs w0 c T (hT.box _ _ hc) hm
 have k6:=sG w0 195 [] b S hb (by kernel_rfl) rfl fun T _=>Vw w0 T hm
 refine ba [] mx Tryz.func189 rfl rfl (by kernel_rfl) ?_;(refine @ab _ ?_;refine ao @Tryz.ntmps189 ?_)
 refine aE [] 5 [0,1,7,8] (fun k=>[(8,dI k)]) (fun _=>S) (fun _=>True) mx (by kernel_rfl) ?_ ?_
 ·(refine @ab _ ?_;exact aQ)
 ·intro k hk _
  match k,hk with
  |0,_=>
   (refine @ab _ ?_;refine au ?_)
   refine aq k2 ?_
   (refine @ab _ ?_;refine au ?_)
   decide
  |1,_=>
   (refine @ab _ ?_;refine au ?_)
   refine aq k3 ?_
   (refine @ab _ ?_;refine au ?_)
   decide
  |2,_=>
   (refine @ab _ ?_;refine au ?_)
   refine aq k4 ?_
   (refine @ab _ ?_;refine au ?_)
   decide
  |3,_=>
   (refine @ab _ ?_;refine au ?_)
   refine aq k5 ?_
   (refine @ab _ ?_;refine au ?_)
   decide
  |4,_=>
   (refine @ab _ ?_;refine au ?_)
   refine aq k6 ?_
   (refine @ab _ ?_;refine au ?_)
   decide
  |5,_=>(refine @ab _ ?_;exact aQ)
theorem Mt(w0:W0)(b c:Nat)(S:St)(hb:lk S.box b=some (WA a t r l h))(hc:lk S.box c=some [.v (.func (.func 190) #[] #[])])(hm:uW a t r l h):
 aa Tryz.prog w0 136 [.sl 1 true [.agg [.v (.func (.func 191) #[] #[])],.agg [.v (.func (.func 192) #[] #[])],.agg [.v (.func (.func 193) #[] #[])],.agg [.v (.func (.func 194) #[] #[.pointer (some ⟨c,0,none⟩)])],.agg [.v (.func (.func 195) #[] #[])]],.v (.func (.func 138) #[] #[.pointer (some ⟨b,0,none⟩)])] S (fun d S'=>d=dB false∧S'=S):=by
 have h:=IK w0 b c S hb hc hm
 refine ba [] mx Tryz.func136 rfl rfl (by kernel_rfl) ?_;(refine @ab _ ?_;refine ao @Tryz.ntmps136 ?_)
 refine aq h ?_
 (refine @ab _ ?_;refine au ?_)
 decide
theorem Sz(w0:W0)(S:St)(hm:uW a t r l h):aa Tryz.prog w0 80 [PI a t r l h] S (fun d S'=>d=dB true∧S'=S):=by
 refine ba [] mx Tryz.func80 rfl rfl (by kernel_rfl) ?_;(refine @ab _ ?_;refine ao @Tryz.ntmps80 ?_)
 intro b
 refine bA (Sx w0 _) ?_
 rintro _ _ ⟨c,rfl,rfl⟩
 (refine @ab _ ?_;refine au ?_)
 refine aq (Mt w0 b.n c.n _ (by(refine @ab _ ?_;exact aQ)) (by(refine @ab _ ?_;exact aQ)) hm) ?_
 (refine @ab _ ?_;refine au ?_)
 trivial
end
end Go.Proofs.YtpjenciplibdnaaGreatDoor
namespace Aml
open Go Go.RowKit
variable {P:Program} {w0:W0}
theorem rh{ro:Option Nat}{o:Oper}(hnd:∀c,o.op≠ .defer c){a:Act}{w w':World}{u:Value}(hrun:(execOp a.eval o).run P w= .ok (.value u) w'){next:Act→World→Prop}{Q:Exit→Act→World→Prop}(hn:next (a.put o.dst u) w'):o.wpIn (fz ro) 0 P a w next Q:=by
 have hs:o.semAt (fz ro).round a.eval=execOp a.eval o:=Oper.semAt_eq _ _ _ fun c hc=>absurd hc (hnd c)
 refine⟨fun _ _=>trivial,?_⟩
 rw[hs,hrun]
 exact hn
def gr(ns:List Int):Array Value:=(ns.map fun n=>Value.int .u8 n).toArray
theorem XT{id:Nat}{o1 o2:Oper}{rest:List Oper}{fr:List DV}{S:St}{Q:Exit→List DV→St→Prop}{t e d1 n:Nat}{parts:Array (Nat×Operand)}{ns:List Int}
 (h1:o1.dst=some d1) (hg1:o1.guard=none) (hg2:o2.guard=none) (ho1:o1.op= .buildSlice t n parts) (ho2:o2.op= .convert t t (.tmp d1)) (ht:P.underlying t=some (.slice e)) (he:P.underlying e=some (.int .u8)) (hd:d1<fr.length) (hns:ns≠[]) (hml:ns.length≤maxLen)
 (hrun:∀(ρ:Operand→Value) (w:World),(∀u,ρ (.const u)=u)→(execOp ρ o1).run P w= .ok (.value (.slice (some ⟨w.heap.size,0,none⟩) ns.length ns.length)) (w.alloc (.cells (gr ns) e)))
 (h:zl P w0 (o1::o2::rest).toArray (fun fr S=>Q .normal fr S) rest (pt (pt fr (some d1) (.sl 1 true (ns.map fun n=> .v (.int .u8 n)))) o2.dst (.sl 1 true (ns.map fun n=> .v (.int .u8 n)))) S):
 gk P w0 (.region id (o1::o2::rest).toArray false) fr S Q:=by
 intro g a w k1 k2 k3
 refine jD fun ro=>?_
 have hsz:(gr ns).size=ns.length:=by simp[gr]
 unfold wpListIn
 rw[if_pos (by simp[Region.wanted,hg1])]
 refine rh (fun c hc=>by rw[ho1]at hc;cases hc) (hrun a.eval w fun u=>rfl) ?_
 unfold wpListIn
 rw[if_pos (by simp[Region.wanted,hg2])]
 have hlen:fr.length=a.tmps.size:=by simpa using k2.len
 have hev:(a.put o1.dst (.slice (some ⟨w.heap.size,0,none⟩) ns.length ns.length)).eval (.tmp d1)= .slice (some ⟨w.heap.size,0,none⟩) ns.length ns.length:=by
  rw[h1]
  have:d1<a.tmps.size:=by omega
  simp[Act.eval,Act.put,this]
 have hrun2:(execOp (a.put o1.dst (.slice (some ⟨w.heap.size,0,none⟩) ns.length ns.length)).eval o2).run P (w.alloc (.cells (gr ns) e))= .ok (.value (.slice (some ⟨w.heap.size,0,none⟩) ns.length ns.length)) (w.alloc (.cells (gr ns) e ((gr ns).size,(gr ns).size+1))):=by
  have:=Lib.run_convert_bytes_const (P:=P) w t e (gr ns) ns.length ns.length ht he
  simp only[execOp,ho2,Sem.run_bind]
  rw[hev,this]
  rfl
 refine rh (fun c hc=>by rw[ho2]at hc;cases hc) hrun2 ?_
 have hb:(w.alloc (.cells (gr ns) e ((gr ns).size,(gr ns).size+1))).heap[w.heap.size]? =some (.cells (gr ns) e ((gr ns).size,(gr ns).size+1)):=heap_alloc_new w _
 obtain⟨hle,hR⟩:=k1.Cx (du w (.cells (gr ns) e ((gr ns).size,(gr ns).size+1))) (Nat.le_refl _) hb
 have hrep:aK (g.bj w.heap.size fun i=>(gr ns)[i]?) (.sl 1 true (ns.map fun n=> .v (.int .u8 n))) (.slice (some ⟨w.heap.size,0,none⟩) ns.length ns.length):=by
  have:=aK.sl (g:=g.bj w.heap.size fun i=>(gr ns)[i]?) 1 true (ns.map fun n=>DV.v (.int .u8 n)) w.heap.size 0 ns.length (ns.map fun n=>Value.int .u8 n) (by simp) (fun _=>by simp) (by simp) hml
   (fun i d u x y=>by
    rw[List.getElem?_map,Option.map_eq_some_iff]at x y
    obtain⟨z,hz,rfl⟩:=x
    obtain⟨z',hz',rfl⟩:=y
    rw[hz]at hz';cases hz'
    exact .v _ rfl)
   (fun i u x=>by
    rw[List.getElem?_map,Option.map_eq_some_iff]at x
    obtain⟨z,hz,rfl⟩:=x
    rfl)
   (fun u hu x hx=>by
    obtain⟨z,hz,rfl⟩:=List.mem_map.1 hu
    simp[Value.cells]at hx
    subst hx;rfl)
   (fun i u j x hu hx=>by
    rw[List.getElem?_map,Option.map_eq_some_iff]at hu
    obtain⟨z,hz,rfl⟩:=hu
    have hj:j=0:=by
     have:=(Array.getElem?_eq_some_iff.1 hx).1
     simp[Value.cells]at this;omega
    subst hj
    simp[Value.cells]at hx
    subst hx
    simp only[Gh.bj,if_true,Nat.mul_one,Nat.zero_add,Nat.add_zero]
    unfold gr
    rw[List.getElem?_toArray,List.getElem?_map,hz];rfl)
  simpa using this
 have hkeep:∀(i:Nat) (ob:Obj),w.heap[i]? =some ob→nc ob=true→(w.alloc (.cells (gr ns) e ((gr ns).size,(gr ns).size+1))).heap[i]? =some ob:=fun i ob x _=>
  ((du w (.cells (gr ns) e ((gr ns).size,(gr ns).size+1))).block i (Array.getElem?_eq_some_iff.1 x).1).trans x
 have hr1:=dA (k2.mono hle) (some d1) hrep
 rw[←h1]at hr1
 have hr2:=dA hr1 o2.dst hrep
 rw[h1]at hr2
 rw[h1]
 refine kH rest _ _ _ _ _ hle hR hr2 ?_ h
 exact(k3.keep (by rw[put_defers,put_defers]) hkeep)
theorem YA{id:Nat}{o1 o2:Oper}{rest:List Oper}{fr:List DV}{S:St}{Q:Exit→List DV→St→Prop}{t e d1 n:Nat}{parts:Array (Nat×Operand)}(ns:List Int)
 (h1:o1.dst=some d1) (hg1:o1.guard=none) (hg2:o2.guard=none) (ho1:o1.op= .buildSlice t n parts) (ho2:o2.op= .convert t t (.tmp d1)) (ht:P.underlying t=some (.slice e)) (he:P.underlying e=some (.int .u8)) (hd:d1<fr.length) (hns:ns≠[]) (hml:ns.length≤maxLen)
 (hrun:∀(ρ:Operand→Value) (w:World),(∀u,ρ (.const u)=u)→(execOp ρ o1).run P w= .ok (.value (.slice (some ⟨w.heap.size,0,none⟩) ns.length ns.length)) (w.alloc (.cells (gr ns) e)))
 (hs:rest.all (fun o=>gU o.op)=true)
 (h:u4 P w0 (o1::o2::rest).toArray (fun fr S=>jt fr fun fr=>Q .normal fr S) rest (pt (pt fr (some d1) (.sl 1 true (ns.map fun n=> .v (.int .u8 n)))) o2.dst (.sl 1 true (ns.map fun n=> .v (.int .u8 n)))) S):
 gk P w0 (.region id (o1::o2::rest).toArray false) fr S Q:=
 XT h1 hg1 hg2 ho1 ho2 ht he hd hns hml hrun (lS rest hs h)
end Aml
namespace Go.Proofs.YtpjenciplibdnaaGreatDoor
open Aml Go
def Ty:ByteArray:=⟨#[109,101,116,97]⟩
def rn(a t r l h:Int):ByteArray:=Ty++bC 1 a++bC 8 t++bC 2 r++bC 2 l++bC 2 h
def sH(a t r l h:Int):ByteArray:=gq 5 [rn a t r l h]
def iw(a t r l h:Int):Nat→ByteArray
 |0=>Ty
 |1=>Ty++bC 1 a
 |2=>Ty++bC 1 a++bC 8 t
 |3=>Ty++bC 1 a++bC 8 t++bC 2 r
 |4=>Ty++bC 1 a++bC 8 t++bC 2 r++bC 2 l
 |_=>rn a t r l h
theorem jv(a t r l h:Int):∀k,(iw a t r l h k).size≤19
 |0=>by show Ty.size≤19;decide
 |1=>by simp only[iw,ByteArray.size_append,aA];decide
 |2=>by simp only[iw,ByteArray.size_append,aA];decide
 |3=>by simp only[iw,ByteArray.size_append,aA];decide
 |4=>by simp only[iw,ByteArray.size_append,aA];decide
 |_+5=>by
  show(rn a t r l h).size≤19
  unfold rn
  simp only[ByteArray.size_append,aA];decide
theorem sK(a t r l h:Int):(rn a t r l h).size=19:=by
 unfold rn
 simp only[ByteArray.size_append,aA]
 rfl
theorem PF{o:Oper}{ρ:Operand→Value}{w:World}(ho:o.op= .buildSlice 63 4 #[(0,.const (.int .u8 109)),(1,.const (.int .u8 101)),(2,.const (.int .u8 116)),(3,.const (.int .u8 97))])(hc:∀u,ρ (.const u)=u):
 (execOp ρ o).run Tryz.prog w= .ok (.value (.slice (some ⟨w.heap.size,0,none⟩) 4 4)) (w.alloc (.cells (gr [109,101,116,97]) 5)):=by
 have h1:(Tryz.prog.info? 5).map (fun i=>(i.size,i.zero))=some (1,some (.int .u8 0)):=by kernel_rfl
 obtain⟨i,hi,he⟩:=Option.map_eq_some_iff.1 h1
 simp only[Prod.mk.injEq]at he
 obtain⟨hs,hz⟩:=he
 have hf:Instr.fill (fun i=>some (i,1)) (Array.map (fun x=>(Value.int .u8 0).cells[x%(Value.int .u8 0).cells.size]!) (Array.range 4)) [(0,.int .u8 109),(1,.int .u8 101),(2,.int .u8 116),(3,.int .u8 97)]=some (gr [109,101,116,97]):=by kernel_rfl
 simp[execOp,ho,Instr.buildSlice,run_underlying Tryz.underlying63,Go.sizeOf,typeInfo,hi,hs,hz,zeroValue,newRow,hc]
 rw[hf]
 rfl
section
variable {a t r l h:Int}
theorem Qw(w0:W0)(hg:fE w0)(S:St)(hm:uW a t r l h):aa Tryz.prog w0 34 [PI a t r l h] S (fun d S'=>d= .bI [fv (sH a t r l h),dI 0]∧S'=S):=by
 have hck:=fun S=>Sz w0 S hm
 have hpk:=fun S=>Fh w0 hg 5 [rn a t r l h] S (by decide) (by decide) (by decide) (by simp only[de,List.map_cons,List.map_nil,List.sum_cons,List.sum_nil,sK];omega)
 obtain⟨q1,q2,q3,q4,q5,q6⟩:=hm
 have ea:IntKind.u64.wrap a=a:=kL (by omega) (by omega)
 have er:IntKind.u64.wrap r=r:=kL (by omega) (by omega)
 have el:IntKind.u64.wrap l=l:=kL (by omega) (by omega)
 have eh:IntKind.u64.wrap h=h:=kL (by omega) (by omega)
 unfold sH
 generalize gq 5 [rn a t r l h]=PK at*
 refine ba [3] mx Tryz.func34 rfl rfl (by kernel_rfl) ?_;(refine @ab _ ?_;refine ao @Tryz.ntmps34 ?_)
 intro b
 refine aq (hck _) ?_
 (refine @ab _ ?_;refine CV @ea @er @el @eh ?_)
 refine YA (t:=63) (e:=5) [109,101,116,97] rfl rfl rfl rfl rfl Tryz.underlying63 Tryz.underlying5 (Nat.le_of_ble_eq_true rfl) (by decide) (by decide) (fun ρ w hc=>PF rfl hc) (by kernel_rfl) ?_
 (refine @ab _ ?_;refine CV @ea @er @el @eh ?_)
 refine I9 4 rfl (by omega) fun lc=>?_
 refine jx [] [] mx (by kernel_rfl) ?_
 (refine @ab _ ?_;refine au ?_)
 refine aE [] 5 [4,31,32,33] (fun k=>[(4,.acc lc.n (iw a t r l h k).size),(33,dI k)]) (fun k=>⟨(b.n,WA a t r l h)::S.box,(lc.n,.tl 1 (bY (iw a t r l h k)))::S.acc⟩) (fun _=>True) mx (by kernel_rfl) ?_ ?_
 ·(refine @ab _ ?_;refine au ?_)
  exact⟨.refl _,.refl _⟩
 ·intro k hk _
  have hm8:maxLen=9223372036854775807:=rfl
  match k,hk with
  |0,_=>
   have hz:=jv a t r l h 0
   have e:iw a t r l h 1=iw a t r l h 0++bC 1 a:=rfl
   (refine @ab _ ?_;refine au ?_)
   intro b1
   refine aq (ub w0 a 1 _ (by decide) (by decide) (by omega) (by omega)) ?_
   (refine @ab _ ?_;refine aY @bd @aA ?_)
   rw[e,cQ,ByteArray.size_append,aA]
   exact⟨by omega,by omega,⟨.refl _,by decide⟩,.bz (.refl _)⟩
  |1,_=>
   have hz:=jv a t r l h 1
   have e:iw a t r l h 2=iw a t r l h 1++bC 8 t:=rfl
   (refine @ab _ ?_;refine au ?_)
   intro b1
   refine aq (ub w0 t 8 _ (by decide) (by decide) (by omega) (by omega)) ?_
   (refine @ab _ ?_;refine aY @bd @aA ?_)
   rw[e,cQ,ByteArray.size_append,aA]
   exact⟨by omega,by omega,⟨.refl _,by decide⟩,.bz (.refl _)⟩
  |2,_=>
   have hz:=jv a t r l h 2
   have e:iw a t r l h 3=iw a t r l h 2++bC 2 r:=rfl
   (refine @ab _ ?_;refine au ?_)
   intro b1
   refine aq (ub w0 r 2 _ (by decide) (by decide) (by omega) (by omega)) ?_
   (refine @ab _ ?_;refine aY @bd @aA ?_)
   rw[e,cQ,ByteArray.size_append,aA]
   exact⟨by omega,by omega,⟨.refl _,by decide⟩,.bz (.refl _)⟩
  |3,_=>
   have hz:=jv a t r l h 3
   have e:iw a t r l h 4=iw a t r l h 3++bC 2 l:=rfl
   (refine @ab _ ?_;refine au ?_)
   intro b1
   refine aq (ub w0 l 2 _ (by decide) (by decide) (by omega) (by omega)) ?_
   (refine @ab _ ?_;refine aY @bd @aA ?_)
   rw[e,cQ,ByteArray.size_append,aA]
   exact⟨by omega,by omega,⟨.refl _,by decide⟩,.bz (.refl _)⟩
  |4,_=>
   have hz:=jv a t r l h 4
   have e:iw a t r l h 5=iw a t r l h 4++bC 2 h:=rfl
   (refine @ab _ ?_;refine au ?_)
   intro b1
   refine aq (ub w0 h 2 _ (by decide) (by decide) (by omega) (by omega)) ?_
   (refine @ab _ ?_;refine aY @bd @aA ?_)
   rw[e,cQ,ByteArray.size_append,aA]
   exact⟨by omega,by omega,⟨.refl _,by decide⟩,.bz (.refl _)⟩
  |5,_=>
   (refine @ab _ ?_;refine au ?_)
   refine⟨bd _,aq (hpk _) ?_ (.cons (.refl _) (.cons (Wk.full _ _ _) .nil))⟩
   (refine @ab _ ?_;refine au ?_)
   trivial
end
end Go.Proofs.YtpjenciplibdnaaGreatDoor
namespace Go.Proofs.YtpjenciplibdnaaGreatDoor
open Aml Go
theorem QQ(w0:W0)(p:Pl)(q m:Int)(S:St)(hm:may p q m)(h0:p.free.length≤1048576)(h1: -1099511627776≤p.high)(h2:p.high≤1048576)(h3: -1099511627776≤q)(h4:q≤1048576):
 aa Tryz.prog w0 179 [dP p,dI q,dI m] S (fun d S'=>d= .bI [dP (take p m),dL (cV p m),dB true]∧S'=S):=(VE w0 p q m S h0 h1 h2 h3 h4).mono fun _ _ h=>h.1 hm
def p0:Pl:=⟨5,[3],[]⟩
def p1:Pl:=⟨6,[],[]⟩
def p2:Pl:=⟨6,[],[⟨7,[2,5]⟩]⟩
def p3:Pl:=⟨6,[2,5],[]⟩
theorem s52:cX [5,2]=[2,5]:=(n8 (a:=[2,5]) (by decide) (by decide)).symm
theorem s3:cX [3]=[3]:=(n8 (a:=[3]) (by decide) (by decide)).symm
theorem Zm:cX [2,5]=[2,5]:=(n8 (a:=[2,5]) (by decide) (by decide)).symm
theorem s0:cX []=[]:=(n8 (a:=[]) (by decide) (by decide)).symm
theorem x1:take p0 2=p1∧cV p0 2=[3,5]∧may p0 6 2∧dg p0 6=2:=by
 refine⟨?_,?_,?_,?_⟩
 ·unfold take aW p0 p1;simp only[s3];rfl
 ·unfold cV aW p0;simp only[s3];rfl
 ·unfold may dg p0;decide
 ·unfold dg p0;decide
theorem x2:mR p1 7 [5,2]=p2:=by
 rw[my (by decide) (fun w h=>by simp[p1]at h)]
 simp only[s52];rfl
theorem x3:release p2 6 true=p2:=by
 unfold release
 have e:iG 6 true p2.wait=[]:=by decide
 rw[e]
 have e2:cX (flat (p2.free::ny []))=[]:=s0
 rw[e2];rfl
theorem x4:release p2 7 true=p3:=by
 unfold release
 have e:iG 7 true p2.wait=p2.wait:=by decide
 rw[e]
 have e2:cX (flat (p2.free::ny p2.wait))=[2,5]:=Zm
 rw[e2];rfl
theorem y3:release ⟨6,[],[⟨7,[2,5]⟩]⟩ 6 true=⟨6,[],[⟨7,[2,5]⟩]⟩:=x3
theorem y4:release ⟨6,[],[⟨7,[2,5]⟩]⟩ 7 true=⟨6,[2,5],[]⟩:=x4
theorem x5:listed p2=[2,5]:=Zm
theorem x6:G4 p2 6∧¬G4 p2 5:=by
 refine⟨⟨fun i a c h0 ha hc=>?_,fun w hw=>?_,by decide,by decide,fun i a hi ha=>by simp[p2]at hi,?_⟩,fun h=>absurd h.2.2.2.1 (by decide)⟩
 ·have:i<1:=(List.getElem?_eq_some_iff.1 ha).1;omega
 ·simp[p2]at hw
  subst hw
  rintro(h|h)
  ·cases h
  ·refine h fun i a hi ha=>?_
   match i,hi with
   |0,_=>cases ha;exact⟨by decide,by decide,fun b h=>by omega⟩
   |1,_=>cases ha;exact⟨by decide,by decide,fun b _ hb=>by cases hb;decide⟩
 ·rw[x5]
  intro i a hi ha
  match i,hi with
  |0,_=>cases ha;exact⟨by decide,by decide,fun b h=>by omega⟩
  |1,_=>cases ha;exact⟨by decide,by decide,fun b _ hb=>by cases hb;decide⟩
end Go.Proofs.YtpjenciplibdnaaGreatDoor
namespace Go.Proofs.YtpjenciplibdnaaGreatDoor
open Aml Go
@[go_sem] def yo (l:List C):DV:= .sl 6 false (l.map jR)
def gj(z o:Zt)(L W:DV)(q:Int)(A:DV)(lw k:Nat):List DV:=
 dI z.label::dU z.bS::dI z.root::dI z.qe::dI z.high::dI z.n.an::dB z.n.leaf:: .sl 1 false (z.n.l.map fun c=>dS c.key):: .sl 2 false ((if z.n.leaf then z.n.l else []).map fk):: .sl 5 false ((aF z.n).map dT)::L::W::dI z.p.high:: .sl 1 false (z.p.free.map dI):: .sl 2 false (z.p.wait.map dW)::dI o.label::dU o.bS::dI o.root::dI o.qe::dI o.high::dI o.n.an::dB o.n.leaf:: .sl 1 false (o.n.l.map fun c=>dS c.key):: .sl 2 false ((if o.n.leaf then o.n.l else []).map fk):: .sl 5 false ((aF o.n).map dT)::yo o.l::dL o.own::dI o.p.high:: .sl 1 false (o.p.free.map dI):: .sl 2 false (o.p.wait.map dW)::dI q::A:: .acc lw k::[]
def dn(S:St)(b lw:Nat)(z o:Zt)(L W:DV)(q:Int)(A:DV)(ws:List (Int×ByteArray)):St:=⟨up S.box b (gj z o L W q A lw ws.length),up S.acc lw (.arr 2 (ws.map nH))⟩
structure Eg(S:St)(b lw:Nat)(z o:Zt)(L W:DV)(q:Int)(A:DV)(ws:List (Int×ByteArray)):Prop where
 box:lk S.box b=some (gj z o L W q A lw ws.length)
 acc:lk S.acc lw=some (.arr 2 (ws.map nH))
theorem I1(w0:W0)(A B:List Int)(S:St)(h:A.length+B.length≤1048576):aa Tryz.prog w0 48 [.sl 1 false [dL A,dL B]] S (fun d S'=>d=dL (A++B)∧S'=S):=by
 have e:flat [A,B]=A++B:=by simp[flat]
 have h1:=concat w0 [A,B] S (by simp) (by rw[e,List.length_append];omega)
 rw[e]at h1
 refine jw (aa.mono h1 ?_)
 rintro d S' ⟨b,rfl,rfl⟩
 (refine @ab _ ?_;exact aQ)
section
variable {S:St} {b lw:Nat} {z o:Zt} {L W A:DV} {q:Int} {ws:List (Int×ByteArray)}
theorem E0(h:Eg S b lw z o L W q A ws)(z':Zt)(L' W' A':DV)(ws':List (Int×ByteArray)):Eg (dn S b lw z' o L' W' q A' ws') b lw z' o L' W' q A' ws':=
 ⟨by show lk (up S.box b _) b=_;rw[aw,h.box];rfl,by show lk (up S.acc lw _) lw=_;rw[aw,h.acc];rfl⟩
theorem Dw{z' z'' o' o'':Zt}{L' L'' W' W'' A' A'':DV}{q' q'':Int}{w' w'':List (Int×ByteArray)}:dn (dn S b lw z' o' L' W' q' A' w') b lw z'' o'' L'' W'' q'' A'' w''=dn S b lw z'' o'' L'' W'' q'' A'' w'':=by
 unfold dn
 simp only[rf]
theorem MB(h:Eg S b lw z o L W q A ws):dn S b lw z o L W q A ws=S:=by
 unfold dn
 rw[dv h.box,dv h.acc]
theorem Rf(w0:W0)(h:Eg S b lw z o (yo z.l) W q A ws)(r:Bool)(hf:∀S,aa Tryz.prog w0 127 [eV o.n o.l,eV z.n z.l,dL o.own,dP z.p,dI q] S (fun d S'=>d=dB r∧S'=S)):
 aa Tryz.prog w0 74 [BE b] S (fun d S'=>d=dB r∧S'=S):=by
 have hb:=h.box
 unfold gj at hb
 refine ba [] mx Tryz.func74 rfl rfl (by kernel_rfl) ?_;(refine @ab _ ?_;refine aY @Tryz.ntmps74 @hb ?_)
 refine aS (hf _) ?_
 (refine @ab _ ?_;refine au ?_)
 trivial
theorem Rl(w0:W0)(m:Int)(h:Eg S b lw z o L W q A ws)(p:Pl)(at_:List Int)(r:Bool)(hf:∀S,aa Tryz.prog w0 179 [dP z.p,dI q,dI m] S (fun d S'=>d= .bI [dP p,dL at_,dB r]∧S'=S)):
 aa Tryz.prog w0 128 [BE b,dI m] S (fun d S'=>d= .bI [dL at_,dB r]∧S'=dn S b lw {z with p:=p} o L W q A ws):=by
 have hb:=h.box
 have ha:=h.acc
 unfold gj at hb
 refine wm [1] mx Tryz.func128 rfl rfl (by kernel_rfl) ?_;(refine @ab _ ?_;refine fc @Tryz.ntmps128 @hb @ha ?_)
 refine Nr mx (by kernel_rfl) ?_
 (refine @ab _ ?_;refine aY @hb @ha ?_)
 refine Qs (fun B _=>hf _) ?_
 (refine @ab _ ?_;refine aY @hb @ha ?_)
 intro b1
 refine⟨_,_,.refl _,?_,rfl,rfl⟩
 unfold dn
 rw[dv ha]
 exact .bz (.refl _)
theorem UN(w0:W0)(m:Int)(h:Eg S b lw z o (yo z.l) W q A ws)(p:Pl)(at_:List Int)(r:Bool)(hm:∀S,aa Tryz.prog w0 129 [eV z.n z.l] S (fun d S'=>d=dI m∧S'=S))(hf:∀S,aa Tryz.prog w0 179 [dP z.p,dI q,dI m] S (fun d S'=>d= .bI [dP p,dL at_,dB r]∧S'=S)):
 aa Tryz.prog w0 75 [BE b] S (fun d S'=>d=dB r∧S'=dn S b lw {z with p:=p} o (yo z.l) W q (dL at_) ws):=by
 have hb:=h.box
 have ha:=h.acc
 unfold gj at hb
 refine wm [] mx Tryz.func75 rfl rfl (by kernel_rfl) ?_;(refine @ab _ ?_;refine fc @Tryz.ntmps75 @hb @ha ?_)
 refine aq (hm _) ?_
 (refine @ab _ ?_;refine aY @hb @ha ?_)
 refine bA (Rl w0 m h p at_ r hf) ?_
 rintro e S' ⟨rfl,rfl⟩
 simp(maxDischargeDepth:=12) (maxSteps:=1000000) -implicitDefEqProofs only[go_sem,Nat.reduceAdd,Nat.reduceSub,Nat.reduceMul,Nat.reduceLeDiff,Nat.reduceEqDiff,Nat.reduceGT,Nat.reduceBEq,reduceCtorEq,↓reduceIte,Int.reduceToNat,Int.reduceLE,Int.reduceLT,Int.reduceNe,Int.reduceEq,dn,gj,hb,ha]
 exact⟨_,_,.refl _,.refl _,rfl,rfl⟩
theorem QD(w0:W0)(n:N)(at_ R:List Int)(M:N)(V:List (Int×ByteArray))(h:Eg S b lw z o L W q (dL at_) ws)(hlw:ws.length+V.length≤1048576)(hf:∀S,aa Tryz.prog w0 181 [eT n,dL at_] S (fun d S'=>d= .bI [eT M,.sl 2 false (V.map nH),dL R,dB true]∧S'=S)):
 aa Tryz.prog w0 130 [BE b,eT n] S (fun d S'=>d= .bI [eT M,dB true]∧S'=dn S b lw z o L W q (dL R) (ws++V)):=by
 have hb:=h.box
 have ha:=h.acc
 unfold gj at hb
 refine wm [1] mx Tryz.func130 rfl rfl (by kernel_rfl) ?_;(refine @ab _ ?_;refine fc @Tryz.ntmps130 @hb @ha ?_)
 intro b1 b2
 refine Nr mx (by kernel_rfl) ?_
 (refine @ab _ ?_;refine aY @hb @ha ?_)
 refine Qs (fun B _=>hf _) ?_
 (refine @ab _ ?_;refine aY @hb @ha ?_)
 intro b3
 have hm8:maxLen=9223372036854775807:=rfl
 refine⟨by omega,by omega,_,_,.refl _,?_,rfl,rfl⟩
 unfold dn
 rw[List.length_append]
 exact .bz (.bz (.bz (.refl _)))
theorem XZ(w0:W0)(at_ R:List Int)(M:N)(V:List (Int×ByteArray))(h:Eg S b lw z o L W q (dL at_) ws)(hlw:ws.length+V.length≤1048576)(hf:∀S,aa Tryz.prog w0 181 [eT z.n,dL at_] S (fun d S'=>d= .bI [eT M,.sl 2 false (V.map nH),dL R,dB true]∧S'=S)):
 aa Tryz.prog w0 77 [BE b] S (fun d S'=>d=dB true∧S'=dn S b lw {z with n:=M,root:=M.an} o L W q (dL R) (ws++V)):=by
 have hb:=h.box
 have ha:=h.acc
 unfold gj at hb
 refine wm [2] mx Tryz.func77 rfl rfl (by kernel_rfl) ?_;(refine @ab _ ?_;refine fc @Tryz.ntmps77 @hb @ha ?_)
 refine bA (QD w0 z.n at_ R M V h hlw hf) ?_
 rintro e S' ⟨rfl,rfl⟩
 simp(maxDischargeDepth:=12) (maxSteps:=1000000) -implicitDefEqProofs only[go_sem,Nat.reduceAdd,Nat.reduceSub,Nat.reduceMul,Nat.reduceLeDiff,Nat.reduceEqDiff,Nat.reduceGT,Nat.reduceBEq,reduceCtorEq,↓reduceIte,Int.reduceToNat,Int.reduceLE,Int.reduceLT,Int.reduceNe,Int.reduceEq,dn,gj,hb,ha]
 intro b1
 refine L2 ⟨[(b1.n,[dI M.an,dB M.leaf,.sl 1 false (M.l.map fun c=>dS c.key),.sl 2 false ((if M.leaf then M.l else []).map fk),.sl 5 false ((aF M).map dT)])],[]⟩ [9,14] [] [0,1,3,2,5,6,7,8,4,9,10,11,12,13,14] mx (by kernel_rfl) ?_
 simp(maxDischargeDepth:=12) (maxSteps:=1000000) -implicitDefEqProofs only[go_sem,Nat.reduceAdd,Nat.reduceSub,Nat.reduceMul,Nat.reduceLeDiff,Nat.reduceEqDiff,Nat.reduceGT,Nat.reduceBEq,reduceCtorEq,↓reduceIte,Int.reduceToNat,Int.reduceLE,Int.reduceLT,Int.reduceNe,Int.reduceEq,dn,gj,hb,ha]
 exact⟨l4 (by simp(maxDischargeDepth:=12) (maxSteps:=1000000) -implicitDefEqProofs only[go_sem,Nat.reduceAdd,Nat.reduceSub,Nat.reduceMul,Nat.reduceLeDiff,Nat.reduceEqDiff,Nat.reduceGT,Nat.reduceBEq,reduceCtorEq,↓reduceIte,Int.reduceToNat,Int.reduceLE,Int.reduceLT,Int.reduceNe,Int.reduceEq]),l4 (by simp(maxDischargeDepth:=12) (maxSteps:=1000000) -implicitDefEqProofs only[go_sem,Nat.reduceAdd,Nat.reduceSub,Nat.reduceMul,Nat.reduceLeDiff,Nat.reduceEqDiff,Nat.reduceGT,Nat.reduceBEq,reduceCtorEq,↓reduceIte,Int.reduceToNat,Int.reduceLE,Int.reduceLT,Int.reduceNe,Int.reduceEq]),l4 (by simp(maxDischargeDepth:=12) (maxSteps:=1000000) -implicitDefEqProofs only[go_sem,Nat.reduceAdd,Nat.reduceSub,Nat.reduceMul,Nat.reduceLeDiff,Nat.reduceEqDiff,Nat.reduceGT,Nat.reduceBEq,reduceCtorEq,↓reduceIte,Int.reduceToNat,Int.reduceLE,Int.reduceLT,Int.reduceNe,Int.reduceEq]),l4 (by simp(maxDischargeDepth:=12) (maxSteps:=1000000) -implicitDefEqProofs only[go_sem,Nat.reduceAdd,Nat.reduceSub,Nat.reduceMul,Nat.reduceLeDiff,Nat.reduceEqDiff,Nat.reduceGT,Nat.reduceBEq,reduceCtorEq,↓reduceIte,Int.reduceToNat,Int.reduceLE,Int.reduceLT,Int.reduceNe,Int.reduceEq]),_,_,.refl _,.bz (.refl _),rfl,rfl⟩
theorem U7(w0:W0)(B:List Int)(h:Eg S b lw z o (yo z.l) W q A ws)(hB:B.length+o.own.length≤1048576)(p:Pl)(hl:∀S,aa Tryz.prog w0 131 [eV o.n o.l,eV z.n z.l] S (fun d S'=>d=dL B∧S'=S))(hf:∀S,aa Tryz.prog w0 132 [dP z.p,dU z.bS,dL (B++o.own)] S (fun d S'=>d=dP p∧S'=S)):
 aa Tryz.prog w0 78 [BE b] S (fun d S'=>d=dB true∧S'=dn S b lw {z with p:=p} o (yo z.l) W q A ws):=by
 have hb:=h.box
 have ha:=h.acc
 unfold gj at hb
 refine wm [] mx Tryz.func78 rfl rfl (by kernel_rfl) ?_;(refine @ab _ ?_;refine fc @Tryz.ntmps78 @hb @ha ?_)
 have hcc:=I1 w0 B o.own S hB
 refine aS (hl _) ?_
 (refine @ab _ ?_;refine aY @hb @ha ?_)
 refine aS hcc ?_ (.cons (Wk.full _ _ _) .nil)
 (refine @ab _ ?_;refine aY @hb @ha ?_)
 refine aS (hf _) ?_
 (refine @ab _ ?_;refine aY @hb @ha ?_)
 refine⟨_,_,.refl _,?_,rfl,rfl⟩
 unfold dn
 rw[dv ha]
 exact .refl _
end
end Go.Proofs.YtpjenciplibdnaaGreatDoor
namespace Go.Proofs.YtpjenciplibdnaaGreatDoor
open Aml Go
theorem xe{P:Program}{w0:W0}{f:FuncId}{args args':List DV}{S T:St}{K:DV→St→Prop}{r:DV}(h:aa P w0 f args' S (fun d S'=>d=r∧S'=T))(hk:K r T)(ha:gv args args':=by exact gv.refl _):@AC P w0 f args S ⟨K⟩:=bA h (fun d S' e=>by rw[e.1,e.2];exact hk) ha
section
variable {S:St} {b lw:Nat} {z o:Zt} {L W A:DV} {q:Int} {ws:List (Int×ByteArray)}
theorem Wo(w0:W0)(h:Eg S b lw z o L W q A ws)(wn m:Int)(p:Pl)(at_ ls:List Int)(pg:List ByteArray)(hlw:ws.length+pg.length≤1048576)(hl:pg.length=at_.length)(hlf:z.p.free.length≤1048576)
 (h1:∀S,aa Tryz.prog w0 134 [dP z.p] S (fun d S'=>d=dI wn∧S'=S)) (h2:∀S,aa Tryz.prog w0 133 [dI z.p.free.length,dI wn] S (fun d S'=>d=dI m∧S'=S))
 (h3:∀S,aa Tryz.prog w0 179 [dP z.p,dI q,dI m] S (fun d S'=>d= .bI [dP p,dL at_,dB true]∧S'=S))
 (h4:∀S,aa Tryz.prog w0 50 [dP p] S (fun d S'=>d=dL ls∧S'=S)) (h5:∀S,aa Tryz.prog w0 135 [dL ls,dL at_] S (fun d S'=>d= .bI [.sl 1 false (pg.map fv),dI 0]∧S'=S)):
 aa Tryz.prog w0 79 [BE b] S (fun d S'=>d=dB true∧S'=dn S b lw {z with p:=p,qe:=at_.headD 0,high:=p.high} o L (dL at_) q A (ws++at_.zip pg)):=by
 have hb:=h.box
 have ha:=h.acc
 unfold gj at hb
 refine wm [1,6] mx Tryz.func79 rfl rfl (by kernel_rfl) ?_;(refine @ab _ ?_;refine fc @Tryz.ntmps79 @hb @ha ?_)
 refine Y.l9 [] [15] [0,1,2,3,4,5,8,9,10,11,6,7,12,13,14,15,16,17,18,19,20] mx (by kernel_rfl) ?_
 (refine @ab _ ?_;refine aY @hb @ha ?_)
 refine Y.tj (fun T _=>h1 T) ?_
 (refine @ab _ ?_;refine aY @hb @ha ?_)
 refine Y.tj (fun T _=>h2 T) ?_
 (refine @ab _ ?_;refine aY @hb @ha ?_)
 refine xe (Rl w0 m h p at_ true h3) ?_
 have hb2:=(E0 h {z with p:=p} L W A ws).box
 have ha2:=(E0 h {z with p:=p} L W A ws).acc
 have hpost:dn S b lw {z with p:=p,qe:=at_.headD 0,high:=p.high} o L (dL at_) q A (ws++at_.zip pg)=dn (dn S b lw {z with p:=p} o L W q A ws) b lw {z with p:=p,qe:=at_.headD 0,high:=p.high} o L (dL at_) q A (ws++at_.zip pg):=Dw.symm
 have hWT:=E0 h {z with p:=p} L W A ws
 rw[hpost]
 clear hpost
 generalize dn S b lw {z with p:=p} o L W q A ws=T at hb2 ha2 hWT ⊢
 dsimp only[gj]at hb2
 (refine @ab _ ?_;refine aY @hb2 @ha2 ?_)
 refine aq (h4 _) ?_
 (refine @ab _ ?_;refine aY @hb2 @ha2 ?_)
 refine aq (h5 _) ?_
 (refine @ab _ ?_;refine aY @hb2 @ha2 ?_)
 obtain⟨U,hU1,hU2,hU3,hU4⟩:∃U:Nat→St,(∀k,Eg (U k) b lw {z with p:=p} o L W q A (ws++(at_.zip pg).take k))∧U 0=T∧(∀k z' L' W' A' w',dn T b lw z' o L' W' q A' w'=dn (U k) b lw z' o L' W' q A' w')∧∀k,U (k+1)=dn (U k) b lw {z with p:=p} o L W q A (ws++(at_.zip pg).take (k+1)):=
  ⟨fun k=>dn T b lw {z with p:=p} o L W q A (ws++(at_.zip pg).take k),fun k=>E0 hWT _ _ _ _ _,by show dn T b lw _ o L W q A (ws++[])=T;rw[List.append_nil];exact MB hWT,fun k _ _ _ _ _=>Dw.symm,fun k=>Dw.symm⟩
 refine aE [6] pg.length [0,3,4,6,39,40,41] (fun k=>[(41,dI k)]) U (fun _=>True) mx (by kernel_rfl) ?_ ?_
 ·rw[hU2]
  (refine @ab _ ?_;exact aQ)
 ·intro k hk _
  have ek:IntKind.i64.wrap ((k:Int)+1)=((k+1:Nat):Int):=by rw[bw (by omega) (by omega)];omega
  have hb3:=(hU1 k).box
  have ha3:=(hU1 k).acc
  have hzl:((at_.zip pg).take k).length=k:=by rw[List.length_take,List.length_zip];omega
  have hwl:(ws++(at_.zip pg).take k).length=ws.length+k:=by rw[List.length_append,hzl]
  rw[hwl]at hb3
  dsimp only[gj]at hb3
  (refine @ab _ ?_;refine fc @hb3 @ha3 @ek ?_)
  refine⟨fun hlt=>?_,fun hge=>?_⟩
  ·refine⟨hlt,fun c hc=>?_⟩
   refine Y.l9 [] [12,15] [0,1,2,3,5,6,7,9,4,8,10,11,12,13,14,15] mx (by kernel_rfl) ?_
   have hm8:maxLen=9223372036854775807:=rfl
   (refine @ab _ ?_;refine fc @hb3 @ha3 @ek ?_)
   refine⟨by omega,fun a ha1=>?_⟩
   have hlz:min k (at_.zip pg).length=k:=by rw[List.length_zip];omega
   have hs:(at_.zip pg).take (k+1)=(at_.zip pg).take k++[(a,c)]:=by
    rw[List.take_add_one]
    congr 1
    rw[List.getElem?_zip_eq_some (z:=(a,c)).2 ⟨ha1,hc⟩];rfl
   refine⟨by omega,by omega,by omega,hlt,?_⟩
   rw[hU4 k,hs,hlz]
   unfold dn
   rw[←List.append_assoc,List.length_append,hwl,List.map_append]
   exact .refl _
  ·have htk:ws++(at_.zip pg).take k=ws++at_.zip pg:=by rw[List.take_of_length_le (by rw[List.length_zip];omega)]
   rw[hU3 k]
   have hfin:∀a,a=at_.headD 0→dn (U k) b lw {z with p:=p,qe:=at_.headD 0,high:=p.high} o L (dL at_) q A (ws++at_.zip pg)=dn (U k) b lw {z with p:=p,qe:=a,high:=p.high} o L (dL at_) q A (ws++at_.zip pg):=by rintro a rfl;rfl
   have hgo:∀a,a=at_.headD 0→∃d' S'',Wk (dB true) d'∧Aml.Sub S'' (⟨up (U k).box b (gj {z with p:=p,qe:=a,high:=p.high} o L (dL at_) q A lw (ws.length+k)),(U k).acc⟩:St)∧d'=dB true∧S''=dn (U k) b lw {z with p:=p,qe:=at_.headD 0,high:=p.high} o L (dL at_) q A (ws++at_.zip pg):=fun a e=>by
    refine⟨_,_,.refl _,?_,rfl,rfl⟩
    rw[hfin a e]
    unfold dn
    rw[←htk,hwl,dv ha3]
    exact .refl _
   refine⟨fun hp=>⟨hp,fun a ha1=>?_⟩,fun hp=>?_⟩
   ·refine hgo a ?_
    cases at_ with
    |nil=>cases ha1
    |cons x l=>cases ha1;rfl
   ·refine hgo 0 ?_
    cases at_ with
    |nil=>rfl
    |cons x l=>exact absurd (by simp) hp
end
end Go.Proofs.YtpjenciplibdnaaGreatDoor
namespace Go.Proofs.YtpjenciplibdnaaGreatDoor
open Aml Go
theorem V4{P:Program}{w0:W0}{f:FuncId}{args args':List DV}{S:St}{K:DV→St→Prop}{α:Type}{F:α→DV}{T:α→St}(h:aa P w0 f args' S (fun d S'=>∃b:α,d=F b∧S'=T b))(hk:∀b,K (F b) (T b))(ha:gv args args':=by exact gv.refl _):@AC P w0 f args S ⟨K⟩:=bA h (fun d S' ⟨b,e⟩=>by rw[e.1,e.2];exact hk b) ha
theorem UX{k:Nat}{n:N}{l:List C}{q:List Int}{c:C}(h:PV k n l q)(hcm:c∈l):BT k (ay c):=by
 obtain⟨hce,htb,hok⟩:=h.vi.cell c hcm
 have hsub:(cf (ay c)).Sublist (gM (n,l)):=(EX hcm).trans (List.sublist_append_right _ _)
 exact⟨htb,h.tv.cell c hcm,(List.nodup_append.1 h.nd).1.sublist hsub,fun p hp=>h.qW p (List.mem_append_left _ (hsub.subset hp))⟩
theorem Yi(s:ByteArray):pK (bY s)=true∧strOfNums (yI (bY s))=s:=by
 have e:bY s=(s.data.toList.map fun c=>(c.toNat:Int)).map fun n=>DV.v (.int .u8 n):=by unfold bY;rw[List.map_map];rfl
 rw[e,(CC _).1]
 refine⟨(CC _).2,?_⟩
 unfold strOfNums
 rw[List.map_map]
 have:s.data.toList.map ((fun n:Int=>UInt8.ofNat n.toNat)∘fun c=>(c.toNat:Int))=s.data.toList:=by
  refine(List.map_congr_left fun c _=>?_).trans (List.map_id _)
  simp
 rw[this]
section
variable {S:St} {b lw:Nat} {z o:Zt} {L W A:DV} {q:Int} {ws:List (Int×ByteArray)}
theorem Jt(w0:W0)(hg:fE w0)(k:Nat)(hk:k≤116)(q0:List Int)(hq0:q0.length≤1000)(hpv:PV k z.n z.l q0)(h:Eg S b lw z o (yo z.l) W q (dL q0) []):
 aa Tryz.prog w0 76 [BE b] S (fun d S'=>d=dB true∧S'=dn S b lw {z with n:=(eD z.l z.n q0).n} o (yo (eD z.l z.n q0).l) W q (dL (eD z.l z.n q0).q) (eD z.l z.n q0).w):=by
 have hb:=h.box
 have ha:=h.acc
 have hll:z.l.length≤131072:=by have:=hpv.vi.len;omega
 unfold gj at hb
 refine wm [15] mx Tryz.func76 rfl rfl (by kernel_rfl) ?_;(refine @ab _ ?_;refine fc @Tryz.ntmps76 @hb @ha ?_)
 refine V4 (xp w0 (z.l.map jR) _ (by rw[List.length_map];omega)) ?_
 intro lv
 (refine @ab _ ?_;refine aY @hb @ha ?_)
 have hne:¬lv.n=lw:=fm lv ha
 obtain⟨U,hUd⟩:∃U:Nat→St,∀j,U j=⟨up S.box b (gj {z with n:=(eD (z.l.take j) z.n q0).n} o (.acc lv.n z.l.length) W q (dL (eD (z.l.take j) z.n q0).q) lw (eD (z.l.take j) z.n q0).w.length),(lv.n,.arr 6 (((eD (z.l.take j) z.n q0).l++z.l.drop j).map jR))::up S.acc lw (.arr 2 ((eD (z.l.take j) z.n q0).w.map nH))⟩:=⟨_,fun _=>rfl⟩
 refine aE [15] z.l.length [0,3,26,27,28] (fun k=>[(28,dI k)]) U (fun _=>True) mx (by kernel_rfl) ?_ ?_
 ·have e0:up S.acc lw (.arr 2 ([].map nH))=S.acc:=dv ha
  rw[hUd 0,show eD (z.l.take 0) z.n q0=⟨[],z.n,q0,[]⟩from rfl]
  dsimp only[gj,List.drop_zero,List.nil_append,List.length_nil]
  rw[e0]
  (refine @ab _ ?_;exact aQ)
 ·intro j hj _
  have ej:IntKind.i64.wrap ((j:Int)+1)=((j+1:Nat):Int):=by rw[bw (by omega) (by omega)];omega
  have hs:=yc hpv j hj
  have hUj:=hUd j
  have hUs:=hUd (j+1)
  rcases Nat.lt_or_ge j z.l.length with hlt|hge
  ·obtain⟨c,hc⟩:∃c,z.l[j]? =some c:=⟨_,List.getElem?_eq_getElem hlt⟩
   have hcm:=List.mem_of_getElem? hc
   obtain⟨hm,⟨M,R,V,hd⟩,hs1⟩:=E7 hpv hc hs
   have hbt:=UX hpv hcm
   obtain⟨_,hksz⟩:=dw (hpv.vi.cell c hcm).2.2
   have hsu:eD (z.l.take (j+1)) z.n q0=⟨(eD (z.l.take j) z.n q0).l++[af c.key M],nZ (eD (z.l.take j) z.n q0).n c.key M.an,R,(eD (z.l.take j) z.n q0).w++V⟩:=by
    rw[pZ hc];unfold Cc;rw[hd.eq]
   rw[hsu]at hUs
   generalize eD (z.l.take j) z.n q0=s at*
   have hql:s.q.length≤1000:=by rw[hs.left,List.length_drop];omega
   have hwl:s.w.length≤1000:=by have:=congrArg List.length hs.wr;rw[List.length_map,List.length_take]at this;omega
   have hvl:V.length≤1000:=by have:=congrArg List.length hd.pg;rw[List.length_map,List.length_take]at this;omega
   have hlay:∀S,aa Tryz.prog w0 181 [eT (ay c),dL s.q] S (fun d S'=>d= .bI [eT M,.sl 2 false (V.map nH),dL R,dB true]∧S'=S):=fun S=>by
    have:=UY w0 hg (ay c) s.q S (Av hbt hk) (by omega)
    rw[IG hm hd]at this;exact this
   have hMp:0≤M.an∧M.an≤999:=by
    by_cases e:M.an=0
    ·omega
    ·have:=hd.bt.qW _ (xI e);omega
   have hfind:=fun S=>TR w0 (key:=c.key) hs.tb hk S
   have hput:=fun S=>Ft w0 (key:=c.key) (val:=bC 2 M.an) hs.tb hk hksz (by rw[aA];omega) S
   have hWU:Eg (U j) b lw {z with n:=s.n} o (.acc lv.n z.l.length) W q (dL s.q) s.w:=by
    rw[hUj]
    exact⟨by show lk (up S.box b _) b=_;rw[aw,hb];rfl,by show lk ((lv.n,_)::up S.acc lw _) lw=_;rw[oc hne,aw,ha];rfl⟩
   have hv3:lk (U j).acc lv.n=some (.arr 6 ((s.l++z.l.drop j).map jR)):=by rw[hUj];simp only[lk,if_true]
   have hb3:=hWU.box
   have ha3:=hWU.acc
   dsimp only[gj]at hb3
   have hXl:(s.l++z.l.drop j).length=z.l.length:=by rw[List.length_append,hs.len,List.length_drop];omega
   have hXj:(s.l++z.l.drop j)[j]? =some c:=by rw[List.getElem?_append_right (by rw[hs.len];omega),hs.len,Nat.sub_self,List.getElem?_drop];exact hc
   (refine @ab _ ?_;refine Bx @hb3 @ha3 @hv3 @ej @hlt ?_)
   have hsl:=hs.len
   refine⟨by omega,by omega,fun a ha5 b5=>?_⟩
   obtain rfl:a=c:=cM ha5 hXj
   have hWU5:∀x,Eg ⟨(b5.n,x)::(U j).box,(U j).acc⟩ b lw {z with n:=s.n} o (.acc lv.n z.l.length) W q (dL s.q) s.w:=fun x=>⟨by show lk ((b5.n,_)::_) b=_;rw[oc (fm b5 hb3)];exact hWU.box,hWU.acc⟩
   refine xe (QD w0 (ay a) s.q R M V (hWU5 _) (by omega) hlay) ?_
   have hv4:lk (up (U j).acc lw (.arr 2 ((s.w++V).map nH))) lv.n=some (.arr 6 ((s.l++z.l.drop j).map jR)):=by rw[aI (fun e=>hne e.symm)];exact hv3
   simp(maxDischargeDepth:=12) (maxSteps:=1000000) -implicitDefEqProofs only[go_sem,Nat.reduceAdd,Nat.reduceSub,Nat.reduceMul,Nat.reduceLeDiff,Nat.reduceEqDiff,Nat.reduceGT,Nat.reduceBEq,reduceCtorEq,↓reduceIte,Int.reduceToNat,Int.reduceLE,Int.reduceLT,Int.reduceNe,Int.reduceEq,dn,gj,hb3,ha3,hv3,hv4]
   intro b6
   refine⟨hlt,by omega,by omega,fun a1 ha6=>?_⟩
   obtain rfl:a1=a:=cM ha6 hXj
   rw[kL (by omega) (by omega)]
   refine aq (ub w0 M.an 2 _ (by decide) (by decide) (by omega) (by omega)) ?_
   (refine @ab _ ?_;refine Bx @hb3 @ha3 @hv3 @hv4 @ej ?_)
   obtain⟨y1,y2⟩:=Yi (bC 2 M.an)
   refine⟨y1,aS (hfind _) ?_⟩
   have dD:((s.l++z.l.drop j).map jR).set j (jR (af a1.key M))=((s.l++[af a1.key M])++z.l.drop (j+1)).map jR:=by
    rw[←List.map_set,List.set_append,if_neg (by omega),hs.len,Nat.sub_self,List.drop_eq_getElem_cons hlt,List.set_cons_zero,List.append_assoc];rfl
   have hfin:∀N',N'=nZ s.n a1.key M.an→∀x5 x6:Nat×List DV,Aml.Sub (U (j+1)) ⟨x6::x5::up (U j).box b (gj {z with n:=N'} o (.acc lv.n z.l.length) W q (dL R) lw (s.w.length+V.length)),up (up (U j).acc lw (.arr 2 ((s.w++V).map nH))) lv.n (.arr 6 (((s.l++z.l.drop j).map jR).set j (jR (af a1.key M))))⟩:=by
    rintro N' rfl x5 x6
    rw[hUs,hUj,dD,List.length_append]
    simp only[up,if_neg hne,if_true,rf]
    exact .bz (.bz (.refl _))
   (refine @ab _ ?_;refine Bx @hb3 @ha3 @hv3 @hv4 @ej ?_)
   rw[y2]
   refine⟨fun he=>⟨hlt,hfin s.n ?_ _ _⟩,fun he=>aS (hput _) ?_⟩
   ·unfold nZ;rw[if_pos (cP.1 he)]
   ·have hput2:=hfin (kN a1.key (bC 2 M.an) s.n) (by unfold nZ;rw[if_neg (db.1 he)])
    (refine @ab _ ?_;refine Bx @hb3 @ha3 @hv3 @hv4 @ej ?_)
    exact⟨hlt,hput2 _ _⟩
  ·obtain rfl:j=z.l.length:=by omega
   rw[List.take_length]at hs hUj
   rw[List.drop_length,List.append_nil]at hUj
   generalize eD z.l z.n q0=s at*
   have hge2:¬z.l.length<z.l.length:=by omega
   have hb3:lk (U z.l.length).box b=some (gj {z with n:=s.n} o (.acc lv.n z.l.length) W q (dL s.q) lw s.w.length):=by
    rw[hUj];show lk (up S.box b _) b=_;rw[aw,hb];rfl
   have hv3:lk (U z.l.length).acc lv.n=some (.arr 6 (s.l.map jR)):=by rw[hUj];simp only[lk,if_true]
   (refine @ab _ ?_;refine aY @ej @hge2 ?_)
   refine MA b 10 (l:=lv.n) (s:=6) (xs:=s.l.map jR) hb3 (by rw[List.length_map,hs.len];rfl) hv3 ?_
   (refine @ab _ ?_;refine au ?_)
   refine jx [] [] mx (by kernel_rfl) ?_
   (refine @ab _ ?_;refine au ?_)
   refine⟨_,_,.refl _,?_,rfl,rfl⟩
   show Aml.Sub (dn S b lw {z with n:=s.n} o (yo s.l) W q (dL s.q) s.w) ⟨up (U z.l.length).box b (gj {z with n:=s.n} o (yo s.l) W q (dL s.q) lw s.w.length),up (U z.l.length).acc lv.n (Ob.tl 6 (s.l.map jR))⟩
   rw[hUj]
   unfold dn
   simp only[up,if_true,rf]
   exact .pM (.refl _)
end
end Go.Proofs.YtpjenciplibdnaaGreatDoor
namespace Go.Proofs.YtpjenciplibdnaaGreatDoor
open Aml Go
@[go_sem] def eZ (z:Zt):DV:= .agg (dI z.label::dU z.bS::dI z.root::dI z.qe::dI z.high::dI z.n.an::dB z.n.leaf:: .sl 1 false (z.n.l.map fun c=>dS c.key):: .sl 2 false ((if z.n.leaf then z.n.l else []).map fk):: .sl 5 false ((aF z.n).map dT):: .sl 6 false (z.l.map jR):: .sl 1 false (z.own.map dI)::dI z.p.high:: .sl 1 false (z.p.free.map dI):: .sl 2 false (z.p.wait.map dW)::[])
@[go_sem] def SU:DV:= .sl 1 false [.agg [.v (.func (.func 74) #[] #[])],.agg [.v (.func (.func 75) #[] #[])],.agg [.v (.func (.func 76) #[] #[])],.agg [.v (.func (.func 77) #[] #[])],.agg [.v (.func (.func 78) #[] #[])],.agg [.v (.func (.func 79) #[] #[])]]
theorem Iz(w0:W0)(S:St):aa Tryz.prog w0 33 [] S (fun d S'=>d=SU∧S'=S):=by
 refine ba [] mx Tryz.func33 rfl rfl (by kernel_rfl) ?_;(refine @ab _ ?_;refine ao @Tryz.ntmps33 ?_)
 trivial
structure Sg where
 z:Zt
 W:DV
 A:DV
 ws:List (Int×ByteArray)
def pY(w0:W0)(f:FuncId)(o:Zt)(q:Int)(x y:Sg):Prop:=∀S b lw,Eg S b lw x.z o (yo x.z.l) x.W q x.A x.ws→aa Tryz.prog w0 f [BE b] S (fun d S'=>d=dB true∧S'=dn S b lw y.z o (yo y.z.l) y.W q y.A y.ws)
section
theorem WV(w0:W0)(hg:fE w0)(o:Zt)(n:N)(l:List C)(q t:Int)(hd:Bool)(S:St)(p:Pl)(X:Nat→Sg)(htx:0≤o.bS∧o.bS≤1000000)(hrel:∀S,aa Tryz.prog w0 32 [dP o.p,dU t,dB hd] S (fun d S'=>d=dP p∧S'=S))
 (h0:X 0=⟨{o with bS:=o.bS+1,n:=n,l:=l,own:=[],p:=p},.sl 0 true [],.sl 0 true [],[]⟩) (h6:(X 6).W=dL (X 6).z.own) (hmt:uW (X 6).z.label (X 6).z.bS (X 6).z.root (X 6).z.qe (X 6).z.high)
 (s0:pY w0 74 o q (X 0) (X 1)) (s1:pY w0 75 o q (X 1) (X 2)) (s2:pY w0 76 o q (X 2) (X 3)) (s3:pY w0 77 o q (X 3) (X 4)) (s4:pY w0 78 o q (X 4) (X 5)) (s5:pY w0 79 o q (X 5) (X 6)):
 aa Tryz.prog w0 13 [eZ o,eV n l,dI q,dU t,dB hd] S (fun d S'=>d= .bI [eZ (X 6).z,.sl 2 false ((X 6).ws.map nH),fv (sH (X 6).z.label (X 6).z.bS (X 6).z.root (X 6).z.qe (X 6).z.high),dB true]∧S'=S):=by
 have etx:IntKind.u64.wrap (o.bS+1)=o.bS+1:=kL (by omega) (by omega)
 refine ba [3,10] mx Tryz.func13 rfl rfl (by kernel_rfl) ?_;(refine @ab _ ?_;refine ao @Tryz.ntmps13 ?_)
 intro b5 b6 b10
 refine aS (hrel _) ?_
 (refine @ab _ ?_;refine ao @etx ?_)
 intro b
 refine eJ b.n 32 2 (by omega) (fg _ _ _) rfl fun lw=>?_
 refine jx [10] [] mx (by kernel_rfl) ?_
 (refine @ab _ ?_;refine ao @etx ?_)
 refine aq (Iz w0 _) ?_
 (refine @ab _ ?_;refine au ?_)
 refine aE [10] 6 [5,10,14,43,44,45] (fun k=>[(45,dI k)]) (fun k=>⟨(b.n,gj (X k).z o (yo (X k).z.l) (X k).W q (X k).A lw.n (X k).ws.length)::(b10.n,[dI 0,dU 0,dI 0,dI 0,dI 0,dI 0,dB false,.sl 0 true [],.sl 0 true [],.sl 0 true [],.sl 0 true [],.sl 0 true [],dI 0,.sl 0 true [],.sl 0 true []])::(b6.n,[dI n.an,dB n.leaf,.sl 1 false (n.l.map fun c=>dS c.key),.sl 2 false ((if n.leaf then n.l else []).map fk),.sl 5 false ((aF n).map dT),.sl 6 false (l.map jR)])::(b5.n,dI o.label::dU o.bS::dI o.root::dI o.qe::dI o.high::dI o.n.an::dB o.n.leaf:: .sl 1 false (o.n.l.map fun c=>dS c.key):: .sl 2 false ((if o.n.leaf then o.n.l else []).map fk):: .sl 5 false ((aF o.n).map dT)::yo o.l::dL o.own::dI o.p.high:: .sl 1 false (o.p.free.map dI):: .sl 2 false (o.p.wait.map dW)::[])::S.box,(lw.n,.arr 2 ((X k).ws.map nH))::S.acc⟩) (fun _=>True) mx (by kernel_rfl) ?_ ?_
 ·rw[h0]
  simp(maxDischargeDepth:=12) (maxSteps:=1000000) -implicitDefEqProofs only[go_sem,Nat.reduceAdd,Nat.reduceSub,Nat.reduceMul,Nat.reduceLeDiff,Nat.reduceEqDiff,Nat.reduceGT,Nat.reduceBEq,reduceCtorEq,↓reduceIte,Int.reduceToNat,Int.reduceLE,Int.reduceLT,Int.reduceNe,Int.reduceEq,gj]
 ·intro k hk _
  match k,hk with
  |0,_=>
   (refine @ab _ ?_;refine au ?_)
   intro b16
   refine xe (s0 _ b.n lw.n ⟨by(refine @ab _ ?_;exact aQ),by(refine @ab _ ?_;exact aQ)⟩) ?_
   simp(maxDischargeDepth:=12) (maxSteps:=1000000) -implicitDefEqProofs only[go_sem,Nat.reduceAdd,Nat.reduceSub,Nat.reduceMul,Nat.reduceLeDiff,Nat.reduceEqDiff,Nat.reduceGT,Nat.reduceBEq,reduceCtorEq,↓reduceIte,Int.reduceToNat,Int.reduceLE,Int.reduceLT,Int.reduceNe,Int.reduceEq,dn]
   rfl
  |1,_=>
   (refine @ab _ ?_;refine au ?_)
   intro b16
   refine xe (s1 _ b.n lw.n ⟨by(refine @ab _ ?_;exact aQ),by(refine @ab _ ?_;exact aQ)⟩) ?_
   simp(maxDischargeDepth:=12) (maxSteps:=1000000) -implicitDefEqProofs only[go_sem,Nat.reduceAdd,Nat.reduceSub,Nat.reduceMul,Nat.reduceLeDiff,Nat.reduceEqDiff,Nat.reduceGT,Nat.reduceBEq,reduceCtorEq,↓reduceIte,Int.reduceToNat,Int.reduceLE,Int.reduceLT,Int.reduceNe,Int.reduceEq,dn]
   rfl
  |2,_=>
   (refine @ab _ ?_;refine au ?_)
   intro b16
   refine xe (s2 _ b.n lw.n ⟨by(refine @ab _ ?_;exact aQ),by(refine @ab _ ?_;exact aQ)⟩) ?_
   simp(maxDischargeDepth:=12) (maxSteps:=1000000) -implicitDefEqProofs only[go_sem,Nat.reduceAdd,Nat.reduceSub,Nat.reduceMul,Nat.reduceLeDiff,Nat.reduceEqDiff,Nat.reduceGT,Nat.reduceBEq,reduceCtorEq,↓reduceIte,Int.reduceToNat,Int.reduceLE,Int.reduceLT,Int.reduceNe,Int.reduceEq,dn]
   rfl
  |3,_=>
   (refine @ab _ ?_;refine au ?_)
   intro b16
   refine xe (s3 _ b.n lw.n ⟨by(refine @ab _ ?_;exact aQ),by(refine @ab _ ?_;exact aQ)⟩) ?_
   simp(maxDischargeDepth:=12) (maxSteps:=1000000) -implicitDefEqProofs only[go_sem,Nat.reduceAdd,Nat.reduceSub,Nat.reduceMul,Nat.reduceLeDiff,Nat.reduceEqDiff,Nat.reduceGT,Nat.reduceBEq,reduceCtorEq,↓reduceIte,Int.reduceToNat,Int.reduceLE,Int.reduceLT,Int.reduceNe,Int.reduceEq,dn]
   rfl
  |4,_=>
   (refine @ab _ ?_;refine au ?_)
   intro b16
   refine xe (s4 _ b.n lw.n ⟨by(refine @ab _ ?_;exact aQ),by(refine @ab _ ?_;exact aQ)⟩) ?_
   simp(maxDischargeDepth:=12) (maxSteps:=1000000) -implicitDefEqProofs only[go_sem,Nat.reduceAdd,Nat.reduceSub,Nat.reduceMul,Nat.reduceLeDiff,Nat.reduceEqDiff,Nat.reduceGT,Nat.reduceBEq,reduceCtorEq,↓reduceIte,Int.reduceToNat,Int.reduceLE,Int.reduceLT,Int.reduceNe,Int.reduceEq,dn]
   rfl
  |5,_=>
   (refine @ab _ ?_;refine au ?_)
   intro b16
   refine xe (s5 _ b.n lw.n ⟨by(refine @ab _ ?_;exact aQ),by(refine @ab _ ?_;exact aQ)⟩) ?_
   simp(maxDischargeDepth:=12) (maxSteps:=1000000) -implicitDefEqProofs only[go_sem,Nat.reduceAdd,Nat.reduceSub,Nat.reduceMul,Nat.reduceLeDiff,Nat.reduceEqDiff,Nat.reduceGT,Nat.reduceBEq,reduceCtorEq,↓reduceIte,Int.reduceToNat,Int.reduceLE,Int.reduceLT,Int.reduceNe,Int.reduceEq,dn]
   rfl
  |6,_=>
   simp(maxDischargeDepth:=12) (maxSteps:=1000000) -implicitDefEqProofs only[go_sem,Nat.reduceAdd,Nat.reduceSub,Nat.reduceMul,Nat.reduceLeDiff,Nat.reduceEqDiff,Nat.reduceGT,Nat.reduceBEq,reduceCtorEq,↓reduceIte,Int.reduceToNat,Int.reduceLE,Int.reduceLT,Int.reduceNe,Int.reduceEq,gj,h6]
   refine aq (Qw w0 hg _ hmt) ?_
   simp(maxDischargeDepth:=12) (maxSteps:=1000000) -implicitDefEqProofs only[go_sem,Nat.reduceAdd,Nat.reduceSub,Nat.reduceMul,Nat.reduceLeDiff,Nat.reduceEqDiff,Nat.reduceGT,Nat.reduceBEq,reduceCtorEq,↓reduceIte,Int.reduceToNat,Int.reduceLE,Int.reduceLT,Int.reduceNe,Int.reduceEq,gj,h6]
   refine L2 ⟨[(b.n,dI (X 6).z.label::dU (X 6).z.bS::dI (X 6).z.root::dI (X 6).z.qe::dI (X 6).z.high::dI (X 6).z.n.an::dB (X 6).z.n.leaf:: .sl 1 false ((X 6).z.n.l.map fun c=>dS c.key):: .sl 2 false ((if(X 6).z.n.leaf then(X 6).z.n.l else []).map fk):: .sl 5 false ((aF (X 6).z.n).map dT)::yo (X 6).z.l::dL (X 6).z.own::dI (X 6).z.p.high:: .sl 1 false ((X 6).z.p.free.map dI):: .sl 2 false ((X 6).z.p.wait.map dW)::dI o.label::dU o.bS::dI o.root::dI o.qe::dI o.high::dI o.n.an::dB o.n.leaf:: .sl 1 false (o.n.l.map fun c=>dS c.key):: .sl 2 false ((if o.n.leaf then o.n.l else []).map fk):: .sl 5 false ((aF o.n).map dT)::yo o.l::dL o.own::dI o.p.high:: .sl 1 false (o.p.free.map dI):: .sl 2 false (o.p.wait.map dW)::dI q::(X 6).A:: .acc lw.n (X 6).ws.length::[])],[]⟩ [11] [] [0,1,2,4,5,6,8,9,10,3,7,11,12,13,14] mx (by kernel_rfl) ?_
   simp(maxDischargeDepth:=12) (maxSteps:=1000000) -implicitDefEqProofs only[go_sem,Nat.reduceAdd,Nat.reduceSub,Nat.reduceMul,Nat.reduceLeDiff,Nat.reduceEqDiff,Nat.reduceGT,Nat.reduceBEq,reduceCtorEq,↓reduceIte,Int.reduceToNat,Int.reduceLE,Int.reduceLT,Int.reduceNe,Int.reduceEq,gj,h6]
   repeat (refine⟨l4 (by simp(maxDischargeDepth:=12) (maxSteps:=1000000) -implicitDefEqProofs only[go_sem,Nat.reduceAdd,Nat.reduceSub,Nat.reduceMul,Nat.reduceLeDiff,Nat.reduceEqDiff,Nat.reduceGT,Nat.reduceBEq,reduceCtorEq,↓reduceIte,Int.reduceToNat,Int.reduceLE,Int.reduceLT,Int.reduceNe,Int.reduceEq]),?_⟩)
   exact l4 (by simp(maxDischargeDepth:=12) (maxSteps:=1000000) -implicitDefEqProofs only[go_sem,Nat.reduceAdd,Nat.reduceSub,Nat.reduceMul,Nat.reduceLeDiff,Nat.reduceEqDiff,Nat.reduceGT,Nat.reduceBEq,reduceCtorEq,↓reduceIte,Int.reduceToNat,Int.reduceLE,Int.reduceLT,Int.reduceNe,Int.reduceEq])
theorem Vv(w0:W0)(o:Zt)(n:N)(l:List C)(q t:Int)(hd:Bool)(S:St)(p:Pl)(htx:0≤o.bS∧o.bS≤1000000)(hrel:∀S,aa Tryz.prog w0 32 [dP o.p,dU t,dB hd] S (fun d S'=>d=dP p∧S'=S))
 (hf:∀S,aa Tryz.prog w0 127 [eV o.n o.l,eV n l,dL o.own,dP p,dI q] S (fun d S'=>d=dB false∧S'=S)):
 aa Tryz.prog w0 13 [eZ o,eV n l,dI q,dU t,dB hd] S (fun d S'=>d= .bI [eZ o,.sl 0 true [],.sl 0 true [],dB false]∧S'=S):=by
 have etx:IntKind.u64.wrap (o.bS+1)=o.bS+1:=kL (by omega) (by omega)
 refine ba [3,10] mx Tryz.func13 rfl rfl (by kernel_rfl) ?_;(refine @ab _ ?_;refine ao @Tryz.ntmps13 ?_)
 intro b5 b6 b10
 refine aS (hrel _) ?_
 (refine @ab _ ?_;refine ao @etx ?_)
 intro b
 refine eJ b.n 32 2 (by omega) (fg _ _ _) rfl fun lw=>?_
 refine jx [10] [] mx (by kernel_rfl) ?_
 (refine @ab _ ?_;refine ao @etx ?_)
 refine aq (Iz w0 _) ?_
 (refine @ab _ ?_;refine au ?_)
 refine aE [10] 6 [5,10,14,43,44,45] (fun k=>[(45,dI k)]) (fun k=>⟨(b.n,gj ({o with bS:=o.bS+1,n:=n,l:=l,own:=[],p:=p}:Zt) o (yo l) (.sl 0 true []) q (.sl 0 true []) lw.n 0)::(b10.n,[dI 0,dU 0,dI 0,dI 0,dI 0,dI 0,dB false,.sl 0 true [],.sl 0 true [],.sl 0 true [],.sl 0 true [],.sl 0 true [],dI 0,.sl 0 true [],.sl 0 true []])::(b6.n,[dI n.an,dB n.leaf,.sl 1 false (n.l.map fun c=>dS c.key),.sl 2 false ((if n.leaf then n.l else []).map fk),.sl 5 false ((aF n).map dT),.sl 6 false (l.map jR)])::(b5.n,dI o.label::dU o.bS::dI o.root::dI o.qe::dI o.high::dI o.n.an::dB o.n.leaf:: .sl 1 false (o.n.l.map fun c=>dS c.key):: .sl 2 false ((if o.n.leaf then o.n.l else []).map fk):: .sl 5 false ((aF o.n).map dT)::yo o.l::dL o.own::dI o.p.high:: .sl 1 false (o.p.free.map dI):: .sl 2 false (o.p.wait.map dW)::[])::S.box,(lw.n,.arr 2 [])::S.acc⟩) (fun k=>k=0) mx (by kernel_rfl) ?_ ?_
 ·simp(maxDischargeDepth:=12) (maxSteps:=1000000) -implicitDefEqProofs only[go_sem,Nat.reduceAdd,Nat.reduceSub,Nat.reduceMul,Nat.reduceLeDiff,Nat.reduceEqDiff,Nat.reduceGT,Nat.reduceBEq,reduceCtorEq,↓reduceIte,Int.reduceToNat,Int.reduceLE,Int.reduceLT,Int.reduceNe,Int.reduceEq,gj]
 ·intro k hk h0
  subst h0
  (refine @ab _ ?_;refine au ?_)
  intro b16
  refine aq (Rf w0 (z:={o with bS:=o.bS+1,n:=n,l:=l,own:=[],p:=p}) (b:=b.n) (lw:=lw.n) (ws:=[]) (W:= .sl 0 true []) (A:= .sl 0 true []) ⟨by(refine @ab _ ?_;exact aQ),by(refine @ab _ ?_;exact aQ)⟩ false hf) ?_
  simp(maxDischargeDepth:=12) (maxSteps:=1000000) -implicitDefEqProofs only[go_sem,Nat.reduceAdd,Nat.reduceSub,Nat.reduceMul,Nat.reduceLeDiff,Nat.reduceEqDiff,Nat.reduceGT,Nat.reduceBEq,reduceCtorEq,↓reduceIte,Int.reduceToNat,Int.reduceLE,Int.reduceLT,Int.reduceNe,Int.reduceEq]
end
theorem yr{k:Nat}{m:N}{l X:List C}{name:ByteArray}(hm:TB k m)(hc:jI (fun a b=>vH l a b∧a≠name) m)(h:∀c,c∈l→c.key≠name→c∈X):jI (vH X) m:=by
 obtain⟨_,d,hg,_⟩:=hm
 refine nx (ax hg) ?_ hc
 rintro e he ⟨⟨c,h1,h2,h3,h4⟩,h5⟩
 exact⟨c,h c h1 (by rw[h2];exact h5),h2,h3,h4⟩
theorem VU{k:Nat}{n:N}{l:List C}(h:VI k n l)(hk:k≤116)(hc:jI (vH l) n)(name:ByteArray):jI (vH (mu name n l).1.2) (mu name n l).1.1:=by
 have hv:=(Jh h hk name).dir
 unfold mu at hv ⊢
 cases hok:gI name with
 |false=>exact hc
 |true=>
  cases hh:dF l name with
  |true=>exact hc
  |false=>
   rw[hok,hh]at hv
   simp only[if_true,if_false,Bool.false_eq_true]at hv ⊢
   obtain⟨hne,hsz⟩:=dw hok
   obtain⟨_,d,hg,_⟩:=h.dir
   refine yr hv (BM hsz (by decide) hg hc) fun c hc _=>?_
   rw[←List.take_append_drop (aZ l name) l]at hc
   rw[List.append_assoc]
   rcases List.mem_append.1 hc with hc|hc
   ·exact List.mem_append_left _ hc
   ·exact List.mem_append_right _ (List.mem_append_right _ hc)
theorem WQ{k:Nat}{n:N}{l:List C}(h:VI k n l)(hk:k≤116)(hc:jI (vH l) n)(name:ByteArray):jI (vH (vu name n l).1.2) (vu name n l).1.1:=by
 have hv:=(Rg h hk name).dir
 unfold vu at hv ⊢
 cases hh:dF l name with
 |false=>exact hc
 |true=>
  rw[hh]at hv
  simp only[if_true]at hv ⊢
  obtain⟨A,b,B,hl,hb,hi,h1,h2⟩:=xk h.bP hh
  obtain⟨_,d,hg,_⟩:=h.dir
  have e:l.take (aZ l name)++l.drop (aZ l name+1)=A++B:=by rw[hi,hl];simp
  rw[e]
  refine yr hv (Ul hg hc) fun c hc hne=>?_
  rw[hl]at hc
  rcases List.mem_append.1 hc with hc|hc
  ·exact List.mem_append_left _ hc
  ·rcases List.mem_cons.1 hc with rfl|hc
   ·exact absurd hb hne
   ·exact List.mem_append_right _ hc
theorem Ll{k:Nat}{n:N}{l:List C}(h:VI k n l)(hk:k≤116)(hc:jI (vH l) n)(name:ByteArray)(f:N→N×Int)(hf:∀t,TB k t→TB (k+1) (f t).1):jI (vH (sD name f n l).1.2) (sD name f n l).1.1:=by
 have hv:=(QK h hk name f hf).dir
 unfold sD at hv ⊢
 cases hh:dF l name with
 |false=>exact hc
 |true=>
  rw[hh]at hv
  obtain⟨A,b,B,hl,hb,hi,h1,h2⟩:=xk h.bP hh
  have hgb:l[aZ l name]? =some b:=by rw[hi,hl];simp
  simp only[if_true,hgb]at hv ⊢
  by_cases e0:(f (ay b)).2=0
  ·rw[if_pos e0]at hv ⊢
   obtain⟨hne,hsz⟩:=dw (h.cell b (List.mem_of_getElem? hgb)).2.2
   rw[hb]at hne hsz
   obtain⟨_,d,hg,_⟩:=h.dir
   have e:l.set (aZ l name) (af b.key (f (ay b)).1)=A++af b.key (f (ay b)).1::B:=by rw[hi,hl];simp
   simp only at hv ⊢
   rw[e]
   refine yr hv (BM hsz (by decide) hg hc) fun c hc hne=>?_
   rw[hl]at hc
   rcases List.mem_append.1 hc with hc|hc
   ·exact List.mem_append_left _ hc
   ·rcases List.mem_cons.1 hc with rfl|hc
    ·exact absurd hb hne
    ·exact List.mem_append_right _ (List.mem_cons_of_mem _ hc)
  ·rw[if_neg e0]
   exact hc
theorem QS{j k:Nat}{z:Zt}{n:N}{l:List C}(hz:ZI j z)(hv:ZV k z n l)(hj:j≤k):BI k (n,l) (z.n,z.l) z.p.high:=
 ⟨hv.vi,fF hz.vi hj,hv.tv,hz.fr,hv.sub,List.nodup_iff_count.1 (List.nodup_append.1 hz.nd).1,fun p hp=>hz.qW p (List.mem_append_left _ hp),hz.keep.pQ.2.2.1,hz.keep.pQ.2.2.2.1⟩
theorem yS{k:Nat}{z:Zt}{q:N×List C}(hb:BI k q (z.n,z.l) z.p.high)(hc:jI (vH q.2) q.1):ZV k z q.1 q.2:=⟨hb.v,hb.tv,hc,hb.sub⟩
theorem Pw{k m:Nat}{z:Zt}{n:N}{l:List C}(h:ZV k z n l)(hm:k≤m):ZV m z n l:=⟨fF h.vi hm,h.tv,h.cl,h.sub⟩
structure Sp where
 kind:Int
 name:ByteArray
 key:ByteArray
 size:Int
@[go_sem] def W7 (s:Sp):DV:= .agg [dI s.kind,dS s.name,dS s.key,dI s.size]
def l5(s:Sp)(q:N×List C):N×List C:=
 if s.kind=0 then(mu s.name q.1 q.2).1 else if s.kind=1 then(vu s.name q.1 q.2).1
 else if s.kind=2 then(rU s.name s.key (strOfNums (List.replicate s.size.toNat 0)) q.1 q.2).1
 else if s.kind=3 then(OG s.name s.key q.1 q.2).1 else q
theorem LF{j k:Nat}{z:Zt}{q:N×List C}(hz:ZI j z)(hj:j≤k)(hk:k≤116)(h:ZV k z q.1 q.2)(s:Sp):ZV (k+1) z (l5 s q).1 (l5 s q).2:=by
 have hb:=QS hz h hj
 unfold l5
 by_cases h0:s.kind=0
 ·rw[if_pos h0]
  exact yS (WU hb hk s.name) (VU h.vi hk h.cl s.name)
 ·rw[if_neg h0]
  by_cases h1:s.kind=1
  ·rw[if_pos h1]
   exact yS (VG hb hk s.name) (WQ h.vi hk h.cl s.name)
  ·rw[if_neg h1]
   by_cases h2:s.kind=2
   ·rw[if_pos h2]
    refine yS (Q4 hb hk s.name s.key _) ?_
    unfold rU
    split
    ·rename_i hc
     simp only[Bool.and_eq_true,decide_eq_true_eq]at hc
     obtain⟨hne,hsz⟩:=dw hc.1
     exact Ll h.vi hk h.cl s.name _ fun t ht=>tR ht hk hne hsz hc.2
    ·exact h.cl
   ·rw[if_neg h2]
    by_cases h3:s.kind=3
    ·rw[if_pos h3]
     refine yS (WD hb hk s.name s.key) ?_
     unfold OG
     refine Ll h.vi hk h.cl s.name _ fun t ht=>?_
     split
     ·exact DX ht hk
     ·exact lJ ht (by omega)
    ·rw[if_neg h3]
     exact Pw h (by omega)
def z0(label:Int):Zt:=⟨label,0,0,0,2,l6,[],[],⟨2,[],[]⟩⟩
theorem FI{label:Int}(h:0≤label∧label≤63):ZI 0 (z0 label):=by
 have hk:=Dr 1000 (by omega)
 refine⟨QG 0,⟨⟨yE,uj,Q7⟩,fun c hc=>absurd hc List.not_mem_nil⟩,rfl,?_,List.nodup_nil,fun x hx=>(by cases hx),EA hk fun i=>rfl,rfl,rfl,⟨Int.le_refl _,Int.le_refl _⟩,h⟩
 exact Dd (ax (xU:Good 0 l6)) fun e he=>by cases he
theorem n7{k:Nat}{z:Zt}(h:ZI k z):(cb z.n z.l++z.own++listed z.p).Perm (bP 2 (z.p.high-2).toNat):=by
 obtain⟨c1,c2⟩:=sa h.keep.pQ
 have h2:=h.keep.pQ.2.2.1
 have hP:(cb z.n z.l++z.own++listed z.p).Perm (gM (z.n,z.l)++z.own++jc z.p):=by
  rw[cC]
  exact((Af h.vi).append_right _).append (bJ _)
 have hnot:∀x,x∈gM (z.n,z.l)++z.own→x∉jc z.p:=fun x hx=>by
  have h3:=h.qW x hx
  have:=(h.keep.own x.toNat (by unfold dD;rw[decide_eq_true_eq,Int.toNat_of_nonneg (by omega)];exact hx)).2.2
  rwa [Int.toNat_of_nonneg (by omega)]at this
 have hN:(gM (z.n,z.l)++z.own++jc z.p).Nodup:=List.nodup_append.2 ⟨h.nd,c2,fun a ha b hb e=>hnot a ha (e▸hb)⟩
 refine hP.trans ((List.perm_ext_iff_of_nodup hN (jQ (si _ _))).2 fun x=>?_)
 rw[List.mem_append,kF]
 constructor
 ·rintro(hx|hx)
  ·have:=h.qW x hx;omega
  ·have:=c1 x hx;omega
 ·rintro⟨g1,g2⟩
  rcases h.keep.all x g1 (by omega)with hx|hx
  ·exact .inr hx
  ·unfold dD at hx
   rw[decide_eq_true_eq,Int.toNat_of_nonneg (by omega)]at hx
   exact .inl hx
theorem Hx{k:Nat}{z:Zt}(h:ZI k z):cX (cb z.n z.l++z.own++listed z.p)=bP 2 (z.p.high-2).toNat:=
 (n8 ((si _ _).imp fun h=>by omega) (n7 h).symm).symm
theorem MN{h:Int}{n i:Nat}{x:Int}(e:(bP h n)[i]? =some x):x=h+i:=by
 unfold bP at e
 rw[List.getElem?_map]at e
 cases hr:(List.range n)[i]? with
 |none=>rw[hr]at e;cases e
 |some j=>
  rw[hr]at e
  have hj:j=i:=by
   obtain⟨u,e2⟩:=List.getElem?_eq_some_iff.1 hr
   rw[List.getElem_range]at e2;exact e2.symm
  subst hj
  exact(Option.some.inj e).symm
theorem Ou{k:Nat}{z:Zt}(h:ZI k z)(hl:z.qe=z.own.headD 0):(z.root=0∨(2≤z.root∧z.root<z.high))∧(z.qe=0∨(2≤z.qe∧z.qe<z.high))∧(z.root=0∨z.root≠z.qe)∧2≤z.high∧z.high≤1000:=by
 have hr:z.root≠0→z.root∈gM (z.n,z.l):=fun e=>by
  rw[h.root]at e ⊢
  exact List.mem_append_left _ (xI e)
 have ho:z.qe≠0→z.qe∈z.own:=fun e=>by
  rw[hl]at e ⊢
  cases ho:z.own with
  |nil=>rw[ho]at e;exact absurd rfl e
  |cons a r=>exact List.mem_cons_self
 have hh:=h.high
 have hc:=h.keep.pQ
 refine⟨?_,?_,?_,by rw[hh];exact hc.2.2.1,by rw[hh];exact hc.2.2.2.1⟩
 ·by_cases e:z.root=0
  ·exact .inl e
  ·have:=h.qW _ (List.mem_append_left _ (hr e))
   exact .inr (by rw[hh];exact this)
 ·by_cases e:z.qe=0
  ·exact .inl e
  ·have:=h.qW _ (List.mem_append_right _ (ho e))
   exact .inr (by rw[hh];exact this)
 ·by_cases e:z.root=0
  ·exact .inl e
  ·refine .inr fun e2=>?_
   exact(List.nodup_append.1 h.nd).2.2 _ (hr e) _ (ho (by rw[←e2];exact e)) e2
theorem Mc{p:Pl}{q:Int}(hc:G4 p q):p.wait.length≤nW p.wait:=by
 have:∀l:List Wt,(∀w,w∈l→w.aj≠[])→l.length≤nW l:=by
  intro l
  induction l with
  |nil=>intro _;exact Nat.zero_le _
  |cons a l ih=>
   intro h
   have h1:=ih fun w hw=>h w (List.mem_cons_of_mem _ hw)
   have h2:0<a.aj.length:=List.length_pos_iff.2 (h a List.mem_cons_self)
   simp only[nW,List.map_cons,List.sum_cons,List.length_cons]at*
   omega
 exact this _ fun w hw e=>hc.2.1 w hw (.inl e)
theorem fM{top:Nat}{p:Pl}{h:Nat→Bool}{t:Int}(k:og top p h t):p.free.length+nW p.wait≤top∧p.wait.length≤top∧2≤p.high∧p.high≤top:=by
 have h1:=uK k
 have h2:=Mc k.pQ
 rw[lu]at h1
 have:=k.pQ.2.2.1
 have:=k.pQ.2.2.2.1
 omega
theorem tL{k:Nat}{z:Zt}(h:ZI k z)(n:N)(l:List C):(bE z n l).length≤1000∧(fO (cb n l) (cb z.n z.l)).length+z.own.length≤1000∧z.own.length≤1000:=by
 have h1:=(n7 h).length_eq
 rw[jg,List.length_append,List.length_append]at h1
 have h2:=h.keep.pQ.2.2.2.1
 have h3:(fO (cb n l) (cb z.n z.l)).length≤(cb z.n z.l).length:=by unfold fO;exact List.length_filter_le _ _
 unfold bE
 rw[List.length_append]
 omega
def RF(z:Zt)(n:N)(l:List C)(p:Pl)(W:List (Int×ByteArray)):List (Int×ByteArray):=W++(fx z n l p).zip (gL (listed (ot z n l p)) (fx z n l p))
theorem QP(w0:W0){k:Nat}{z:Zt}{n:N}{l:List C}{q t:Int}{hd:Bool}(S:St)(hz:ZI k z)(hv:ZV k z n l)(hk:k≤116)(hq0:0≤q)(hq:q≤1000)(hf:¬jL z n l q (release z.p t hd)):
 aa Tryz.prog w0 13 [eZ z,eV n l,dI q,dU t,dB hd] S (fun d S'=>d= .bI [eZ z,.sl 0 true [],.sl 0 true [],dB false]∧S'=S):=by
 have ks:=fM hz.keep
 have kr:=fM (pq hz.keep t hd)
 obtain⟨b1,b2,b3⟩:=tL hz n l
 refine Vv w0 z n l q t hd S (release z.p t hd) ⟨hz.bS.1,by have:=hz.bS.2;omega⟩ (fun S=>zK w0 z.p t hd S (by omega) (by omega)) fun S=>?_
 have:=wD w0 k z.n z.l n l z.own (release z.p t hd) q S hz.vi hv.vi hk (by omega) (by omega) (by omega) (by omega) (by omega) (by omega) (by omega)
 have e:decide ((lX (n,l) (release z.p t hd) ((fO (cb n l) (cb z.n z.l)).length+z.own.length):Int)≤dg (release z.p t hd) q)=false:=decide_eq_false fun h=>hf (by unfold jL bE;rw[List.length_append];exact h)
 rw[e]at this
 exact this
def UL(n:N)(l:List C)(q:List Int)(M:N)(X:List C)(R:List Int)(W:List (Int×ByteArray)):Prop:=∃V,X=(eD l n q).l∧W=(eD l n q).w++V∧bk (eD l n q).n ((eD l n q).q,[])=(M,(R,V))
theorem IU(w0:W0)(hg:fE w0){k:Nat}{z:Zt}{n:N}{l:List C}{q t:Int}{hd:Bool}(hz:ZI k z)(hv:ZV k z n l)(hk:k≤115)(hq0:0≤q)(hq:q≤1000)(hf:jL z n l q (release z.p t hd)):
 ∃M X R W,PA k n l (cV (release z.p t hd) (ct (n,l))) M X R W∧PO k z n l q (release z.p t hd) M X∧UL n l (cV (release z.p t hd) (ct (n,l))) M X R W∧∀S,
  aa Tryz.prog w0 13 [eZ z,eV n l,dI q,dU t,dB hd] S (fun d S'=>d= .bI [eZ (oL z n l (release z.p t hd) M X),.sl 2 false ((RF z n l (release z.p t hd) W).map nH),fv (sH (oL z n l (release z.p t hd) M X).label (oL z n l (release z.p t hd) M X).bS (oL z n l (release z.p t hd) M X).root (oL z n l (release z.p t hd) M X).qe (oL z n l (release z.p t hd) M X).high),dB true]∧S'=S):=by
 have ks:=fM hz.keep
 have kp:=pq hz.keep t hd
 have kr:=fM kp
 obtain⟨b1,b2,b3⟩:=tL hz n l
 have hrel:=fun S=>zK w0 z.p t hd S (by omega) (by omega)
 have hfi:=fun S=>wD w0 k z.n z.l n l z.own (release z.p t hd) q S hz.vi hv.vi (by omega) (by omega) (by omega) (by omega) (by omega) (by omega) (by omega) (by omega)
 have e:decide ((lX (n,l) (release z.p t hd) ((fO (cb n l) (cb z.n z.l)).length+z.own.length):Int)≤dg (release z.p t hd) q)=true:=decide_eq_true (by unfold jL bE at hf;rw[List.length_append]at hf;exact hf)
 rw[e]at hfi
 have hph:(release z.p t hd).high=z.p.high:=rfl
 generalize release z.p t hd=p at*
 have hm1:may p q (ct (n,l)):=by
  have hfit:lX (n,l) p (bE z n l).length=ct (n,l)+nE (p.free.length-ct (n,l)) (nW p.wait+(bE z n l).length):=rfl
  unfold jL at hf
  rw[hfit]at hf
  exact⟨by omega,by omega⟩
 have hmt:=sk hm1 hq
 have hpv:=QF hz hv kp hmt
 obtain⟨hmC,hbC,M,R,V,hld,hpa⟩:=M4 hpv
 have hpo:=Qt hz hv kp hph hq hf hpa
 refine⟨M,(eD l n (cV p (ct (n,l)))).l,R,(eD l n (cV p (ct (n,l)))).w++V,hpa,hpo,⟨V,rfl,rfl,hld.eq⟩,fun S=>?_⟩
 have htl:(cV p (ct (n,l))).length=ct (n,l):=by rw[kj];omega
 have hfl:ct (n,l)≤1000:=by
  have h1:=uK kp
  rw[lu]at h1
  have h2:=hm1.2
  unfold dg at h2
  split at h2 <;>omega
 obtain⟨t1,t2,t3⟩:=kR kp hmt
 have k2:=fM t3
 generalize hC:eD l n (cV p (ct (n,l)))=C at*
 have hback:=hpo.back
 obtain⟨b4,b5,b6⟩:=tL hz M C.l
 have hg1:=we (l:=bE z n l) t3.old
 have hp3:mR (take p (ct (n,l))) (z.bS+1) (bE z n l)=mc z n l p:=rfl
 have hp4:take (mc z n l p) (sO z n l p)=ot z n l p:=rfl
 have hp5:cV (mc z n l p) (sO z n l p)=fx z n l p:=rfl
 rw[hp3]at hg1
 obtain⟨g1,g2,g3⟩:=hg1
 have k4:=fM hpo.zi.keep
 have hm2:=hpo.m2
 have hw3:(mc z n l p).wait.length≤1000:=k4.2.1
 have hf3:(mc z n l p).free.length≤1000:=by rw[g1];omega
 have h4a:(ot z n l p).free.length+nW (ot z n l p).wait≤1000:=k4.1
 have h4b:(ot z n l p).wait.length≤1000:=k4.2.1
 have hCq:C.q.length≤1000:=by
  have:=(yc hpv l.length (Nat.le_refl _)).left
  rw[List.take_length,hC]at this
  rw[this,List.length_drop];omega
 have hwl:(C.w++V).length≤1000:=by
  have:=congrArg List.length hpa.wr
  rw[List.length_map,List.length_take]at this;omega
 have hol:(fx z n l p).length≤3000:=by
  rw[←hp5,kj]
  have h2:=hm2.2
  unfold dg at h2
  split at h2 <;>omega
 have hlz:(gL (listed (ot z n l p)) (fx z n l p)).length=(fx z n l p).length:=v8 _ _
 have hpv2:VI k M C.l:=hpa.vi
 let z0:Zt:={z with bS:=z.bS+1,n:=n,l:=l,own:=[],p:=p}
 let X:Nat→Sg:=fun i=>match i with
  |0=>⟨z0,.sl 0 true [],.sl 0 true [],[]⟩
  |1=>⟨z0,.sl 0 true [],.sl 0 true [],[]⟩
  |2=>⟨{z0 with p:=take p (ct (n,l))},.sl 0 true [],dL (cV p (ct (n,l))),[]⟩
  |3=>⟨{z0 with p:=take p (ct (n,l)),n:=C.n,l:=C.l},.sl 0 true [],dL C.q,C.w⟩
  |4=>⟨{z0 with p:=take p (ct (n,l)),n:=M,l:=C.l,root:=M.an},.sl 0 true [],dL R,C.w++V⟩
  |5=>⟨{z0 with p:=mc z n l p,n:=M,l:=C.l,root:=M.an},.sl 0 true [],dL R,C.w++V⟩
  |_=>⟨oL z n l p M C.l,dL (fx z n l p),dL R,RF z n l p (C.w++V)⟩
 have hmo:=Ou hpo.zi rfl
 refine WV w0 hg z n l q t hd S p X ⟨hz.bS.1,by have:=hz.bS.2;omega⟩ hrel rfl rfl ?_ ?_ ?_ ?_ ?_ ?_ ?_
 ·have hx:=hpo.zi
  exact⟨hx.label,⟨by have:=hz.bS.1;show 0<z.bS+1;omega,by have:=hx.bS.2;show z.bS+1≤_;have h2:z.bS+1≤((k+1:Nat):Int):=this;omega⟩,hmo.2.2.2,hmo.1,hmo.2.1,hmo.2.2.1⟩
 ·intro S b lw h
  refine aa.mono (Rf w0 h true hfi) fun d S' e=>⟨e.1,?_⟩
  rw[e.2];exact(MB h).symm
 ·intro S b lw h
  exact UN w0 (ct (n,l)) h (take p (ct (n,l))) (cV p (ct (n,l))) true (fun S=>tD w0 k n l S hv.vi (by omega)) fun S=>QQ w0 p q _ S hm1 (by omega) (by omega) (by omega) (by omega) (by omega)
 ·intro S b lw h
  have:=Jt w0 hg k (by omega) (cV p (ct (n,l))) (by omega) (z:=(X 2).z) hpv h
  rw[show eD (X 2).z.l (X 2).z.n (cV p (ct (n,l)))=C from hC]at this
  exact this
 ·intro S b lw h
  refine XZ w0 C.q R M V h (by rw[List.length_append]at hwl;show C.w.length+V.length≤_;omega) fun S=>?_
  have:=UY w0 hg C.n C.q S (Av hbC (by omega)) (by omega)
  rw[IG hmC hld]at this
  exact this
 ·intro S b lw h
  refine U7 w0 (fO (cb M C.l) (cb z.n z.l)) h (by omega) (mc z n l p) (fun S=>vL w0 k z.n z.l M C.l S hz.vi hpv2 (by omega)) fun S=>?_
  have:=Wp w0 (take p (ct (n,l))) (z.bS+1) (bE z n l) S (by omega) (by omega)
  rw[hp3,←hback]at this
  exact this
 ·intro S b lw h
  have hzz:((RF z n l p (C.w++V))=(C.w++V)++(fx z n l p).zip (gL (listed (ot z n l p)) (fx z n l p))):=rfl
  refine Wo w0 h (nW (mc z n l p).wait) (sO z n l p) (ot z n l p) (fx z n l p) (listed (ot z n l p)) (gL (listed (ot z n l p)) (fx z n l p)) (by rw[hlz];show(C.w++V).length+_≤_;omega) hlz (by show(mc z n l p).free.length≤_;omega) (fun S=>waiting w0 (mc z n l p) S (by omega) (by omega)) (fun S=>?_) (fun S=>?_) (fun S=>xP w0 (ot z n l p) S (by omega) (by omega)) fun S=>OI w0 hg _ _ S (by rw[lu];omega) (by omega) hpo.row hpo.many hpo.nd hpo.qW
  ·have:=An w0 ((mc z n l p).free.length:Int) (nW (mc z n l p).wait:Int) S (by omega) (by omega) (by omega) (by omega)
   rw[Int.toNat_natCast,Int.toNat_natCast]at this
   exact this
  ·have:=QQ w0 (mc z n l p) q (sO z n l p) S hm2 (by omega) (by omega) (by omega) (by omega) (by omega)
   exact this
end Go.Proofs.YtpjenciplibdnaaGreatDoor
